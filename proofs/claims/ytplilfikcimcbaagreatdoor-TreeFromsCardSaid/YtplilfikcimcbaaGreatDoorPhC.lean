/- A part of the proof: nothing is stated here for its own sake. -/
import Derived.Test.YtplilfikcimcbaaGreatDoorPhB
import Derived.Shelf.Unicode.ValidAny
import Derived.Test.YtplilfikcimcbaaGreatDoorTie
import Derived.Test.YtplilfikcimcbaaGreatDoorCards
import Derived.PinnedBridge
import Derived.Lay
import Derived.HandedShaped
open _root_.Go.Addr renaming add->Ua
open _root_.Array renaming getElem?_eq_some_iff->Ut,getElem?_setIfInBounds_ne->Vy,getElem?_toList->VF,replicate->VL,size->UA,size_push->Ur
open _root_.BitVec renaming ofInt->Vs
open _root_.Bool renaming and_eq_false_iff->VW,and_eq_true->Ui,and_true->V4,cond_false_right->VG,cond_true_left->VS,eq_iff_iff->Uy,false_and->XU,false_eq_true->UR,false_or->XN,not_eq_true'->WZ,or_eq_true->Vq,true_and->Vo
open _root_.Go.Builtin renaming append_->Ug
open _root_.Classical renaming byContradiction->WB
open _root_.Go.Extern.AbiNoEscape renaming same->YV
open _root_.Go.Instr renaming lookup->XG,mapUpdate->VC,next->WS,storeAt->Ub
open _root_.Int renaming toNat_natCast->Ue
open _root_.Go.IntKind renaming bits->U4,i64->Ve,signed->XT,wrap->T9
open _root_.List renaming all_append->WX,all_cons->WQ,all_eq_true->Us,append_assoc->UB,append_nil->UM,cons_append->UF,dropWhile_cons->WM,drop_drop->Vl,drop_eq_getElem_cons->UZ,drop_eq_nil_of_le->Vr,drop_zero->VD,eq_nil_of_length_eq_zero->UK,exists_cons_of_ne_nil->U9,getD_eq_getElem?_getD->U0,getElem?_drop->Va,getElem?_eq_getElem->Ul,getElem?_take->UU,getElem_append_left->Vt,getElem_append_right->VP,getElem_mem->Up,getElem_of_mem->WK,length->VA,length_append->Uf,length_cons->Uk,length_drop->UD,length_eq_zero_iff->Vk,length_map->Um,length_pos_iff->U5,length_replicate->VI,length_singleton->VH,length_take->UQ,map_append->U7,mem_append->Uv,mem_cons->Uj,mem_of_getElem?->Vf,mem_range->UY,mem_singleton->Vb,nil_append->UX,range->U8,replicate->Vh,take_append_drop->Vw,take_length->Uz,take_of_length_le->Vi,take_succ_eq_append_getElem->Uh
open _root_.Nat renaming add_mul->VU,add_zero->WP,le_of_lt->XX,le_refl->Uc,le_trans->VB,lt_of_lt_of_le->WR,lt_or_ge->U1,min_eq_left->V9,mul_comm->XJ,mul_le_mul_right->UC,mul_one->Vz,pow_succ->YI,strongRecOn->YD,zero_add->UI
open _root_.Option renaming map_eq_some_iff->VN,map_some->XK
open _root_.Option.some renaming inj->UO,injEq->Ud
open _root_.Prod.mk renaming injEq->Vg
open _root_.Go.Proofs.Tryz renaming prog->UN
open _root_.UInt8 renaming ofNat->UL,toNat_inj->XL
open _root_.Go.Utf8 renaming encode->YN
open _root_.Go.Value renaming int->UT,slice->VV
set_option linter.unusedVariables false
set_option maxRecDepth 100000
namespace Go.X
end Go.X
namespace Go.Proofs
end Go.Proofs
open Go Go.X Go.Proofs
open _root_.Bool renaming true->Ta,false->Tc
open _root_.Option renaming some->Td,none->Te
namespace Go.X
section
open Go.Lib
variable {n k:Nat} {l s:Bs}
theorem Rr{c:UInt8}(b:n<256):c=UL n↔c.toNat=n:=by constructor;rintro rfl;simp;omega;intro h;rw[<-h];simp
theorem Ze(c:UInt8):∀l:Bs,-1<=indexByte l c/\(0<=indexByte l c↔c∈l)
 |[]=>by simp[indexByte]
 |b::l=>by have i:=Ze c l;unfold indexByte;by_cases h:b=c;simp[h];have h':¬c=b:=λe=>h e.symm;simp only[beq_iff_eq,h,if_false,Uj,h',false_or];obtain⟨k,f⟩:=i;split;rename_i e;rw[e]at f;exact⟨by omega,by rw[<-f]⟩;rename_i e;refine⟨by omega,?_⟩;rw[<-f];omega
theorem W0(u:Nat):(decDigits u).length<=u+1:=by rw[decDigits];split;simp;rename_i h;have:=W0 (u / 10);simp;omega
theorem itoa_len(n:Int):(itoa n).length<=n.natAbs+2:=by unfold itoa;split;have:=W0 n.natAbs;simp;omega;have:=W0 n.toNat;omega
theorem dig_ext:∀k:Nat,k<10->(([48,49,50,51,52,53,54,55,56,57]:Bs).drop k).take (k+1-k)=[UL (48+k)]:=by decide
theorem CQ(l:Bs)(c:UInt8):hasPrefix l [c]=(l.head?==Td c):=by
 cases l with
 |nil=>rfl
 |cons b t=>simp[hasPrefix,List.isPrefixOf];rw[Uy];simp;exact eq_comm
theorem Bb(l:Bs)(c:UInt8):trimPrefix l [c]=if l.head?==Td c then l.tail else l:=by unfold trimPrefix;rw[CQ];split <;> simp
theorem yO(l:Bs)(c:UInt8):zl (l++[c])=10*zl l+(c.toNat-48):=by simp[zl,List.foldl_append]
theorem xm(b:k<l.length):zl (l.take (k+1))=10*zl (l.take k)+(l[k].toNat-48):=by rw[Uh b,yO]
theorem ue{p:UInt8->Bool}(h:l.all p=Ta)(k:Nat):(l.take k).all p=Ta:=by rw[Us]at h ⊢;exact λx b=>h x (List.mem_of_mem_take b)
theorem F0{p:UInt8->Bool}(h:l.all p=Ta)(k:Nat):(l.drop k).all p=Ta:=by rw[Us]at h ⊢;exact λx b=>h x (List.mem_of_mem_drop b)
theorem pT(h:l.all yb=Ta)(b:k<l.length):48<=l[k].toNat/\l[k].toNat<=57:=by have:=Us.1 h _ (Up b);simpa[yb]using this
theorem BC:∀(n:Nat) (l:Bs),l.length=n->l.all yb=Ta->zl l<10 ^ n
 |0,l,h,_=>by have:l=[]:=UK h;subst this;simp[zl]
 |n+1,l,h,hd=>by
  have b:l=l.take (n+1):=by rw[<-h,Uz]
  rw[b,xm (by omega)];have h1:=BC n (l.take n) (by simp;omega) (ue hd n);have h2:=pT hd (k:=n) (by omega);rw[YI];omega
theorem lZ(b:l.length<=n)(h:l.all yb=Ta):zl l<10 ^ n:= WR (BC _ l rfl h) (Nat.pow_le_pow_right (by omega) b)
theorem Qp(h:Zn l=Ta):l.all yb=Ta:=by unfold Zn at h;exact(Bool.and_eq_true_iff.1 h).1
theorem W5{p q:UInt8->Bool}(h:l.all p=Ta):(l.dropWhile q).all p=Ta:=by rw[Us]at h ⊢;exact λx b=>h x ((List.dropWhile_sublist q).mem b)
theorem wv(l:Bs)(q:UInt8->Bool):(l.dropWhile q).length<=l.length:=(List.dropWhile_sublist q).length_le
theorem CU{q:UInt8->Bool}:∀c,(l.dropWhile q).head?=Td c->q c=Tc:=by
 induction l with
 |nil=>simp
 |cons b t e=>intro c h;rw[WM]at h;split at h;exact e c h;rename_i f;simp at h;subst h;exact Bool.eq_false_iff.2 f
theorem Qq(h:l.all yb=Ta)(i:l.dropWhile (· == 48)≠[]):Zn (jw l)=Ta/\(jw l).length<=(l.dropWhile (· == 48)).length/\((jw l).head? != Td 48)=Ta/\((jw l).getLast? != Td 48)=Ta:=by
 unfold jw;obtain⟨c,t,f⟩:=U9 i;have k:(c==48)=Tc:=by have:=CU (l:=l) (q:=(· == 48)) c (by rw[f];rfl);simpa using this
 have key:∀(t:Bs),∃u,((c::t).reverse.dropWhile (· == 48)).reverse=c::u:=by
  intro t;rw[List.reverse_cons];have m:∀(r:Bs),∃u,(r++[c]).dropWhile (· == 48)=u++[c]:=by
   intro r;induction r with
   |nil=>exact⟨[],by simp[k]⟩
   |cons b r n=>rw[UF,WM];split;exact n;exact⟨b::r,rfl⟩
  obtain⟨u,e⟩:=m t.reverse;exact⟨u.reverse,by rw[e];simp⟩
 rw[f];obtain⟨u,e⟩:=key t;refine⟨?_,?_,?_,?_⟩;rw[Zn,Bool.and_eq_true_iff];refine⟨?_,by rw[e];rfl⟩;rw[List.all_reverse];apply W5;rw[List.all_reverse,<-f];exact W5 h;rw[List.length_reverse];refine VB (wv _ _) ?_;simp;rw[e];simp;simpa using k;rw[List.getLast?_reverse];cases hh:((c::t).reverse.dropWhile (· == 48)).head? with
 |none=>rfl
 |some x=>have:=CU (l:=(c::t).reverse) (q:=(· == 48)) x hh;simpa using this
theorem Dw(h:l.all yb=Ta)(b:l.dropWhile (· == 48)≠[])(k:l.length<=1000)(neg:Bool)(e:Int):qk (neg,jw l,e)=(decide (-1000000<=e)&&decide (e<=1000000)):=by
 obtain⟨h1,h2,i,f⟩:=Qq h b;have m:=wv l (· == 48);have c:(jw l).isEmpty=Tc:=by rw[Zn]at h1;have:=(Bool.and_eq_true_iff.1 h1).2;simpa using this
 unfold qk Q9;simp only[h1,i,f,c,Bool.and_false,XU,XN,Vo];have:decide ((jw l).length<=1000)=Ta:=by simp;omega
 rw[this];simp
theorem sE{x:Lit}(h:Qj s=Td x):Zn x.whole=Ta/\x.rest.all yb=Ta/\x.exp.all yb=Ta:=by
 obtain⟨b,rfl⟩:=uI h;unfold Wy at b;simp only[Ui]at b;obtain⟨⟨⟨h1,h2⟩,c⟩,e⟩:=b;refine⟨h2,?_,?_⟩;show(jm s).2.1.all yb=Ta;cases hp:(jm s).2.2 with
 |true=>rw[hp]at c;exact Qp (by simpa using c)
 |false=>rw[show(jm s).2.1=[]from(Jx hp).2];rfl
 show(if(jl s).2.2 then dh s else []).all yb=Ta;cases hm:(jl s).2.2 with
 |true=>rw[hm]at h1;simpa using Qp (by simpa using h1)
 |false=>rfl
theorem vA(p:UInt8->Bool)(l:Bs):(cutAt p l).1.length+(cutAt p l).2.1.length<=l.length:=by
 induction l with
 |nil=>simp[cutAt]
 |cons c t b=>unfold cutAt;split <;> simp <;> omega
theorem tn{x:Lit}(h:Qj s=Td x):x.whole.length+x.rest.length+x.exp.length<=s.length:=by
 obtain⟨b,rfl⟩:=uI h;have h1:(dG s).length<=s.length:=by unfold dG;split <;> simp
 have h2:=vA eC (dG s);have f:=vA eM (jl s).1;have c:(dh s).length<=(jl s).2.1.length:=by unfold dh;split;simp;split <;> simp
 have e:(if(jl s).2.2 then dh s else []).length<=(jl s).2.1.length:=by split;exact c;simp
 show(jm s).1.length+(jm s).2.1.length+(if(jl s).2.2 then dh s else []).length<=s.length;unfold jm;unfold jl at *;omega
end
section
section
variable {gl:Fr} {l s:Bs}
theorem Dx(c:UInt8):(((c.toNat:Int)).toNat).toUInt8=c:=by simp
theorem xB{l sep:Bs}{p:UInt8->Bool}(o:∀c,p c=Ta↔c∈sep)(q:l.length<=4611686018427387904){R:Bt×Bt×Bool->Prop}(h:R (bl (cutAt p l).1,bl (cutAt p l).2.1,(cutAt p l).2.2)):
  PC Tp gl 268 [Arg.mk .str (bl l),Arg.mk .str (bl sep)] [.str,.str,.bool] R:=by
 apply IY;simp only[zh,qc,qe];refine⟨λi=>∃k:Nat,i=k/\k<=l.length/\∀j (f:j<l.length),j<k->p l[j]=Tc,λi=>l.length-i.toNat,⟨0,rfl,by omega,λj _ h=>by omega⟩,?_⟩;rintro i ⟨k,rfl,t,h2⟩;refine⟨λn=>?_,λn=>?_⟩;have b:k<l.length:=by simpa using n
 simp only[Ue,gJ b];refine⟨by omega,tP ?_⟩;rw[Dx,ym];have s:=(Ze l[k] sep).2;rw[qn b q];refine⟨λm=>⟨by omega,by omega,?_⟩,λm=>⟨⟨k+1,rfl,by omega,λj f r=>?_⟩,by simp;omega⟩⟩;have e:p l[k]=Ta:=(o _).2 (s.1 (by simpa using m));rw[mj b (λj f=>h2 j (by omega) f) e]at h;simp only[Ue,Int.toNat_zero,VD,Nat.sub_zero];simp_all[Vi];grind;grind [Qz,WK]
theorem Fy{c:UInt8}{R:Bt×Bool->Prop}(h:R (bl (if l.head?==Td c then l.tail else l),l.head?==Td c)):PC Tp gl 267 [Arg.mk .str (bl l),Arg.mk .str (bl [c])] [.str,.bool] R:=by refine OC ?_;rw[ym,ym,Bb,CQ];exact h
theorem Gm{c:UInt8}{R:Bt->Prop}(h:R (bl (if l.head?==Td c then l.tail else l))):PC Tp gl 269 [Arg.mk .str (bl l),Arg.mk .str (bl [c])] [.str] R:=by refine G0 ?_;rw[ym,ym,Bb];exact h
theorem vd{R:Bt->Prop}(h:R (bl (l.dropWhile (· == 48)))):PC Tp gl 218 [Arg.mk .str (bl l),Arg.mk .str (bl [48])] [.str] R:=by refine Tx (c:=48) (by decide) ?_;rw[ym];exact h
theorem JN(b:l.length<=4611686018427387904){R:Bt->Prop}(h:R (bl (l.reverse.dropWhile (· == 48)).reverse)):PC Tp gl 219 [Arg.mk .str (bl l),Arg.mk .str (bl [48])] [.str] R:=by refine Nl (c:=48) (by decide) (by rw[zh];omega) ?_;rw[ym];exact h
theorem SU(P:s.length<=4611686018427387904){R:(Bool×Bool×Bt×Bt×Bt)×Bool->Prop} (h1:Wy s=Ta->R (((Yb s).neg,(Yb s).low,bl (Yb s).whole,bl (Yb s).rest,bl (Yb s).exp),Ta)) (h2:Wy s=Tc->∀a b c d e,R ((a,b,bl c,bl d,bl e),Tc)):
  PC Tp gl 217 [Arg.mk .str (bl s)] [.pair .bool (.pair .bool (.pair .str (.pair .str .str))),.bool] R:=by
 apply Qn;refine Fy (c:=45) ?_;dsimp only;have Q:(dG s).length<=s.length:=by unfold dG;split <;> simp
 have F:=vA eC (dG s);refine xB (l:=dG s) (sep:=[101,69]) (p:=eC) (λc=>by simp[eC]) (by omega) ?_;dsimp only;have I:(jl s).1.length+(jl s).2.1.length<=(dG s).length:=F;have tail:∀(e:Bs) (low:Bool),((jl s).2.2=Ta->Zn (dh s)=Ta/\low=xr s/\e=dh s)->((jl s).2.2=Tc->low=Tc/\e=[]) ->
   PC Tp gl 268 [Arg.mk .str (bl (jl s).1),Arg.mk .str (bl [46])] [.str,.str,.bool] (λf:Bt×Bt×Bool=>PC Tp gl 215 [Arg.mk .str f.1] [.bool] (λi:Bool=>∃o:Bool->Prop,(((!(!i))&&f.2.2)=Ta->PC Tp gl 215 [Arg.mk .str f.2.1] [.bool] o) /\ ∀m:Bool,(((!(!i))&&f.2.2)=Ta->o m)->((bif (!i)then Ta else(bif f.2.2 then(!m)else Tc))=Ta->R ((s.head?==Td 45,(low,(f.1,(f.2.1,bl e)))),Tc)) /\ ((bif (!i)then Ta else(bif f.2.2 then(!m)else Tc))=Tc->((!((f.1:Bt).toList==((⟨#[48]⟩:Bt):Bt).toList))=Ta->(0<=(0:Int)/\(0:Int)<((f.1).size:Int))) /\ R ((s.head?==Td 45,(low,(f.1,(f.2.1,bl e)))),bif ((f.1:Bt).toList==((⟨#[48]⟩:Bt):Bt).toList)then Ta else((ze f.1 (0:Int).toNat:Int) != 48))))):=by
  intro e low O k2;have z:(!(jl s).2.2||Zn (dh s))=Ta/\xr s=low/\(if(jl s).2.2 then dh s else [])=e:=by
   cases t:(jl s).2.2 with
   |true=>simp_all
   |false=>obtain⟨a,b⟩:=k2 t;exact⟨rfl,by unfold xr;rw[t,a];rfl,by simp[b]⟩
  refine xB (l:=(jl s).1) (sep:=[46]) (p:=eM) (λc=>by simp[eM]) (by omega) ?_;refine nZ ⟨λx=>Zn (jm s).2.1=x,λ_=>nZ rfl,λy E=>?_⟩;dsimp only;simp only[show(⟨#[48]⟩:Bt)=bl [48]from rfl,eB,zh,qc];change (_->Zn (jm s).2.1=y)at E;show((bif (!Zn (jm s).1)then Ta else(bif (jm s).2.2 then(!y)else Tc))=Ta->R ((s.head?==Td 45,(low,(bl (jm s).1,(bl (jm s).2.1,bl e)))),Tc)) /\ ((bif (!Zn (jm s).1)then Ta else(bif (jm s).2.2 then(!y)else Tc))=Tc->((!decide ((jm s).1=[48]))=Ta->(0<=(0:Int)/\(0:Int)<((jm s).1.length:Int))) /\ R ((s.head?==Td 45,(low,(bl (jm s).1,(bl (jm s).2.1,bl e)))),bif decide ((jm s).1=[48])then Ta else(((((jm s).1[(0:Int).toNat]?).getD 0).toNat:Int) != 48)));have N:Zn (jm s).1=Ta->(jm s).2.2=Ta->Zn (jm s).2.1=y:=λa b=>E (by show((!(!Zn (jm s).1))&&(jm s).2.2)=Ta;rw[a,b];rfl);refine⟨λq=>h2 ?_ _ _ _ _ _,λq=>⟨λ_=>?_,?_⟩⟩;unfold Wy;grind;all_goals
   have A:Zn (jm s).1=Ta:=by
    cases A:Zn (jm s).1 with
    |true=>rfl
    |false=>simp_all
   have M:=Wz A
  omega;have J:(!(jm s).2.2||Zn (jm s).2.1)=Ta:=by
   cases hw:(jm s).2.2 with
   |false=>rfl
   |true=>simp_all
  have H:(bif decide ((jm s).1=[48])then Ta else(((((jm s).1[(0:Int).toNat]?).getD 0).toNat:Int) != 48))=((jm s).1==[48]||(jm s).1.head? != Td 48):=by rw[show(0:Int).toNat=0 from rfl,pe M,VS,Uy];simp
  have u:Wy s=((jm s).1==[48]||(jm s).1.head? != Td 48):=by unfold Wy;rw[z.1,A,J];simp
  rw[H];cases ho:((jm s).1==[48]||(jm s).1.head? != Td 48)with
  |true=>have:=h1 (u.trans ho);unfold Yb at this;simp_all
  |false=>grind
 intro K D;refine⟨λt=>?_,λt=>?_⟩;have r:(jl s).2.2=Ta:=t;refine Fy (c:=45) (l:=(jl s).2.1) ?_;dsimp only;intro G B;have step:∀low e,low=xr s->e=dh s->G (bl e) (s.head?==Td 45) low (bl []) (bl []) (bl []):=by intro low e w C;refine B _ _ _ _ _ _ (nZ ⟨λq=>?_,λq=>?_⟩);refine h2 ?_ _ _ [] [] [];unfold Wy;grind;refine D _ _ _ _ _ _ (tail e low (λ_=>⟨by grind,w,C⟩) λh=>by grind)
 have n:xr s=((jl s).2.1.head?==Td 45):=by unfold xr;rw[r];rfl
 refine⟨λq=>?_,λq=>?_⟩;have k:((jl s).2.1.head?==Td 45)=Tc:=by simpa using q
 rw[k];refine Gm (c:=43) ?_;simp only[UR,if_false];refine step Tc _ (by rw[n,k]) ?_;unfold dh;grind;have k:((jl s).2.1.head?==Td 45)=Ta:=by simpa using q
 rw[k];simp only[if_true];refine step Ta _ (by rw[n,k]) ?_;unfold dh;grind;have r:(jl s).2.2=Tc:=t;have L:(jl s).2.1=[]:=(Jx r).2;have:=tail [] Tc (λh=>by grind) λ_=>⟨rfl,rfl⟩;show K (bl (jl s).2.1) _ _ _ _ _;rw[L];exact D _ _ _ _ _ _ this
theorem PO{α β γ δ:Type}{B:α->β->γ->δ->Prop}{c:Bool}{a b:α}{x:β}{y:γ}{z:δ}(h:∀e,e=(bif c then a else b)->B e x y z):∀K:α->β->γ->δ->Prop,(∀e x y z,B e x y z->K e x y z)->(c=Ta->K a x y z)/\(c=Tc->K b x y z):= λK i=>⟨λf=>i _ _ _ _ (h _ (by subst f;rfl)),λf=>i _ _ _ _ (h _ (by subst f;rfl))⟩
theorem cK{n:Int}(h:-4611686018427387904<=n/\n<=4611686018427387904):hZ n=n:=wrap64 (by omega) (by omega)
set_option maxHeartbeats 1000000 in
theorem pG(Y:s.length<=1152921504606846976){R:(Bool×Bt×Int)×Int->Prop}(h:R (ei (zm s).1,(zm s).2)):PC Tp gl 160 [Arg.mk .str (bl s)] [tN,.int .i64] R:=by
 apply F1;refine SU (by omega) (λm=>?_) (λm a b c d e=>?_);rotate_left;refine vd ⟨λ_=>?_,λq=>by cases q⟩;have:Qj s=Te:=by unfold Qj;simp[m]
 unfold zm at h;simp_all;have f:Qj s=Td (Yb s):=by unfold Qj;simp[m]
 have G:=tn f;obtain⟨M,d2,H⟩:=sE f;unfold zm at h;rw[f]at h;simp only at h;generalize Yb s=x at *;refine vd ⟨λq=>(by cases q),λ_=>?_⟩;simp only[zh];rw[cK (by omega)];refine⟨λq=>?_,λq=>?_⟩;grind;rw[za (by grind)]at h;refine⟨λt=>?_,λt=>?_⟩;grind;rw[za (by grind)]at h;have I:x.whole.length+x.rest.length<=1000:=by simp at q;omega
 have Q:x.exp.all yb=Ta:=H;generalize O:x.exp.dropWhile (· == 48)=E at *;have o:E.all yb=Ta:=by rw[<-O];exact W5 H
 have A:E.length<=9:=by simp at t;omega
 have P:zl E<10 ^ 9:=lZ A o;refine⟨λe _ _ _ p=>p.1=bl E/\p.2<=E.length/\e=(zl (E.take p.2):Int),λ_ _ _ _ p=>E.length-p.2,⟨rfl,by omega,by simp[zl]⟩,?_⟩;rintro e b1 b2 b3 ⟨_,p⟩ ⟨rfl,N,rfl⟩;simp only at N ⊢;rw[mc,k0];refine⟨λw=>⟨w,?_⟩,λw=>?_⟩;have i:p<E.length:=by simpa using w
 have V:=pT o i;have D:E.drop p=E[p]::E.drop (p+1):=UZ i;rw[iH E p i,D,lV (by omega)];have S:=lZ (n:=9) (l:=E.take p) (by simp;omega) (ue o p);rw[Qd (by omega) (by omega),cK (n:=10*_) (by omega),cK (n:=(_:Int)-48) (by omega),cK (by omega)];simp only;refine⟨⟨trivial,by omega,?_⟩,by omega⟩;rw[xm i];omega;have i:¬p<E.length:=by simpa using w
 have y:p=E.length:=by omega
 subst y;rw[Uz];apply PO;intro r z;refine⟨by unfold zw;omega,?_⟩;rw[qb];refine vd ?_;rw[show(⟨#[]⟩:Bt)=bl []from rfl];simp only[eB];have F:(x.whole++x.rest).all yb=Ta:=by rw[WX,Qp M,d2];rfl
 refine⟨λu=>?_,λu=>?_⟩;simp_all;have k:(x.whole++x.rest).dropWhile (· == 48)≠[]:=by simpa using u
 rw[za k]at h;have C:=wv (x.whole++x.rest) (· == 48);rw[Uf]at C;refine JN (by omega) ?_;have L:=(Qq F k).2.1;have J:=Dw F k (by simp_all);simp only[zh,show((List.dropWhile (λx=>x==48) (x.whole++x.rest)).reverse.dropWhile (λx=>x==48)).reverse=jw (x.whole++x.rest)from rfl];have B:r=if x.low then-(zl E:Int)else(zl E:Int):=by rw[z];cases x.low <;> simp;exact cK (by omega)
 have U:-1000000000<=r/\r<=1000000000:=by rw[B];split <;> omega
 rw[cK (n:=r-_) (by omega),cK (n:=r-_+_) (by omega),cK (by omega)];refine tJ (n:=(x.neg,jw (x.whole++x.rest),r-(x.rest.length:Int)+(((x.whole++x.rest).dropWhile (· == 48)).length:Int)-((jw (x.whole++x.rest)).length:Int))) (by grind) ?_;grind
end
section
theorem KV(b:Int)(c:Bt)(d:Sl)(e:Sl)(h:zb)(R:Value->zb->Prop) (H:let f:=h.push (.cells #[iV b,.string c,aK d,aK e] 25);let g:=f.push (.cells tC 25);∀i:Addr->zb->Prop,(∀j:Addr,∀k:zb,(∃(l:Int->zb->Prop) (m:Int->zb->Nat),l 0 k/\∀n:Int,∀o:zb,l n o->(∃p,zc o (Ua ⟨h.size,0,Te⟩ 3)=Td (aK p)/\(decide (n<p.len)=Ta->∃q,zc o (Ua j 3)=Td (aK q)/\∃r,zc o (Ua ⟨h.size,0,Te⟩ 3)=Td (aK r)/\∃s,(r.a=Td s/\0<=n/\n<r.len)/\∃t u v w,zd o (s.add (n.toNat*4)) 0 (tL t u v w)/\XC Tp 13 #[tA t u v w] o (λx y=>∃z A B C,x=tA z A B C/\g7 y o (Ua j 3)/\let D:=y.push (.cells #[iV z,.string A,aK B,aK C] 25);g7 D o (Ua j 3)/\XRun Tp (Ug #[23,23] 23 #[aK q,.slice (Td ⟨y.size,0,Te⟩) 1 1]) D (λE F=>∃G,E=aK G/\XRunU Tp (Ub 23 (.pointer (Td (Ua j 3))) (aK G)) F (λI=>(l (hZ (n+1)) I/\m (hZ (n+1)) I<m n o)))))/\(decide (n<p.len)=Tc->∃J L M N,zd o j 0 (tL J L M N)/\XRunU Tp (Ub 25 (.pointer (Td ⟨f.size,0,Te⟩)) (tA J L M N)) o (λO=>∃P Q S T,zd O ⟨f.size,0,Te⟩ 0 (tL P Q S T)/\R (tA P Q S T) O))))->i j k)->∃U,zc g (Ua ⟨h.size,0,Te⟩ 0)=Td (iV U)/\∃V,zc g (Ua ⟨h.size,0,Te⟩ 1)=Td (.string V)/\∃W,zc g (Ua ⟨h.size,0,Te⟩ 2)=Td (aK W)/\let X:Addr->Sl->zb->Prop:=λ(Y:Addr) (Z:Sl) (aa:zb)=>(XRunU Tp (Ub 25 (.pointer (Td Y)) (.agg #[iV U,.string V,aK Z,.slice Te 0 0])) aa (λab=>i Y ab));let ac:Addr->Sl->zb->Prop:=λ(ae:Addr) (af:Sl) (ag:zb)=>(X ae af ag);let ah:Addr->Sl->zb->Prop:=λ(ai:Addr) (aj:Sl) (ak:zb)=>(XRun Tp (Ug #[22,22] 22 #[aK aj,aK W]) ak (λal am=>∃an,al=aK an/\g7 am g (Ua ⟨h.size,0,Te⟩ 1)/\g7 am g (Ua ⟨h.size,0,Te⟩ 0)/\ac ai an am));(let ao:=g.push (.cells #[] 9);g7 ao g (Ua ⟨h.size,0,Te⟩ 2)/\g7 ao g (Ua ⟨h.size,0,Te⟩ 1)/\g7 ao g (Ua ⟨h.size,0,Te⟩ 0)/\(XRun Tp (Ug #[22,22] 22 #[.slice (Td ⟨g.size,0,Te⟩) 0 0,aK W]) ao (λap aq=>∃ar,ap=aK ar/\g7 aq g (Ua ⟨h.size,0,Te⟩ 1)/\g7 aq g (Ua ⟨h.size,0,Te⟩ 0)/\(let au:=aq.push (.cells tC 25);X ⟨aq.size,0,Te⟩ ar au)/\(let av:=aq.push (.cells tC 25);g7 av g (Ua ⟨h.size,0,Te⟩ 1)/\g7 av g (Ua ⟨h.size,0,Te⟩ 0)/\ac ⟨aq.size,0,Te⟩ ar av)))/\(let aw:=ao.push (.cells tC 25);g7 aw g (Ua ⟨h.size,0,Te⟩ 2)/\g7 aw g (Ua ⟨h.size,0,Te⟩ 1)/\g7 aw g (Ua ⟨h.size,0,Te⟩ 0)/\ah ⟨ao.size,0,Te⟩ (⟨Td ⟨g.size,0,Te⟩,0,0⟩:Sl) aw))/\(let ax:=g.push (.cells tC 25);g7 ax g (Ua ⟨h.size,0,Te⟩ 2)/\g7 ax g (Ua ⟨h.size,0,Te⟩ 1)/\g7 ax g (Ua ⟨h.size,0,Te⟩ 0)/\let ay:=ax.push (.cells #[] 9);g7 ay g (Ua ⟨h.size,0,Te⟩ 2)/\g7 ay g (Ua ⟨h.size,0,Te⟩ 1)/\g7 ay g (Ua ⟨h.size,0,Te⟩ 0)/\ah ⟨g.size,0,Te⟩ (⟨Td ⟨ax.size,0,Te⟩,0,0⟩:Sl) ay)):
  XC Tp 13 #[.agg #[.int .i64 b,.string c,.slice d.a d.len d.cap,.slice e.a e.len e.cap]] h R:=
 XF ⟨[(5,8000),(1,8000)],[(3,[(4,.one (.int .i64))])],[(2,[(3,.one (.ad))])]⟩ [.cell 2 25] 33 Tryz.func13 H
theorem Ml(n0:Int)(h:zb)(R:Value->zb->Prop) (H:((bif (decide (n0>=0))then(decide (n0<10))else Tc)=Ta->(0<=n0/\n0<=(hZ (n0+1))/\(hZ (n0+1))<=(((⟨#[48,49,50,51,52,53,54,55,56,57]⟩:Bt)).size:Int))/\R (.string (((⟨#[48,49,50,51,52,53,54,55,56,57]⟩:Bt)).extract n0.toNat (hZ (n0+1)).toNat)) h)/\((bif (decide (n0>=0))then(decide (n0<10))else Tc)=Tc->(decide (n0>0)=Ta->Ve=Ve/\(10:Int)≠0/\Ve=Ve/\(10:Int)≠0/\Ve=Ve/\(10:Int)≠0/\(0<=(n0.tmod 10:Int)/\(n0.tmod 10:Int)<=(hZ ((n0.tmod 10)+1))/\(hZ ((n0.tmod 10)+1))<=(((⟨#[48,49,50,51,52,53,54,55,56,57]⟩:Bt)).size:Int))/\XC Tp 193 #[iV (hZ (n0.tdiv 10))] h (λa b=>∃c,a=.string c/\zw (c.size+(((⟨#[48,49,50,51,52,53,54,55,56,57]⟩:Bt)).extract (n0.tmod 10:Int).toNat (hZ ((n0.tmod 10)+1)).toNat).size)/\R (.string (c++(((⟨#[48,49,50,51,52,53,54,55,56,57]⟩:Bt)).extract (n0.tmod 10:Int).toNat (hZ ((n0.tmod 10)+1)).toNat))) b))/\(decide (n0>0)=Tc->(decide (n0>(-10))=Ta->(0<=(hZ (0-n0))/\(hZ (0-n0))<=(hZ ((hZ (0-n0))+1))/\(hZ ((hZ (0-n0))+1))<=(((⟨#[48,49,50,51,52,53,54,55,56,57]⟩:Bt)).size:Int))/\zw (((⟨#[45]⟩:Bt)).size+(((⟨#[48,49,50,51,52,53,54,55,56,57]⟩:Bt)).extract (hZ (0-n0)).toNat (hZ ((hZ (0-n0))+1)).toNat).size)/\R (.string ((⟨#[45]⟩:Bt)++(((⟨#[48,49,50,51,52,53,54,55,56,57]⟩:Bt)).extract (hZ (0-n0)).toNat (hZ ((hZ (0-n0))+1)).toNat))) h)/\(decide (n0>(-10))=Tc->Ve=Ve/\(10:Int)≠0/\Ve=Ve/\(10:Int)≠0/\Ve=Ve/\(10:Int)≠0/\let d:Bt->zb->Prop:=λe (f:zb)=>(R (.string e) f);let g:Bt->zb->Prop:=λi (j:zb)=>((0<=(hZ (0-(n0.tmod 10)))/\(hZ (0-(n0.tmod 10)))<=(hZ ((hZ (0-(n0.tmod 10)))+1))/\(hZ ((hZ (0-(n0.tmod 10)))+1):Int)<=(((⟨#[48,49,50,51,52,53,54,55,56,57]⟩:Bt)).size:Int))/\zw (i.size+(((⟨#[48,49,50,51,52,53,54,55,56,57]⟩:Bt)).extract (hZ (0-(n0.tmod 10))).toNat (hZ ((hZ (0-(n0.tmod 10)))+1):Int).toNat).size)/\d (i++(((⟨#[48,49,50,51,52,53,54,55,56,57]⟩:Bt)).extract (hZ (0-(n0.tmod 10))).toNat (hZ ((hZ (0-(n0.tmod 10)))+1):Int).toNat)) j);let k:Bt->zb->Prop:=λl (m:zb)=>((0<=(hZ (0-(n0.tmod 10)))/\(hZ (0-(n0.tmod 10)))<=(hZ ((hZ (0-(n0.tmod 10)))+1))/\(hZ ((hZ (0-(n0.tmod 10)))+1):Int)<=(((⟨#[48,49,50,51,52,53,54,55,56,57]⟩:Bt)).size:Int))/\zw (l.size+(((⟨#[48,49,50,51,52,53,54,55,56,57]⟩:Bt)).extract (hZ (0-(n0.tmod 10))).toNat (hZ ((hZ (0-(n0.tmod 10)))+1):Int).toNat).size)/\d (l++(((⟨#[48,49,50,51,52,53,54,55,56,57]⟩:Bt)).extract (hZ (0-(n0.tmod 10))).toNat (hZ ((hZ (0-(n0.tmod 10)))+1):Int).toNat)) m);let n:zb->Prop:=λ(o:zb)=>(XC Tp 193 #[iV (hZ (n0.tdiv 10))] o (λp q=>∃r,p=.string r/\zw (r.size+(((⟨#[48,49,50,51,52,53,54,55,56,57]⟩:Bt)).extract (hZ (0-(n0.tmod 10))).toNat (hZ ((hZ (0-(n0.tmod 10)))+1):Int).toNat).size)/\d (r++(((⟨#[48,49,50,51,52,53,54,55,56,57]⟩:Bt)).extract (hZ (0-(n0.tmod 10))).toNat (hZ ((hZ (0-(n0.tmod 10)))+1):Int).toNat)) q));(XC Tp 193 #[iV (hZ (n0.tdiv 10))] h (λs t=>∃u,s=.string u/\(g u t)/\(k u t)))/\((XC Tp 193 #[iV (hZ (n0.tdiv 10))] h (λv w=>∃x,v=.string x/\g x w))/\((0<=(hZ (0-(n0.tmod 10)))/\(hZ (0-(n0.tmod 10)))<=(hZ ((hZ (0-(n0.tmod 10)))+1))/\(hZ ((hZ (0-(n0.tmod 10)))+1):Int)<=(((⟨#[48,49,50,51,52,53,54,55,56,57]⟩:Bt)).size:Int))/\n h))/\((XC Tp 193 #[iV (hZ (n0.tdiv 10))] h (λy z=>∃A,y=.string A/\k A z))/\((0<=(hZ (0-(n0.tmod 10)))/\(hZ (0-(n0.tmod 10)))<=(hZ ((hZ (0-(n0.tmod 10)))+1))/\(hZ ((hZ (0-(n0.tmod 10)))+1):Int)<=(((⟨#[48,49,50,51,52,53,54,55,56,57]⟩:Bt)).size:Int))/\n h)))))):
  XC Tp 193 #[.int .i64 n0] h R:=
 XF ⟨[(5,8000),(8,8000)],[],[]⟩ [.tmp 2] 51 Tryz.func193 H
theorem RO(s0:Bt)(h:zb)(R:Value->zb->Prop) (H:let a:=h.push (.cells #[.bool Tc,.string (⟨#[]⟩:Bt),iV 0] 110);XC Tp 232 #[.string s0] a (λb c=>∃d e f g,b=.tuple #[.agg #[.bool d,.string e,iV f],iV g]/\let i:=c.push (.cells #[.bool Tc,.string (⟨#[]⟩:Bt),iV 0] 110);XRunU Tp (Ub 110 (.pointer (Td ⟨c.size,0,Te⟩)) (.agg #[.bool d,.string e,iV f])) i (λj=>∃k l m,zd j ⟨c.size,0,Te⟩ 0 [.bool k,.string l,iV m]/\let n:Bool->zb->Prop:=λo (p:zb)=>(∃q r s,zd p ⟨h.size,0,Te⟩ 0 [.bool q,.string r,iV s]/\R (.tuple #[.agg #[.bool q,.string r,iV s],.bool o]) p);let t:Bool->zb->Prop:=λu (v:zb)=>(n (bif (g==0)then u else Tc) v);let w:Bt->zb->Prop:=λx (y:zb)=>(t (x.toList==s0.toList) y);let z:Bt->zb->Prop:=λA (B:zb)=>((g7 B j ⟨c.size,0,Te⟩/\(g7 B j ⟨c.size,0,Te⟩/\XRunU Tp (Ub 110 (.pointer (Td ⟨h.size,0,Te⟩)) (.agg #[.bool k,.string l,iV m])) B (λC=>n (bif (g==0)then(A.toList==s0.toList)else Tc) C))/\(XRunU Tp (Ub 110 (.pointer (Td ⟨h.size,0,Te⟩)) (.agg #[.bool k,.string l,iV m])) B (λD=>t (A.toList==s0.toList) D)))/\(XRunU Tp (Ub 110 (.pointer (Td ⟨h.size,0,Te⟩)) (.agg #[.bool k,.string l,iV m])) B (λE=>w A E)));let F:Bool->Bt->Int->zb->Prop:=λG I J (L:zb)=>(∃M:Value->zb->Prop,((g==0)=Ta->XC Tp 233 #[.agg #[.bool G,.string I,iV J]] L (λN O=>∃P,N=.string P/\M (.string P) O))/\((g==0)=Tc->∃Q,M (.string Q) L)/\((g==0)=Ta->∀S T,M S T->∃U,S=.string U)/\∀V:Bt,∀W,M (.string V) W->g7 W j ⟨c.size,0,Te⟩/\z V W);(∃X Y Z,((g==0)=Ta->zd j ⟨c.size,0,Te⟩ 0 [.bool X,.string Y,iV Z])/\g7 j j ⟨c.size,0,Te⟩/\(∃aa:Value->zb->Prop,((g==0)=Ta->XC Tp 233 #[.agg #[.bool X,.string Y,iV Z]] j (λab ac=>∃ad,ab=.string ad/\aa (.string ad) ac))/\((g==0)=Tc->∃ae,aa (.string ae) j)/\((g==0)=Ta->∀af ag,aa af ag->∃ah,af=.string ah)/\∀ai:Bt,∀aj,aa (.string ai) aj->g7 aj j ⟨c.size,0,Te⟩/\(g7 aj j ⟨c.size,0,Te⟩/\z ai aj)/\(XRunU Tp (Ub 110 (.pointer (Td ⟨h.size,0,Te⟩)) (.agg #[.bool k,.string l,iV m])) aj (λak=>w ai ak)))/\(g7 j j ⟨c.size,0,Te⟩/\F X Y Z j))/\(g7 j j ⟨c.size,0,Te⟩/\∃al am an,((g==0)=Ta->zd j ⟨c.size,0,Te⟩ 0 [.bool al,.string am,iV an])/\g7 j j ⟨c.size,0,Te⟩/\F al am an j)))):
  XC Tp 223 #[.string s0] h R:=
 XF ⟨[(2,8000)],[],[]⟩ [.cell 2 110,.tmp 3] 20 Tryz.func223 H
theorem To(b:Bt)(c:Sl)(t:Int)(h:zb)(R:Value->zb->Prop) (H:let d:=h.push (.cells #[.string b,aK c] 162);∃e f,zd d ⟨h.size,0,Te⟩ 0 [.string e,aK f]/\∃g,zc d (Ua ⟨h.size,0,Te⟩ 1)=Td (aK g)/\∃i,(g.a=Td i/\0<=t/\t<g.len)/\∃j k,zd d (Ua (i.add (t.toNat*7)) 3) 0 [iV j,iV k]/\XC Tp 284 #[.agg #[.string e,aK f],.agg #[iV j,iV k]] d (λl m=>∃n,l=.string n/\XC Tp 343 #[.string n] m (λo p=>∃q r s,o=.tuple #[.string q,iV r,iV s]/\R (.string q) p))):
  XC Tp 285 #[.agg #[.string b,.slice c.a c.len c.cap],.int .i64 t] h R:=
 XF ⟨[(1,8000)],[],[]⟩ [.tmp 4] 22 Tryz.func285 H
theorem SJ(U:Bt)(h:zb)(R:Value->zb->Prop) (H:let b:=h.push (.cells tC 25);XC Tp 165 #[.string U] b (λc d=>∃e f g i j k,c=.tuple #[tA e f g i,iV j,iV k]/\let l:=d.push (.cells tC 25);XRunU Tp (Ub 25 (.pointer (Td ⟨d.size,0,Te⟩)) (tA e f g i)) l (λm=>∃n o p q,zd m ⟨d.size,0,Te⟩ 0 (tL n o p q)/\∃r,((k==0)=Ta->zc m (Ua ⟨d.size,0,Te⟩ 3)=Td (aK r))/\let s:Bool->zb->Prop:=λt (u:zb)=>(∃v w x y,zd u ⟨h.size,0,Te⟩ 0 (tL v w x y)/\R (.tuple #[tA v w x y,.bool t]) u);g7 m m ⟨d.size,0,Te⟩/\g7 m m ⟨d.size,0,Te⟩/\∃z,((bif (k==0)then((r.len:Int)==0)else Tc)=Ta->zc m (Ua ⟨d.size,0,Te⟩ 0)=Td (iV z))/\g7 m m ⟨d.size,0,Te⟩/\g7 m m ⟨d.size,0,Te⟩/\∃A B C D,((bif (bif (k==0)then((r.len:Int)==0)else Tc)then(decide (z<5))else Tc)=Ta->zd m ⟨d.size,0,Te⟩ 0 (tL A B C D))/\g7 m m ⟨d.size,0,Te⟩/\∃E:Value->zb->Prop,((bif (bif (k==0)then((r.len:Int)==0)else Tc)then(decide (z<5))else Tc)=Ta->XC Tp 97 #[tA A B C D] m (λF G=>∃I,F=.string I/\E (.string I) G))/\((bif (bif (k==0)then((r.len:Int)==0)else Tc)then(decide (z<5))else Tc)=Tc->∃J,E (.string J) m)/\((bif (bif (k==0)then((r.len:Int)==0)else Tc)then(decide (z<5))else Tc)=Ta->∀L M,E L M->∃N,L=.string N)/\∀O:Bt,∀P,E (.string O) P->g7 P m ⟨d.size,0,Te⟩/\(g7 P m ⟨d.size,0,Te⟩/\XRunU Tp (Ub 25 (.pointer (Td ⟨h.size,0,Te⟩)) (tA n o p q)) P (λQ=>s (bif (bif (bif (k==0)then((r.len:Int)==0)else Tc)then(decide (z<5))else Tc)then(O.toList==U.toList)else Tc) Q))/\(XRunU Tp (Ub 25 (.pointer (Td ⟨h.size,0,Te⟩)) (tA n o p q)) P (λS=>s (bif (bif (bif (k==0)then((r.len:Int)==0)else Tc)then(decide (z<5))else Tc)then(O.toList==U.toList)else Tc) S))))):
  XC Tp 109 #[.string U] h R:=
 XF ⟨[(2,7000)],[],[]⟩ [.cell 2 25,.tmp 3] 33 Tryz.func109 H
theorem Gu(Z:Bt)(h:zb)(R:Value->zb->Prop) (H:XC Tp 203 #[.string Z] h (λb c=>∃d e,b=.tuple #[iV d,.bool e]/\((!e)=Ta->R (.tuple #[.string (⟨#[]⟩:Bt),iV 2]) c)/\((!e)=Tc->let f:=c.push (.cells #[.int .u8 34] 5);∃(g:Sl->Int->zb->Prop) (i:Sl->Int->zb->Nat),g (⟨Td ⟨c.size,0,Te⟩,1,1⟩:Sl) 0 f/\∀j:Sl,∀k:Int,∀l:zb,g j k l->((decide (k<Z.size)=Ta->(0<=k/\k<Z.size)/\((bif ((ze Z k.toNat:Int)==34)then Ta else((ze Z k.toNat:Int)==92))=Ta->let m:=l.push (.cells #[.int .u8 92,.int .u8 (ze Z k.toNat)] 5);XRun Tp (Ug #[87,87] 87 #[aK j,.slice (Td ⟨l.size,0,Te⟩) 2 2]) m (λn o=>∃p,n=aK p/\(g p (hZ (k+1)) o/\i p (hZ (k+1)) o<i j k l)))/\((bif ((ze Z k.toNat:Int)==34)then Ta else((ze Z k.toNat:Int)==92))=Tc->(((ze Z k.toNat:Int)==8)=Ta->XRun Tp (Ug #[87,9] 87 #[aK j,.string (⟨#[92,98]⟩:Bt)]) l (λq r=>∃s,q=aK s/\(g s (hZ (k+1)) r/\i s (hZ (k+1)) r<i j k l)))/\(((ze Z k.toNat:Int)==8)=Tc->(((ze Z k.toNat:Int)==12)=Ta->XRun Tp (Ug #[87,9] 87 #[aK j,.string (⟨#[92,102]⟩:Bt)]) l (λt u=>∃v,t=aK v/\(g v (hZ (k+1)) u/\i v (hZ (k+1)) u<i j k l)))/\(((ze Z k.toNat:Int)==12)=Tc->(((ze Z k.toNat:Int)==10)=Ta->XRun Tp (Ug #[87,9] 87 #[aK j,.string (⟨#[92,110]⟩:Bt)]) l (λw x=>∃y,w=aK y/\(g y (hZ (k+1)) x/\i y (hZ (k+1)) x<i j k l)))/\(((ze Z k.toNat:Int)==10)=Tc->(((ze Z k.toNat:Int)==13)=Ta->XRun Tp (Ug #[87,9] 87 #[aK j,.string (⟨#[92,114]⟩:Bt)]) l (λz A=>∃B,z=aK B/\(g B (hZ (k+1)) A/\i B (hZ (k+1)) A<i j k l)))/\(((ze Z k.toNat:Int)==13)=Tc->(((ze Z k.toNat:Int)==9)=Ta->XRun Tp (Ug #[87,9] 87 #[aK j,.string (⟨#[92,116]⟩:Bt)]) l (λC D=>∃E,C=aK E/\(g E (hZ (k+1)) D/\i E (hZ (k+1)) D<i j k l)))/\(((ze Z k.toNat:Int)==9)=Tc->(decide ((ze Z k.toNat:Int)<32)=Ta->IntKind.u8=IntKind.u8/\(16:Int)≠0/\IntKind.u8=IntKind.u8/\(16:Int)≠0/\let F:zb->Prop:=λ(G:zb)=>(let I:=G.push (.cells #[.int .u8 92,.int .u8 117,.int .u8 48,.int .u8 48,.int .u8 (ze (⟨#[48,49,50,51,52,53,54,55,56,57,97,98,99,100,101,102]⟩:Bt) (T9 .u8 ((ze Z k.toNat:Int).tdiv 16)).toNat),.int .u8 (ze (⟨#[48,49,50,51,52,53,54,55,56,57,97,98,99,100,101,102]⟩:Bt) ((ze Z k.toNat:Int).tmod 16:Int).toNat)] 5);XRun Tp (Ug #[87,87] 87 #[aK j,.slice (Td ⟨G.size,0,Te⟩) 6 6]) I (λJ L=>∃M,J=aK M/\(g M (hZ (k+1)) L/\i M (hZ (k+1)) L<i j k l)));((0<=(T9 .u8 ((ze Z k.toNat:Int).tdiv 16))/\(T9 .u8 ((ze Z k.toNat:Int).tdiv 16))<(((⟨#[48,49,50,51,52,53,54,55,56,57,97,98,99,100,101,102]⟩:Bt)).size:Int))/\(0<=((ze Z k.toNat:Int).tmod 16:Int)/\((ze Z k.toNat:Int).tmod 16:Int)<(((⟨#[48,49,50,51,52,53,54,55,56,57,97,98,99,100,101,102]⟩:Bt)).size:Int))/\F l)/\((0<=((ze Z k.toNat:Int).tmod 16:Int)/\((ze Z k.toNat:Int).tmod 16:Int)<(((⟨#[48,49,50,51,52,53,54,55,56,57,97,98,99,100,101,102]⟩:Bt)).size:Int))/\(0<=(T9 .u8 ((ze Z k.toNat:Int).tdiv 16))/\(T9 .u8 ((ze Z k.toNat:Int).tdiv 16))<(((⟨#[48,49,50,51,52,53,54,55,56,57,97,98,99,100,101,102]⟩:Bt)).size:Int))/\F l))/\(decide ((ze Z k.toNat:Int)<32)=Tc->let N:=l.push (.cells #[.int .u8 (ze Z k.toNat)] 5);XRun Tp (Ug #[87,87] 87 #[aK j,.slice (Td ⟨l.size,0,Te⟩) 1 1]) N (λO P=>∃Q,O=aK Q/\(g Q (hZ (k+1)) P/\i Q (hZ (k+1)) P<i j k l))))))))))/\(decide (k<Z.size)=Tc->let S:=l.push (.cells #[.int .u8 34] 5);XRun Tp (Ug #[87,87] 87 #[aK j,.slice (Td ⟨l.size,0,Te⟩) 1 1]) S (λT U=>∃V,T=aK V/\XRun Tp (convert 87 9 (aK V)) U (λW X=>∃Y,W=.string Y/\R (.tuple #[.string Y,iV 0]) X))))))):
  XC Tp 131 #[.string Z] h R:=
 XF ⟨[(23,8000)],[(7,[(7,.one (.sl)),(8,.one (.int .i64))])],[]⟩ [.tmp 2,.tmp 3] 78 Tryz.func131 H
end
end
section
open Go.Lib
set_option maxHeartbeats 1000000 in
section
theorem Hb(gl:Fr)(n:Bt)(R:((Bool×Bt×Int)×Bool)->Prop) (H:PC Tp gl 232 [Arg.mk .str n] [.pair .bool (.pair .str (.int .i64)),.int .i64] (λb:(Bool×Bt×Int)×Int=>∃C:Bt->Prop,(((b.2:Int)==0)=Ta->PC Tp gl 233 [Arg.mk (.pair .bool (.pair .str (.int .i64))) (b.1.1,(b.1.2.1,b.1.2.2))] [.str] C) /\ ∀D:Bt,(((b.2:Int)==0)=Ta->C D)->R ((b.1.1,(b.1.2.1,b.1.2.2)),bif ((b.2:Int)==0)then((D:Bt).toList==(n:Bt).toList)else Tc))):
    PC Tp gl 223 [Arg.mk .str n] [.pair .bool (.pair .str (.int .i64)),.bool] R:=by
  intro h M vs Z ag ha
  match vs,ha with
  |[u],⟨O,_⟩=>
  have O:RdV M .str n u:=O;rw[ju O];apply PX.of;apply RO n;intro h1;obtain⟨k1,z1,b1⟩:=jf (g:=h1) rfl;clear_value h1;have L1:Later h M h1 M:=Later.same ag k1;refine H.go (vs:=[.string n]) Z L1.ag (zq (a:=Arg.mk .str n) (rdStr _) zy) λw q U r y l hr=>?_;obtain⟨J,hJ,hR⟩:=hr;rw[Ar l];refine⟨_,_,_,_,rfl,?_⟩;have z3:=y.keep.size;refine nJ (cs:=#[.bool Tc,.string ⟨#[]⟩,.int .i64 0]) (Blk.new _ _ _) rfl (by kernel_rfl) (by kernel_rfl) λp f9 z9 F=>?_;rw[Ur]at z9;have k9:Keep q.size q p:=⟨by omega,λj Q=>(f9 j (by omega)).trans ((Keep.push q _ (Uc _)).get j Q)⟩;have G:Later h M p U:=(L1.trans y).trans (Later.same y.ag k9);have A:U h.size=Te:=by
    rw[y.old h.size (by omega)];cases e:M h.size with
    |none=>rfl
    |some c=>have:=ag.lt e;omega
  have V:Blk p h.size #[.bool Tc,.string ⟨#[]⟩,.int .i64 0]:=(b1.ofKeep y.keep).ofKeep k9;refine⟨r.1.1,r.1.2.1,r.1.2.2,F.ld (cs:=[.bool r.1.1,.string r.1.2.1,.int .i64 r.1.2.2]),?_⟩;intro Y ab aa N S;have fin:∀(g:zb) (Mg:Fr) (x:Bt),Later h M g Mg->Mg h.size=Te->(∃cs,Blk g h.size cs/\cs.size=3)->(((r.2:Int)==0)=Ta->J x) ->
      XRunU Tp (Ub 110 (.pointer (Td ⟨UA h,0,Te⟩)) (.agg #[.bool r.1.1,.string r.1.2.1,.int .i64 r.1.2.2])) g (λg'=>Y (bif ((r.2:Int)==0)then((x:Bt).toList==(n:Bt).toList)else Tc) g'):=λg Mg x L o ⟨cs,B,hc⟩ k=>
    nJ B hc (by kernel_rfl) (by kernel_rfl) λg' f z B'=>⟨_,_,_,B'.ld (cs:=[.bool r.1.1,.string r.1.2.1,.int .i64 r.1.2.2]),Mg,((r.1.1,(r.1.2.1,r.1.2.2)),_),⟨⟨by have:=L.keep.size;omega,λj Q=>(f j (by omega)).trans (L.keep.get j Q)⟩,L.le,L.old,λc cc e=>by obtain⟨T,m,e2⟩:=L.ag c cc e;grind⟩,Ac _ _ _ _,hR x k⟩
  have P:∀(g:zb) (Mg:Fr) (x:Bt),Later h M g Mg->Mg h.size=Te->(∃cs,Blk g h.size cs/\cs.size=3)->(((r.2:Int)==0)=Ta->J x)->g[q.size]?=p[q.size]?->N x g:=λg Mg x L o B k s=>⟨⟨s,⟨s,fin g Mg x L o B k⟩,fin g Mg x L o B k⟩,fin g Mg x L o B k⟩;let E:Value->zb->Prop:=λv g=>∃x:Bt,v=.string x/\(∃Mg,Later h M g Mg/\Mg h.size=Te/\(∃cs,Blk g h.size cs/\cs.size=3)/\g[q.size]?=p[q.size]?)/\(((r.2:Int)==0)=Ta->J x);have call:((r.2:Int)==0)=Ta->XC Tp 233 #[.agg #[.bool r.1.1,.string r.1.2.1,.int .i64 r.1.2.2]] p (λv g=>∃x:Bt,v=.string x/\E (.string x) g):=λe=>
    (hJ e).go (vs:=[.agg #[.bool r.1.1,.string r.1.2.1,.int .i64 r.1.2.2]]) (Z.trans G.le) G.ag (zq (a:=Arg.mk (.pair .bool (.pair .str (.int .i64))) (r.1.1,(r.1.2.1,r.1.2.2))) (oS _ _ _) zy) λw g Mg x I l k=>
      ⟨x,fj l,x,rfl,⟨Mg,G.trans I,by rw[I.old h.size V.lt];exact A,⟨_,V.ofKeep I.keep,rfl⟩,I.keep.get _ F.lt⟩,λ_=>k⟩
  have i:((r.2:Int)==0)=Tc->∃x:Bt,E (.string x) p:=λe=>⟨⟨#[]⟩,⟨#[]⟩,rfl,⟨U,G,A,⟨_,V,rfl⟩,rfl⟩,λe'=>by simp_all⟩;have t:S r.1.1 r.1.2.1 r.1.2.2 p:=⟨E,call,i,λ_ v g ⟨x,e,_⟩=>⟨x,e⟩,λx g ⟨x',e,⟨Mg,L,o,B,s⟩,k⟩=>by injection e with e;subst e;grind⟩;refine⟨⟨_,_,_,λ_=>F.ld (cs:=[.bool r.1.1,.string r.1.2.1,.int .i64 r.1.2.2]),rfl,⟨E,call,i,λ_ v g ⟨x,e,_⟩=>⟨x,e⟩,λx g ⟨x',e,⟨Mg,L,o,B,s⟩,k⟩=>?_⟩,rfl,t⟩,rfl,_,_,_,λ_=>F.ld (cs:=[.bool r.1.1,.string r.1.2.1,.int .i64 r.1.2.2]),rfl,t⟩;injection e with e;subst e;exact⟨s,⟨s,P g Mg x L o B k s⟩,fin g Mg x L o B k⟩
theorem SP(gl:Fr)(n0:Int)(R:Bt->Prop) (H:((bif (decide ((n0:Int)>=0))then(decide ((n0:Int)<10))else Tc)=Ta->(0<=(n0:Int)/\(n0:Int)<=(hZ (n0+1))/\(hZ (n0+1):Int)<=(((⟨#[48,49,50,51,52,53,54,55,56,57]⟩:Bt)).size:Int))/\R (((⟨#[48,49,50,51,52,53,54,55,56,57]⟩:Bt)).extract (n0:Int).toNat (hZ (n0+1):Int).toNat))/\((bif (decide ((n0:Int)>=0))then(decide ((n0:Int)<10))else Tc)=Tc->((decide ((n0:Int)>0))=Ta->Ve=Ve/\(10:Int)≠0/\Ve=Ve/\(10:Int)≠0/\Ve=Ve/\(10:Int)≠0/\(0<=((n0:Int).tmod 10:Int)/\((n0:Int).tmod 10:Int)<=(hZ (((n0:Int).tmod 10)+1))/\(hZ (((n0:Int).tmod 10)+1):Int)<=(((⟨#[48,49,50,51,52,53,54,55,56,57]⟩:Bt)).size:Int))/\PC Tp gl 193 [Arg.mk p3 (hZ ((n0:Int).tdiv 10))] [.str] (λn:Bt=>zw ((n).size+(((⟨#[48,49,50,51,52,53,54,55,56,57]⟩:Bt)).extract ((n0:Int).tmod 10:Int).toNat (hZ (((n0:Int).tmod 10)+1):Int).toNat).size)/\R (n++(((⟨#[48,49,50,51,52,53,54,55,56,57]⟩:Bt)).extract ((n0:Int).tmod 10:Int).toNat (hZ (((n0:Int).tmod 10)+1):Int).toNat))))/\((decide ((n0:Int)>0))=Tc->((decide ((n0:Int)>(-10)))=Ta->(0<=(hZ (0-n0):Int)/\(hZ (0-n0):Int)<=(hZ ((hZ (0-n0))+1))/\(hZ ((hZ (0-n0))+1):Int)<=(((⟨#[48,49,50,51,52,53,54,55,56,57]⟩:Bt)).size:Int))/\zw (((⟨#[45]⟩:Bt)).size+(((⟨#[48,49,50,51,52,53,54,55,56,57]⟩:Bt)).extract (hZ (0-n0):Int).toNat (hZ ((hZ (0-n0))+1):Int).toNat).size)/\R ((⟨#[45]⟩:Bt)++(((⟨#[48,49,50,51,52,53,54,55,56,57]⟩:Bt)).extract (hZ (0-n0):Int).toNat (hZ ((hZ (0-n0))+1):Int).toNat)))/\((decide ((n0:Int)>(-10)))=Tc->Ve=Ve/\(10:Int)≠0/\Ve=Ve/\(10:Int)≠0/\Ve=Ve/\(10:Int)≠0/\(0<=(hZ (0-((n0:Int).tmod 10)):Int)/\(hZ (0-((n0:Int).tmod 10)):Int)<=(hZ ((hZ (0-((n0:Int).tmod 10)))+1))/\(hZ ((hZ (0-((n0:Int).tmod 10)))+1):Int)<=(((⟨#[48,49,50,51,52,53,54,55,56,57]⟩:Bt)).size:Int))/\PC Tp gl 193 [Arg.mk p3 (hZ ((n0:Int).tdiv 10))] [.str] (λm:Bt=>zw ((m).size+(((⟨#[48,49,50,51,52,53,54,55,56,57]⟩:Bt)).extract (hZ (0-((n0:Int).tmod 10)):Int).toNat (hZ ((hZ (0-((n0:Int).tmod 10)))+1):Int).toNat).size)/\R (m++(((⟨#[48,49,50,51,52,53,54,55,56,57]⟩:Bt)).extract (hZ (0-((n0:Int).tmod 10)):Int).toNat (hZ ((hZ (0-((n0:Int).tmod 10)))+1):Int).toNat))))))):
  PC Tp gl 193 [Arg.mk p3 n0] [.str] R:=by
 intro h M vs D ag P
 match vs,P with
 |[u],⟨hu,_⟩=>
 cases qz (i:=n0) (k:=.i64) hu;apply PX.of;apply Ml n0;obtain⟨E,B⟩:=H;have ret:∀{g:zb} {Mg:Fr} {s:Bt},Later h M g Mg->R s->∃M' r,Later h M g M'/\Zp M' [.str] r (.string s)/\R r:=λ {g Mg s} L l=>⟨Mg,s,L,Yk.2 (rdStr s),l⟩;have F:Later h M h M:=Later.refl ag;refine⟨λe=>⟨(E e).1,ret F (E e).2⟩,λe=>?_⟩;obtain⟨B,t⟩:=B e;refine⟨λy=>?_,λy=>?_⟩;obtain⟨p,a2,o,z,x,A,f,c⟩:=B y;exact⟨p,a2,o,z,x,A,f,c.go (vs:=[.int .i64 _]) D ag (zq (a:=Arg.mk p3 _) (Zw _ _) zy) λw g Mg r L b l=>⟨r,fj b,l.1,ret L l.2⟩⟩;obtain⟨t,G⟩:=t y;refine⟨λC=>?_,λC=>?_⟩;obtain⟨p,a2,o⟩:=t C;exact⟨p,a2,ret F o⟩;obtain⟨p,a2,o,z,x,A,f,c⟩:=G C;refine⟨p,a2,o,z,x,A,?_⟩;intro N S O I;have call:∀{Q:Bt->Prop},PC Tp gl 193 [Arg.mk p3 (hZ ((n0:Int).tdiv 10))] [.str] Q->∀{K:Value->zb->Prop},(∀(r:Bt) (g:zb) (Mg:Fr),Later h M g Mg->Q r->K (.string r) g)->XC Tp 193 #[.int .i64 (hZ ((n0:Int).tdiv 10))] h K:=λ {Q} c {K} J=>
  c.go (vs:=[.int .i64 _]) D ag (zq (a:=Arg.mk p3 _) (Zw _ _) zy) λw g Mg r L b l=>by rw[fj b];exact J r g Mg L l
 exact⟨call c λr g Mg L q=>⟨r,rfl,⟨f,q.1,ret L q.2⟩,f,q.1,ret L q.2⟩,⟨call c λr g Mg L q=>⟨r,rfl,f,q.1,ret L q.2⟩,f,call c λr g Mg L q=>⟨r,rfl,q.1,ret L q.2⟩⟩,call c λr g Mg L q=>⟨r,rfl,f,q.1,ret L q.2⟩,f,call c λr g Mg L q=>⟨r,rfl,q.1,ret L q.2⟩⟩
end
end
section
section
variable {gl:Fr} {n:Int}
theorem W6{a b:Bs}(h:a.length+b.length<=4611686018427387904):zw ((bl a).size+(bl b).size):=by unfold zw;rw[zh,zh];omega
theorem tB(o:mF gl){n:Nm}(r:n.2.1.length<=4611686018427387904){R:Bt->Prop}(h:R (bl (ql n))):PC Tp gl 92 [Arg.mk tN (ei n)] [.str] R:=by
 apply Ka;refine tJ r ⟨λf=>?_,λf=>?_⟩;have:qk n=Tc:=by simpa using f
 have e:ql n=[]:=by unfold ql;simp[this]
 rw[e]at h;exact h;have i:qk n=Ta:=by simpa using f
 obtain⟨u,p,l⟩:=Ya i;unfold ql at h;rw[zA i]at h;simp only[show(⟨#[]⟩:Bt)=bl []from rfl,eB];refine⟨λc=>?_,λc=>?_⟩;rw[zA (by simpa using c)]at h;exact h;rw[za (by simpa using c)]at h;intro K s;have key:∀t:Bs,t=(if n.1 then [45]else [])++n.2.1->K (bl t):=by
  intro t k;have q:t.length<=1001:=by rw[k];split <;> simp <;> omega
  rw[<-k]at h;refine s _ ⟨λb=>?_,λb=>?_⟩;rw[za (by simpa using b)]at h;have m:=Go.X.itoa_len n.2.2;refine Bo o (by omega) (by omega) ?_;refine⟨W6 (a:=[101]) (by simp;omega),?_⟩;rw[show(⟨#[101]⟩:Bt)=bl [101]from rfl,qb,qb];exact⟨W6 (by simp;omega),h⟩;rw[zA (by simpa using b),UM]at h;exact h
 refine⟨λb=>⟨W6 (a:=[45]) (by simp;omega),?_⟩,λb=>?_⟩;rw[show(⟨#[45]⟩:Bt)=bl [45]from rfl,qb];exact key _ (by rw[zA (by simpa using b)]);exact key _ (by rw[za (by simpa using b)];rfl)
theorem o7{k:Nat}(h:k<10):(bl [48,49,50,51,52,53,54,55,56,57]).extract k (k+1)=bl [UL (48+k)]:=by rw[qe,Go.X.dig_ext k h]
theorem Rl(h:10<=n):Lib.itoa n=Lib.itoa (n / 10)++[UL (48+(n % 10).toNat)]:=by unfold Lib.itoa;rw[za (by omega),za (by omega),Lib.decDigits,dif_neg (by omega)];congr 3;omega;omega
theorem itoa_neg(h:n<=-10):Lib.itoa n=Lib.itoa (n.tdiv 10)++[UL (48+(-(n.tmod 10)).toNat)]:=by
 obtain⟨m,rfl⟩:∃m:Nat,n=-(m:Int):=⟨n.natAbs,by omega⟩;have b:(-(m:Int)).tdiv 10=-((m / 10:Nat):Int):=by rw[Int.neg_tdiv];rfl
 have e:(-(m:Int)).tmod 10=-((m % 10:Nat):Int):=by rw[Int.neg_tmod];rfl
 rw[b,e];unfold Lib.itoa;rw[zA (by omega),zA (by omega)];have c:(-(m:Int)).natAbs=m:=by omega
 have a2:(-((m / 10:Nat):Int)).natAbs=m / 10:=by omega
 rw[c,a2];conv=>lhs;rw[Lib.decDigits,dif_neg (by omega)]
 rw[UF];congr 4;omega
theorem vC{gl:Fr}{n:Int}(h1:-9223372036854775808<=n)(h2:n<=9223372036854775807){R:Bt->Prop}(h:R (bl (Lib.itoa n))):PC Tp gl 193 [Arg.mk p3 n] [.str] R:=by
 apply SP;have p:(⟨#[48,49,50,51,52,53,54,55,56,57]⟩:Bt)=bl [48,49,50,51,52,53,54,55,56,57]:=rfl;simp only[p];have c:(bl [48,49,50,51,52,53,54,55,56,57]).size=10:=by rw[zh];rfl
 refine⟨λk=>?_,λk=>⟨λb=>?_,λb=>⟨λf=>?_,λf=>?_⟩⟩⟩;have i:0<=n/\n<10:=by simpa[VG]using k
 rw[cK (by omega),c];refine⟨by omega,?_⟩;have e:(n+1).toNat=n.toNat+1:=by omega
 rw[e,o7 (by omega)];have:Lib.itoa n=[UL (48+n.toNat)]:=by unfold Lib.itoa;rw[za (by omega),Lib.decDigits,dif_pos (by omega)]
 rw[<-this];exact h;have i:10<=n:=by
  have:¬(0<=n/\n<10):=by simpa[VG]using k
  have:n>0:=by simpa using b
  omega
 have m:n.tdiv 10=n / 10:=Int.tdiv_eq_ediv_of_nonneg (by omega);have o:n.tmod 10=n % 10:=Int.tmod_eq_emod_of_nonneg (by omega);rw[m,o,cK (n:=n % 10+1) (by omega),cK (n:=n / 10) (by omega),c];refine⟨trivial,by omega,trivial,by omega,trivial,by omega,by omega,vC (n:=n / 10) (by omega) (by omega) ?_⟩;have e:(n % 10+1).toNat=(n % 10).toNat+1:=by omega
 rw[e,o7 (by omega)];refine⟨W6 ?_,?_⟩;have:=Go.X.itoa_len (n / 10);simp;omega;rw[qb,<-Rl i];exact h;have i:-10<n/\n<0:=by
  have:¬(0<=n/\n<10):=by simpa[VG]using k
  have:¬n>0:=by simpa using b
  have:n > -10:=by simpa using f
  omega
 have l:(0:Int)-n=-n:=by omega
 rw[l,cK (n:=-n) (by omega),cK (n:=-n+1) (by omega),c];have e:(-n+1).toNat=(-n).toNat+1:=by omega
 rw[e,o7 (by omega)];refine⟨by omega,W6 (a:=[45]) (by simp),?_⟩;rw[show(⟨#[45]⟩:Bt)=bl [45]from rfl,qb];have:Lib.itoa n=[45]++[UL (48+(-n).toNat)]:=by
  unfold Lib.itoa;rw[zA (by omega),Lib.decDigits,dif_pos (by omega)];have:n.natAbs=(-n).toNat:=by omega
  rw[this];rfl
 rw[<-this];exact h;have i:n<=-10:=by
  have:¬(0<=n/\n<10):=by simpa[VG]using k
  have:¬n>0:=by simpa using b
  have:¬n > -10:=by simpa using f
  omega
 have q:n.tdiv 10=-((-n) / 10):=by have:=Int.neg_tdiv (-n) 10;rw[Int.neg_neg]at this;rw[this,Int.tdiv_eq_ediv_of_nonneg (by omega)]
 have r:n.tmod 10=-((-n) % 10):=by have:=Int.neg_tmod (-n) 10;rw[Int.neg_neg]at this;rw[this,Int.tmod_eq_emod_of_nonneg (by omega)]
 have l:(0:Int)-n.tmod 10=-(n.tmod 10):=by omega
 rw[l,cK (n:=-(n.tmod 10)) (by omega),cK (n:=-(n.tmod 10)+1) (by omega),cK (n:=n.tdiv 10) (by omega),c];have e:(-(n.tmod 10)+1).toNat=(-(n.tmod 10)).toNat+1:=by omega
 rw[e,o7 (by omega)];refine⟨trivial,by omega,trivial,by omega,trivial,by omega,by omega,vC (n:=n.tdiv 10) (by omega) (by omega) ?_⟩;refine⟨W6 ?_,?_⟩;have:=Go.X.itoa_len (n.tdiv 10);simp;omega;rw[qb,<-itoa_neg i];exact h
termination_by n.natAbs
decreasing_by all_goals omega
theorem TF{n:Nm}(r:n.2.1.length<=4611686018427387904){R:Bt->Prop}(h:R (bl (ql n))):PC Tp gl 233 [Arg.mk tN (ei n)] [.str] R:=by
 apply RJ;refine AE r ⟨λk=>?_,λk=>?_⟩;have:qk n=Tc:=by simpa using k
 have e:ql n=[]:=by unfold ql;simp[this]
 rw[e]at h;exact h;have i:qk n=Ta:=by simpa using k
 obtain⟨u,p,m⟩:=Ya i;unfold ql at h;rw[zA i]at h;refine FD (n:=n) ⟨λf=>?_,λf=>?_⟩;have:n.2.1=[]:=by unfold Q9 at f;simp at f;exact f.2.1
 rw[zA this]at h;exact h;have:¬n.2.1=[]:=λe=>by have:=qN i e;rw[this]at f;cases f
 rw[za this]at h;intro K s;have key:∀t:Bs,t=(if n.1 then [45]else [])++n.2.1->K (bl t):=by
  intro t l;have q:t.length<=1001:=by rw[l];split <;> simp <;> omega
  rw[<-l]at h;refine s _ ⟨λc=>?_,λc=>?_⟩;rw[za (by simpa using c)]at h;have o:=Go.X.itoa_len n.2.2;refine⟨W6 (b:=[101]) (by simp;omega),vC (n:=n.2.2) (by omega) (by omega) ?_⟩;rw[show(⟨#[101]⟩:Bt)=bl [101]from rfl,qb,qb];exact⟨W6 (by simp;omega),by rw[UB];exact h⟩;rw[zA (by simpa using c),UM]at h;exact h
 refine⟨λc=>⟨W6 (a:=[45]) (by simp;omega),?_⟩,λc=>?_⟩;rw[show(⟨#[45]⟩:Bt)=bl [45]from rfl,qb];exact key _ (by rw[zA (by simpa using c)]);exact key _ (by rw[za (by simpa using c)];rfl)
theorem L4(f:mF gl)(h1:-9223372036854775808<=n)(h2:n<=9223372036854775807){R:Bool×Bt×Int->Prop}(h:R (ei (zm (Lib.itoa n)).1)):PC Tp gl 93 [Arg.mk p3 n] [tN] R:=by
 apply Of;refine Bo f h1 h2 (pG ?_ h);have:=Go.X.itoa_len n;have b:∀u:Nat,u<10 ^ 20->(Lib.decDigits u).length<=20:=by
  have:∀(k u:Nat),u<10 ^ (k+1)->(Lib.decDigits u).length<=k+1:=by
   intro k;induction k with
   |zero=>intro u c;rw[Lib.decDigits,dif_pos (by simpa using c)];simp
   |succ k e=>intro u c;rw[Lib.decDigits];split;simp;have:=e (u / 10) (by rw[YI]at c;omega);simp;omega
  exact this 19
 have:(Lib.itoa n).length<=21:=by unfold Lib.itoa;split;have:=b n.natAbs (by omega);simp;omega;have:=b n.toNat (by omega);omega
 omega
end
section
variable {l:Bs} {n:Int}
theorem mi{c:UInt8}(e:n=(c.toNat:Int)):(bif decide ((l.length:Int)>0)then(((l[0]?.getD 0).toNat:Int)==n)else Tc)=(l.head?==Td c):=by
 subst e;cases l with
 |nil=>rfl
 |cons b t=>
  have:decide (((b::t).length:Int)>0)=Ta:=by simp
  rw[this,zG];show((b.toNat:Int)==(c.toNat:Int))=(Td b==Td c);rw[Uy];simp only[beq_iff_eq,Int.natCast_inj,Ud];exact⟨λh=>XL.1 h,λh=>by rw[h]⟩
theorem pC:bl ((l.drop (1:Int).toNat).take (((l.length:Int)).toNat-(1:Int).toNat))=bl l.tail:=by rw[Ue,show(1:Int).toNat=1 from rfl,List.drop_one,Vi (by simp)]
theorem uh{c:UInt8}(d:UInt8)(b:n=(d.toNat:Int)):((c.toNat:Int) != n)=!(c==d):=by subst b;rw[Uy];simp only[bne_iff_ne,ne_eq,Int.natCast_inj,WZ,beq_eq_false_iff_ne];exact⟨λh e=>h (by rw[e]),λh e=>h (XL.1 e)⟩
set_option maxHeartbeats 1000000 in
theorem R5{gl:Fr}{s:Bs}(hs:s.length<=1152921504606846976){R:Bool×Bt×Bt×Bool×Bt×Bool->Prop}
  (h1:Wy s=Ta->R ((Yb s).neg,bl (Yb s).whole,bl (Yb s).rest,(Yb s).low,bl (if(jl s).2.2 then(Yb s).exp else [48]),Ta)) (h2:Wy s=Tc->∀a b c d e,R (a,bl b,bl c,d,bl e,Tc)):
  PC Tp gl 291 [Arg.mk .str (bl s)] [.bool,.str,.str,.bool,.str,.bool] R:=by
 apply ML
 simp only[zh,qc,show(0:Int).toNat=0 from rfl,mi (l:=s) (c:=45) (n:=45) rfl]
 refine⟨λu=>by grind,?_⟩
 have hS:(dG s).length<=s.length:=by unfold dG;split <;> simp
 have first:∀K:Bt->Prop,K (bl (dG s))->(((s.head?==Td 45)=Ta->(0<=(1:Int)/\(1:Int)<=(s.length:Int)/\((s.length:Int))<=(s.length:Int))/\K ((bl s).extract (1:Int).toNat ((s.length:Int)).toNat))/\((s.head?==Td 45)=Tc->K (bl s))):=by
  intro K L
  unfold dG at L
  refine⟨λu=>⟨?_,?_⟩,λu=>?_⟩
  ·cases s with
   |nil=>simp at u
   |cons=>simp;omega
  ·rw[u,zA rfl]at L
   rw[qe,pC];exact L
  ·simp_all
 intro K L
 refine first K (L _ ?_)
 clear L first K
 generalize aj:dG s=s1 at *
 simp only[zh,qc]
 have hM:cutAt eC s1=jl s:=by rw[jl,aj]
 refine⟨λi=>∃k:Nat,i=k/\k<=s1.length/\∀j (N:j<s1.length),j<k->eC s1[j]=Tc,λi=>s1.length-i.toNat,⟨0,rfl,by omega,λj _ h=>by omega⟩,?_⟩
 rintro i ⟨k,rfl,P,hb⟩
 have S:∀P:k<s1.length,(bif (bif decide ((k:Int)<(s1.length:Int))then((((s1[((k:Int)).toNat]?).getD 0).toNat:Int) != 101)else Tc)then((((s1[((k:Int)).toNat]?).getD 0).toNat:Int) != 69)else Tc)=!eC s1[k]:=by
  intro P
  rw[Ue,gJ P]
  have:decide ((k:Int)<(s1.length:Int))=Ta:=by simpa using P
  rw[this,zG,uh (n:=101) 101 rfl,uh (n:=69) 69 rfl,eC]
  cases s1[k]==101 <;> simp
 refine⟨λC=>?_,λC=>?_,λC=>?_,λC=>?_⟩
 simp_all
 simp_all
 ·have t:k<s1.length:=by simp at C;omega
  rw[S t]at C
  rw[qn t (by omega)]
  grind
 ·-- the whole and the point
  have hm:jl s=if P:k<s1.length then(s1.take k,s1.drop (k+1),Ta)else(s1,[],Tc):=by
   rw[<-hM]
   split
   ·grind [mj]
   ·grind [Qz,WK]
  have w:s1.take k=(jl s).1:=by
   rw[hm];split
   ·rfl
   ·grind
  have rest:∀(e:Bs) (low:Bool),low=xr s->e=(if(jl s).2.2 then dh s else [48]) ->
    ∀E:Bt->Bool->Prop,(∀o:Bt,∀f:Bool,o=bl e->f=low->E o f)->E (bl e) low:=λe low _ _ E h=>h _ _ rfl rfl
  intro E Z
  have fin:∀(e:Bs) (low:Bool),low=xr s->e=(if(jl s).2.2 then dh s else [48])->E (bl e) low:=by
   intro e low af I
   refine Z _ _ ⟨by omega,?_⟩
   have am:(bl s1).extract 0 ((k:Int)).toNat=bl (jl s).1:=by rw[Ue,qe,VD,Nat.sub_zero,w]
   rw[am]
   generalize ak:(jl s).1=m1 at *
   have ar:m1.length<=s1.length:=by rw[<-w];simp;omega
   have hw:cutAt eM m1=jm s:=by rw[jm,ak]
   simp only[zh,qc]
   refine⟨λi=>∃k:Nat,i=k/\k<=m1.length/\∀j (N:j<m1.length),j<k->eM m1[j]=Tc,λi=>m1.length-i.toNat,⟨0,rfl,by omega,λj _ h=>by omega⟩,?_⟩
   rintro i ⟨q,rfl,Y,ai⟩
   have F:∀Y:q<m1.length,(bif decide ((q:Int)<(m1.length:Int))then((((m1[((q:Int)).toNat]?).getD 0).toNat:Int) != 46)else Tc)=!eM m1[q]:=by
    intro Y
    rw[Ue,gJ Y]
    have:decide ((q:Int)<(m1.length:Int))=Ta:=by simpa using Y
    rw[this,zG,uh (n:=46) 46 rfl,eM]
   refine⟨λC=>?_,λC=>?_,λC=>⟨?_,?_⟩⟩
   ·grind
   ·have p:q<m1.length:=by simp at C;omega
    rw[F p]at C
    rw[qn p (by omega)]
    refine⟨⟨q+1,rfl,by omega,λj N au=>?_⟩,by grind⟩
    grind
   ·omega
   ·have D:jm s=if Y:q<m1.length then(m1.take q,m1.drop (q+1),Ta)else(m1,[],Tc):=by
     rw[<-hw]
     split
     ·rename_i p
      rw[F p]at C
      exact mj p (λj N=>ai j (by omega) N) (by simpa using C)
     ·exact Qz λc ah=>by
       obtain⟨j,N,rfl⟩:=WK ah
       grind
    have ab:(bl m1).extract 0 ((q:Int)).toNat=bl (jm s).1:=by
     rw[Ue,qe,VD,Nat.sub_zero,D]
     split
     ·rfl
     ·grind
    rw[ab]
    have aA:(jm s).1.length<=s.length:=by rw[D];split <;> simp <;> omega
    have ax:(jm s).2.1.length<=s.length:=by rw[D];split <;> simp <;> omega
    have ay:e.length<=s.length+1:=by
     rw[I]
     split
     ·rename_i az
      have:(dh s).length<=(jl s).2.1.length:=by
       unfold dh;split
       ·simp
       ·split <;> simp
      have:(jl s).2.1.length<=s1.length:=by rw[hm];split <;> simp
      omega
     ·simp
    have G:∀(B:Bt->Prop),(∀r:Bt,r=bl (if(jm s).2.2 then(jm s).2.1 else [48])->B r)->((decide ((q:Int)<(m1.length:Int)))=Ta->(0<=(hZ ((q:Int)+1))/\(hZ ((q:Int)+1))<=(m1.length:Int)/\((m1.length:Int))<=(m1.length:Int))/\B ((bl m1).extract (hZ ((q:Int)+1)).toNat ((m1.length:Int)).toNat))/\((decide ((q:Int)<(m1.length:Int)))=Tc->B (bl [48])):=by
     intro B A
     refine⟨λu=>?_,λu=>?_⟩
     ·have p:q<m1.length:=by simpa using u
      rw[qn p (by omega)]
      refine⟨by omega,A _ ?_⟩
      rw[D,dif_pos p,Ue,Ue,qe,Vi (by simp)];rfl
     ·grind
    intro B A
    refine G B λr hr=>A r ?_
    subst hr
    clear A G
    have ap:((q:Int)==(m1.length:Int))=!(jm s).2.2:=by
     rw[D,Uy]
     split
     ·simp;omega
     ·simp;omega
    refine Yy (l:=(jm s).1) (by omega) ⟨λx=>Zn (if(jm s).2.2 then(jm s).2.1 else [48])=x,λ_=>Yy (by grind) rfl,λy hy=>?_⟩
    refine⟨λx=>Zn e=x,λ_=>Yy (by omega) rfl,λz hz=>?_⟩
    rw[show(⟨#[48]⟩:Bt)=bl [48]from rfl]
    simp only[eB,zh,qc]
    generalize U:Zn (jm s).1=d1 at *
    have aa:Zn (if(jm s).2.2 then(jm s).2.1 else [48])=(!(jm s).2.2||Zn (jm s).2.1):=by
     cases(jm s).2.2 <;> simp;decide
    have V:Zn e=(!(jl s).2.2||Zn (dh s)):=by
     rw[I];cases(jl s).2.2 <;> simp;decide
    have m:Wy s=((bif (bif d1 then y else Tc)then z else Tc)&&((jm s).1==[48]||(jm s).1.head? != Td 48)):=by
     unfold Wy
     rw[U,<-aa,<-V]
     cases H:d1 with
     |false=>simp
     |true=>
      grind
    refine⟨λu=>?_,?_⟩
    ·have:d1=Ta:=by simp at u;exact u.1.1.1
     grind [Wz]
    ·intro ae O
     have ig:ae (bl (jm s).2.1):=by
      refine O _ ?_
      have h4:∀H:d1=Ta,(bif decide ((jm s).1=[48])then Ta else(((((jm s).1[0]?).getD 0).toNat:Int) != 48))=((jm s).1==[48]||(jm s).1.head? != Td 48):=by
       intro H
       rw[pe (Wz (U.trans H)),VS,Uy];simp
      cases ho:Wy s with
      |true=>
       rw[ho]at m
       have H:d1=Ta:=by cases d1 <;> simp at m;rfl
       rw[h4 H]
       have an:(bif (bif d1 then y else Tc)then z else Tc)=Ta:=by
        cases hb:(bif (bif d1 then y else Tc)then z else Tc)with
        |true=>rfl
        |false=>grind
       rw[an]at m ⊢
       rw[zG]
       rw[Vo]at m
       rw[<-m]
       have:=h1 ho
       unfold Yb at this
       simp only at this
       rw[af,I]
       have e5:(if(jl s).2.2 then(if(jl s).2.2 then dh s else [])else [48])=(if(jl s).2.2 then dh s else [48]):=by cases(jl s).2.2 <;> rfl
       grind
      |false=>
       rw[ho]at m
       have hv:(bif (bif (bif d1 then y else Tc)then z else Tc)then(bif decide ((jm s).1=[48])then Ta else(((((jm s).1[0]?).getD 0).toNat:Int) != 48))else Tc)=Tc:=by
        cases H:d1 with
        |false=>rfl
        |true=>
         rw[h4 H]
         rw[H]at m
         grind
       grind
     grind
  refine⟨λu=>?_,λu=>?_⟩
  ·have t:k<s1.length:=by simpa using u
   rw[qn t (by omega)]
   have hE:(jl s).2.1=s1.drop (k+1):=by rw[hm,dif_pos t]
   have J:(jl s).2.2=Ta:=by rw[hm,dif_pos t]
   have Q:(bl s1).extract ((k+1:Nat):Int).toNat ((s1.length:Int)).toNat=bl (jl s).2.1:=by
    rw[Ue,Ue,qe,Vi (by simp),hE]
   rw[Q]
   simp only[zh,qc]
   rw[mi (l:=(jl s).2.1) (c:=45) (n:=45) rfl,mi (l:=(jl s).2.1) (c:=43) (n:=43) rfl]
   have M:((jl s).2.1.head?==Td 45)=xr s:=by unfold xr;rw[J];rfl
   rw[M]
   refine⟨by omega,λhy=>by grind,λhy=>by grind,λhy=>⟨?_,?_⟩,λhy=>?_⟩
   ·have:0<(jl s).2.1.length:=by
     cases hl:(jl s).2.1 with
     |nil=>grind
     |cons=>simp
    omega
   ·rw[qe,pC]
    refine fin _ _ rfl ?_
    rw[J,zA rfl,dh]
    grind
   ·refine fin _ _ rfl ?_
    rw[J,zA rfl,dh]
    grind
  ·have t:¬k<s1.length:=by simpa using u
   refine fin [48] Tc ?_ ?_
   ·unfold xr;grind
   grind
end
section
variable {l:Bs}
theorem wX(h:(l.head?==Td 48)=Tc):l.dropWhile (· == 48)=l:=by
 cases l with
 |nil=>rfl
 |cons b t=>rw[WM,za];simpa using h
theorem FG(h:(l.head?==Td 48)=Ta):l.tail.dropWhile (· == 48)=l.dropWhile (· == 48):=by
 cases l with
 |nil=>rfl
 |cons b t=>
  have:b=48:=by simpa using h
  subst this;rfl
theorem Rm(l:Bs):zl (48::l)=zl l:=rfl
theorem Gc(l:Bs):zl (l.dropWhile (· == 48))=zl l:=by
 induction l with
 |nil=>rfl
 |cons b t c=>
  rw[WM];split;rename_i h;have:b=48:=by simpa using h
  subst this;rw[c,Rm];rfl
theorem tG{n:Int}(h1:0<=n)(h2:n<256):T9 .u8 n=n:=by
 ((try unfold hZ);unfold T9);have e:(2:Int) ^ U4 .u8=256:=by decide
 simp only[e];have b:XT .u8=Tc:=rfl;simp only[b,XU,UR,if_false];omega
theorem LQ{m:Int}(b:0<=m):(bif decide ((l.length:Int)>m)then(((l[0]?.getD 0).toNat:Int)==48)else Tc)=(decide ((l.length:Int)>m)&&l.head?==Td 48):=by
 cases hd:decide ((l.length:Int)>m)with
 |false=>rfl
 |true=>
  have e:0<l.length:=by simp at hd;omega
  rw[zG,Vo];have:=mi (l:=l) (c:=48) (n:=48) rfl;rw[show decide ((l.length:Int)>0)=Ta by simp;omega,zG]at this;exact this
def stripR(l:Bs):Bs:=(l.reverse.dropWhile (· == 48)).reverse
theorem JF{c:UInt8}(h:c=48):stripR (l++[c])=stripR l:=by subst h;unfold stripR;rw[List.reverse_append];rfl
theorem MR{c:UInt8}(h:¬c=48):stripR (l++[c])=l++[c]:=by unfold stripR;rw[List.reverse_append,List.reverse_singleton,List.singleton_append,WM,za (by simpa using h)];simp
theorem M4{α β γ δ:Type}{B:α->β->γ->δ->Prop}{c:Bool}{a b:α}{x:β}{y:γ}{z:δ}(h:∀e,e=(bif c then a else b)->B e x y z):∀K:α->β->γ->δ->Prop,(∀e x y z,B e x y z->K e x y z)->(c=Ta->K a x y z)/\(c=Tc->K b x y z):= λK i=>⟨λf=>i _ _ _ _ (h _ (by subst f;rfl)),λf=>i _ _ _ _ (h _ (by subst f;rfl))⟩
set_option maxHeartbeats 1000000 in
theorem Nv{gl : Fr}{s : Bs}(hs : s.length <= 1152921504606846976){R : (Bool × Bt × Int) × Int -> Prop}(h : R (ei (zm s).1, (zm s).2)): PC Tp gl 232 [Arg.mk .str (bl s)] [tN, .int .i64] R := by
  apply Ke;refine R5 hs (λhok => ?_) (λhok a b c d e => ?_);rotate_left;refine ⟨λ_ => ?_, λhx => by cases hx⟩;have : Qj s = Te := by unfold Qj; simp [hok]
  unfold zm at h;rw [this] at h; exact h;have hlit : Qj s = Td (Yb s) := by unfold Qj; simp [hok]
  have hlen := tn hlit;obtain ⟨d1, d2, d3⟩ := sE hlit;unfold zm at h;rw [hlit] at h;simp only at h;obtain ⟨E1, hE1, hE1d, hE1v⟩ : ∃ E1, (if (jl s).2.2 then (Yb s).exp else [48]) = E1 /\ E1.all yb = Ta /\ E1.dropWhile (· == 48) = (Yb s).exp.dropWhile (· == 48) := by
    refine ⟨_, rfl, ?_, ?_⟩;split;exact d3;rfl;cases hm : (jl s).2.2 with
    | true => rfl
    | false => simp [Yb, hm]
  have hE1l : E1.length <= s.length + 1 := by rw [<- hE1]; split;omega;simp only [VH]; omega
  rw [hE1];generalize Yb s = x at *;refine ⟨λhx => (by cases hx), λ_ => ?_⟩;simp only [zh];rw [cK (by omega)];refine ⟨λhx => ?_, λhx => ?_⟩;rw [zA (by simp at hx; omega)] at h; exact h;rw [za (by simp at hx; omega)] at h;have hx' : x.whole.length + x.rest.length <= 1000 := by simp at hx; omega
  refine ⟨λe8 _ _ _ => ∃ E : Bs, e8 = bl E /\ E.all yb = Ta /\ E.dropWhile (· == 48) = x.exp.dropWhile (· == 48), λe8 _ _ _ => e8.size, ⟨E1, rfl, hE1d, hE1v⟩, ?_⟩;rintro e8 b1 b2 b3 ⟨E, rfl, hEd, hEv⟩;simp only [zh, qc, show (0 : Int).toNat = 0 from rfl, LQ (l := E) (m := 1) (by omega)];refine ⟨λhy => by simp at hy; omega, λhy => ?_, λhy => ?_⟩;have hy1 : 1 < E.length /\ (E.head? == Td 48) = Ta := by
    have : (1 : Int) < (E.length : Int) /\ E.head? = Td 48 := by simpa using hy
    exact ⟨by omega, by simp [this.2]⟩
  rw [qe, pC];refine ⟨by omega, ⟨E.tail, rfl, ?_, ?_⟩, by rw [zh, List.length_tail]; omega⟩;rw [<- List.drop_one]; exact F0 hEd 1;rw [FG hy1.2, hEv];have hEx : (E.length <= 1 \/ E.dropWhile (· == 48) = E) := by
    cases hh : (E.head? == Td 48) with
    | false => exact .inr (wX hh)
    | true => rw [hh] at hy; simp at hy; exact .inl (by omega)
  have hdl := wv E (· == 48);have hlen9 : E.length > 9 ↔ (x.exp.dropWhile (· == 48)).length > 9 := by rw [<- hEv];rcases hEx with hx | hx;omega;rw [hx]
  refine ⟨λhz => ?_, λhz => ?_⟩;rw [zA (hlen9.1 (by simp at hz; omega))] at h; exact h;have hE9 : E.length <= 9 := by simp at hz; omega
  rw [za (λhh => by have := hlen9.2 hh; omega)] at h;have hval : zl (x.exp.dropWhile (· == 48)) = zl E := by rw [<- hEv, Gc]
  rw [hval] at h;have hvb : zl E < 10 ^ 9 := lZ hE9 hEd;refine ⟨λe i _ _ _ => ∃ k : Nat, i = k /\ k <= E.length /\ e = (zl (E.take k) : Int), λ_ i _ _ _ => E.length - i.toNat, ⟨0, rfl, by omega, by simp [zl]⟩, ?_⟩;rintro e i b1 b2 b3 ⟨k, rfl, hk, rfl⟩;refine ⟨λhc => ?_, λhc => ?_⟩;have hc' : k < E.length := by simpa using hc
  have hd := pT hEd hc';simp only [Ue, gJ hc'];have hle := lZ (n := 9) (l := E.take k) (by simp; omega) (ue hEd k);rw [tG (by omega) (by omega), qn hc' (by omega), cK (n := 10 * _) (by omega), cK (n := (_ : Int) - 48) (by omega), cK (n := _ + _) (by omega)];refine ⟨by omega, ⟨k + 1, rfl, by omega, ?_⟩, by simp only [Ue]; omega⟩;rw [xm hc']; omega;have hc' : ¬ k < E.length := by simpa using hc
  rw [Vi (by omega)];apply M4;intro e7 he7;refine ⟨by unfold zw; omega, ?_⟩;rw [qb];have hD : (x.whole ++ x.rest).all yb = Ta := by rw [WX, Qp d1, d2]; rfl
  have hev : e7 = if x.low then - (zl E : Int) else (zl E : Int) := by rw [he7]; cases x.low <;> simp; exact cK (by omega)
  rw [<- hev] at h;have hb : -1000000000 <= e7 /\ e7 <= 1000000000 := by rw [hev]; split <;> omega
  refine ⟨λd _ _ _ => ∃ D : Bs, d = bl D /\ D.dropWhile (· == 48) = (x.whole ++ x.rest).dropWhile (· == 48) /\ D.length <= 1000, λd _ _ _ => d.size, ⟨_, rfl, rfl, by rw [Uf]; exact hx'⟩, ?_⟩;rintro d b1 b2 b3 ⟨D, rfl, hDv, hDl⟩;simp only [zh, qc, mi (l := D) (c := 48) (n := 48) rfl];refine ⟨λhy => by simp at hy; omega, λhy => ?_, λhy => ?_⟩;have hp : 0 < D.length := by
    cases D with
    | nil => simp at hy
    | cons => simp
  rw [qe, pC];exact ⟨by omega, ⟨D.tail, rfl, by rw [FG hy, hDv], by rw [List.length_tail]; omega⟩, by rw [zh, List.length_tail]; omega⟩;have hDe := wX hy;rw [hDv] at hDe;rw [show (⟨#[]⟩ : Bt) = bl [] from rfl];simp only [eB];rw [hDe] at h;refine ⟨λhz => ?_, λhz => ?_⟩;rw [zA (by simpa using hz)] at h; exact h;have hne : D ≠ [] := by simpa using hz
  rw [za hne] at h;have hsh : jw (x.whole ++ x.rest) = stripR D := by unfold jw stripR; rw [hDe]
  have hsl : (stripR D).length <= D.length := by have := (Qq hD (by rw [hDe]; exact hne)).2.1;rw [hsh, hDe] at this; exact this
  have hsne : stripR D ≠ [] := by have := (Qq hD (by rw [hDe]; exact hne)).1;rw [hsh] at this;intro e; rw [e] at this; cases this
  rw [hsh] at h;rw [cK (n := e7 - _) (by omega)];refine ⟨λe d _ _ _ => ∃ D' : Bs, d = bl D' /\ D'.length <= 1000 /\ stripR D' = stripR D /\ e + D'.length = e7 - (x.rest.length : Int) + D.length, λ_ d _ _ _ => d.size, ⟨D, rfl, hDl, rfl, rfl⟩, ?_⟩;rintro e d b1 b2 b3 ⟨D', rfl, hl', hs', he'⟩;have hne' : D' ≠ [] := by rintro rfl;rw [<- hs'] at hsne; exact hsne rfl
  have hp : 0 < D'.length := U5.2 hne';simp only [zh, qc];rw [kO hp (by omega)];have hlast : D' = D'.take (D'.length - 1) ++ [D'[D'.length - 1]] := by rw [<- Uh (by omega), show D'.length - 1 + 1 = D'.length by omega, Uz]
  simp only [Ue, gJ (show D'.length - 1 < D'.length by omega)];refine ⟨by omega, λhq => ?_, λhq => ?_⟩;have hc48 : D'[D'.length - 1] = 48 := XL.1 (by (have : (D'[D'.length - 1].toNat : Int) = 48 := by simpa using hq); (have : D'[D'.length - 1].toNat = 48 := by omega); rw [this]; rfl);rw [cK (n := e + 1) (by omega), qe];refine ⟨by omega, ⟨D'.take (D'.length - 1), by simp, by simp; omega, ?_, by simp; omega⟩, by rw [zh]; simp; omega⟩;rw [<- hs'];conv => rhs; rw [hlast]
  rw [JF hc48];have hc48 : ¬ D'[D'.length - 1] = 48 := λe => by rw [e] at hq; simp at hq
  have hfin : D' = stripR D := by
    rw [<- hs'];conv => rhs; rw [hlast]
    rw [MR hc48, <- hlast]
  have hee : e = e7 - (x.rest.length : Int) + (D.length : Int) - ((stripR D).length : Int) := by rw [<- hfin]; omega
  rw [hee, hfin];refine ⟨λhw => ?_, λhw => ?_⟩;rw [za (by rw [VS] at hw; simp at hw; omega)] at h; exact h;rw [zA (by rw [VS] at hw; simp at hw; omega)] at h; exact h
end
end
section
open Go.Shelf Go.RowKit
def KI:Go.Shelf.Ren:=⟨fun|196=>246|259=>297|n=>n,fun|9=>9|4=>4|3=>3|5=>5|12=>12|119=>305|0=>0|46=>123|139=>308|138=>307|53=>178|n=>n,fun|3=>0|4=>1|n=>n⟩
theorem LV:Go.Proofs.Lays.n196 Tp KI:=by constructor <;> intros <;> kernel_rfl
open Go.RowKit Go.Lib in
theorem TG(s:Bt)(w:World)(b:s.size<=9223372036854775807)(c:Lib.Utf8Tabs 0 1 w): Calls Tp 246 #[.string s] w λe w'=>e=.returned (.bool (Lib.validD s.data.toList))/\Below w.heap.size w w':=Any.utf8_ValidString LV s w b c
end
section
variable {l:Bs}
theorem jU{n:Int}{k:Nat}(b:n=(k:Int)):(bl l).extract n.toNat ((l.length:Int)).toNat=bl (l.drop k):=by subst b;rw[Ue,Ue,qe,Vi (by simp)]
theorem C7(l:Bs):Lib.validD l=xd l:=by
 by_cases h:l=[];subst h;rw[Qo];rfl;rw[Lib.validD_step l h,Zc h,Lib.decodeL_N,C7 (l.drop _)];have e:dD (dec l)=decide ((dec l).1=65533/\(dec l).2=1):=by unfold dD;rw[Bool.decide_and];rfl
 rw[e];by_cases c:(dec l).1=65533/\(dec l).2=1;rw[zE c];exact zA c;rw[zF c];exact za c
termination_by l.length
decreasing_by
 have h1:=j6 l;have h2:0<l.length:=U5.2 h;unfold dec at h1;simp only[UD];omega
theorem Kk{gl:Fr}(c:Tabs gl)(e:l.length<=4611686018427387904){R:Bool->Prop}(h:R (xd l)):PC Tp gl 246 [Arg.mk .str (bl l)] [.bool] R:= PC.of_scal rfl (λ_=>uH _) (by rw[<-C7]at h;exact h) λw b=>TG (bl l) w (by rw[zh];omega) (c.at b)
end
section
open Go.Lib
section
theorem H8(l:Bs)(a:Nat):l.foldl (λn c=>10*n+(c.toNat-48)) a=a*10 ^ l.length+zl l:=by
 induction l generalizing a with
 |nil=>simp[zl]
 |cons c t b=>
  simp only[List.foldl_cons,Uk,zl];rw[b,b (10*0+(c.toNat-48)),YI];have:(10*a+(c.toNat-48))*10 ^ t.length=a*(10 ^ t.length*10)+(c.toNat-48)*10 ^ t.length:=by rw[VU,XJ 10 a,Nat.mul_assoc,XJ 10 (10 ^ t.length)]
  rw[this];simp;omega
theorem W8(a b:Bs):zl (a++b)=zl a*10 ^ b.length+zl b:=by rw[zl,List.foldl_append,H8];rfl
theorem Ge(n:Nat):zl (Vh n 48)=0:=by
 induction n with
 |zero=>rfl
 |succ n b=>rw[List.replicate_succ];exact b
theorem Ey:∀(l:Bs) (b:Nat),l.all yb=Ta->b*10 ^ l.length+zl l<10 ^ 19->parseUintM (2 ^ 64-1) b l=.ok (b*10 ^ l.length+zl l)
 |[],b,_,_=>by simp[parseUintM,zl]
 |c::t,b,hd,hl=>by
  rw[WQ,Ui]at hd
  have i:48<=c.toNat/\c.toNat<=57:=by simpa[yb]using hd.1
  have e:zl (c::t)=(c.toNat-48)*10 ^ t.length+zl t:=by
   have:=W8 [c] t
   rw[List.singleton_append]at this
   rw[this];simp[zl]
  have f:(b*10+(c.toNat-48))*10 ^ t.length+zl t=b*10 ^ (c::t).length+zl (c::t):=by
   rw[e,Uk,YI,VU,Nat.mul_assoc,XJ 10 (10 ^ t.length)];omega
  have h:1<=10 ^ t.length:=Nat.one_le_pow _ _ (by decide)
  have k:b*10+(c.toNat-48)<=b*10 ^ (c::t).length+zl (c::t):=by
   rw[<-f]
   calc b*10+(c.toNat-48)=(b*10+(c.toNat-48))*1:=by omega
    _<=(b*10+(c.toNat-48))*10 ^ t.length:=Nat.mul_le_mul_left _ h
    _<=_:=by omega
  rw[parseUintM,zA i,za (by omega),za (by omega),Ey t _ hd.2 (by rw[f];exact hl),f]
def wz(n:Nm):Bs:=n.2.1++Vh n.2.2.toNat 48
theorem yR(n:Nm):zl (wz n)=zl n.2.1*10 ^ n.2.2.toNat:=by rw[wz,W8,Ge,VI,WP]
theorem Gt{n:Nm}(h:qk n=Ta):n.2.1.all yb=Ta:=by unfold qk Q9 at h;rcases Vq _ _ ▸ h with h|h;simp at h;rw[h.2.1];rfl;simp only[Ui]at h;exact Qp h.1.1.1.1.1
theorem Du{n:Nm}(h:qk n=Ta):(wz n).all yb=Ta:=by rw[wz,WX,Gt h,Vo,Us];intro x b;rw[List.mem_replicate]at b;rw[b.2];rfl
theorem IP{l:Bs}(neg:Bool)(e:l.all yb=Ta)(k:l.length<=19)(b:l≠[]):
  parseIntB 64 ((if neg then [45]else [])++l)=if neg then(if zl l<=9223372036854775808 then .ok (-(zl l:Int))else .range)else(if zl l<=9223372036854775807 then .ok (zl l:Int)else .range):=by
 have m:zl l<10 ^ 19:=lZ k e;have f:=Ey l 0 e (by rw[Nat.zero_mul];omega);rw[Nat.zero_mul,UI]at f;cases neg with
 |true=>simp only[if_true,List.singleton_append];unfold parseIntB;simp only[show(45:UInt8).toNat=45 from rfl,or_true,if_true];unfold parseUintB;rw[za b,f];simp only[not_true_eq_false,false_and,if_false,true_and];split;rename_i h;rw[za (by omega)];rename_i h;rw[zA (by omega)]
 |false=>
  simp only[UR,if_false,UX];obtain⟨c,t,rfl⟩:=U9 b;have n:48<=c.toNat/\c.toNat<=57:=by rw[WQ,Ui]at e;simpa[yb]using e.1
  unfold parseIntB;simp only;rw[za (by omega)];unfold parseUintB;rw[za (by simp),f];have i:¬c.toNat=45:=by omega
  simp only[i,not_false_eq_true,true_and,false_and,if_false];split;rename_i h;rw[za (by omega)];rename_i h;rw[zA (by omega)]
theorem Gi{a b:Nat}(k:a<18446744073709551616)(l:b<18446744073709551616):T9 .u64 (((Vs (U4 .u64) (a:Int)) &&& (Vs (U4 .u64) (b:Int))).toNat:Int)=((a &&& b:Nat):Int):=by
 have c:U4 .u64=64:=rfl;have e:((Vs (U4 .u64) (a:Int)) &&& (Vs (U4 .u64) (b:Int))).toNat=a &&& b:=by rw[BitVec.toNat_and,BitVec.ofInt_natCast,BitVec.ofInt_natCast,BitVec.toNat_ofNat,BitVec.toNat_ofNat,c,Nat.mod_eq_of_lt (by omega),Nat.mod_eq_of_lt (by omega)]
 rw[e];have f:a &&& b<2 ^ 64:=Nat.and_lt_two_pow _ (by omega);((try unfold hZ);unfold T9);have h:(2:Int) ^ U4 .u64=18446744073709551616:=by decide
 simp only[h];have i:XT .u64=Tc:=rfl;simp only[i,XU,UR,if_false];omega
theorem SC{n:Int}(h1:0<=n)(h2:n<18446744073709551616):T9 .u64 n=n:=by
 ((try unfold hZ);unfold T9);have b:(2:Int) ^ U4 .u64=18446744073709551616:=by decide
 simp only[b];have c:XT .u64=Tc:=rfl;simp only[c,XU,UR,if_false];omega
end
section
variable {v x:Tr} {l:List Tr} {k:Nat}
mutual
def bR:Tr->Nat | .mk _ _ _ xs=>1+xn xs
def xn:List Tr->Nat | []=>0|x::l=>bR x+xn l
end
mutual
def c6:Tr->Nat | .mk _ _ _ xs=>Wb xs+1
def Wb:List Tr->Nat | []=>0|x::l=>max (c6 x) (Wb l)
end
mutual
def Zy(p:Tr->Bool):Tr->Bool | .mk k s ks xs=>p (.mk k s ks xs)&&eZ p xs
def eZ(p:Tr->Bool):List Tr->Bool | []=>Ta|x::l=>Zy p x&&eZ p l
end
mutual
def dw(m:Nat):Tr->Prop | .mk _ s ks xs=>(s.size<=m/\ks.length<=m/\∀k∈ks,k.size<=m)/\dS m xs
def dS(m:Nat):List Tr->Prop | []=>True|x::l=>dw m x/\dS m l
end
theorem q9(v:Tr):bR v=1+xn v.items:=by cases v;rw[bR]
theorem gZ(v:Tr):c6 v=Wb v.items+1:=by cases v;rw[c6]
theorem yp(p:Tr->Bool)(v:Tr):Zy p v=(p v&&eZ p v.items):=by cases v;rw[Zy]
theorem i6(m:Nat)(v:Tr):dw m v↔(v.text.size<=m/\v.keys.length<=m/\∀k∈v.keys,k.size<=m)/\dS m v.items:=by cases v;rw[dw]
theorem oO{m:Nat}:∀{l:List Tr},dS m l↔∀x∈l,dw m x
 |[]=>by simp[dS]
 |x::l=>by rw[dS,oO];simp
theorem Gl{m:Nat}(h:dw m v)(b:x∈v.items):dw m x:=oO.1 ((i6 m v).1 h).2 x b
theorem yz(p:Tr->Bool):∀l:List Tr,eZ p l=l.all (Zy p)
 |[]=>rfl
 |x::l=>by rw[eZ,yz p l];rfl
theorem W9:∀a b:List Tr,xn (a++b)=xn a+xn b
 |[],b=>by simp[xn]
 |x::l,b=>by rw[UF,xn,xn,W9 l b];omega
theorem DC:∀a b:List Tr,Wb (a++b)=max (Wb a) (Wb b)
 |[],b=>by simp[Wb]
 |x::l,b=>by rw[UF,Wb,Wb,DC l b];omega
theorem wZ{x:Tr}:∀{l:List Tr},x∈l->bR x<=xn l
 |y::l,h=>by rw[xn];rcases Uj.1 h with rfl|h;omega;have:=wZ h;omega
theorem qi(h:x∈v.items):bR x<bR v:=by have:=wZ h;rw[q9 v];omega
theorem ww:∀l:List Tr,l.length<=xn l
 |[]=>by simp[xn]
 |x::l=>by have:=ww l;rw[xn,Uk,q9];omega
theorem Zf(v:Tr):0<bR v:=by rw[q9];omega
theorem AL(b:k<l.length):xn (l.take (k+1))=xn (l.take k)+bR l[k]:=by rw[Uh b,W9];simp[xn]
theorem Dj(b:k<l.length):Wb (l.take (k+1))=max (Wb (l.take k)) (c6 l[k]):=by rw[Uh b,DC];simp[Wb]
mutual
theorem S7:∀v:Tr,c6 v<=bR v
 |.mk _ _ _ xs=>by rw[c6,bR];have:=pL xs;omega
theorem pL:∀l:List Tr,Wb l<=xn l
 |[]=>by simp[Wb]
 |x::l=>by rw[Wb,xn];have:=S7 x;have:=pL l;omega
end
def qw(ks:List Bt):Bool:=ks.all (λk=>xd (lb k))&&decide ks.Nodup
def dO(s:Bs):Nm×Bool:=((zm s).1,(zm s).2==0&&decide (ql (zm s).1=s))
def pg(s:Bs):Bool:=(dO s).2&&(kw (dO s).1).2&&decide (0<=(kw (dO s).1).1)
def zn(v:Tr):Bool:=
 if v.kind=1 then lb v.text==[]&&v.keys.isEmpty&&v.items.isEmpty
 else if v.kind=2 then(lb v.text==[116,114,117,101]||lb v.text==[102,97,108,115,101])&&v.keys.isEmpty&&v.items.isEmpty
 else if v.kind=3 then(dO (lb v.text)).2&&v.keys.isEmpty&&v.items.isEmpty
 else if v.kind=4 then xd (lb v.text)&&v.keys.isEmpty&&v.items.isEmpty
 else if v.kind=5 then lb v.text==[]&&v.keys.isEmpty
 else if v.kind=6 then qw v.keys&&decide (v.keys.length=v.items.length)&&lb v.text==[]
 else if v.kind=7 then pg (lb v.text)&&v.keys.isEmpty&&v.items.isEmpty
 else Tc
def wm(v:Tr):Bool:=decide (bR v<=4096)&&decide (c6 v<=32)
def Zg(v:Tr):Bool:=wm v&&Zy zn v
def zz(v:Tr):Bool:=wm v&&Zy (λx=>decide (x.kind≠7)&&zn x) v
structure Sm (v:Tr):Prop where
 sz:bR v<=1000000000000
 tx:dw 1048576 v
theorem Sm.item(h:Sm v)(b:x∈v.items):Sm x:=⟨by have:=qi b;have:=h.sz;omega,Gl h.tx b⟩
theorem Sm.text(h:Sm v):(lb v.text).length<=1048576:=by rw[gn];exact((i6 _ v).1 h.tx).1.1
theorem Sm.key(h:Sm v){k:Bt}(b:k∈v.keys):(lb k).length<=1048576:=by rw[gn];exact((i6 _ v).1 h.tx).1.2.2 k b
theorem Sm.keys(h:Sm v):v.keys.length<=1048576:=((i6 _ v).1 h.tx).1.2.1
theorem Sm.items(h:Sm v):v.items.length<=1000000000000:=by have:=ww v.items;have:=h.sz;rw[q9]at this;omega
end
end
section
variable {gl:Fr} {l s:Bs} {R:Bool -> Prop}
theorem Ca(s:Tabs gl)(x:l.length<=4611686018427387904){R:Int×Bool->Prop}(h:∀k,R (k,xd l)):PC Tp gl 196 [Arg.mk .str (bl l)] [.int .i64,.bool] R:=by
 apply Mf;refine Kk s x ⟨λn=>?_,λn=>?_⟩;have:=h ((bl l).size:Int);rw[n]at this;exact this;refine⟨λp=>p.1=bl l/\p.2<=l.length/\xd (l.drop p.2)=Tc,λp=>l.length-p.2,⟨rfl,by omega,by simpa using n⟩,?_⟩;rintro⟨_,p⟩ ⟨rfl,u,h2⟩;simp only at u h2 ⊢;rw[mc,k0];refine⟨λm=>⟨m,m,λq=>?_,λq=>⟨?_,?_⟩⟩,λm=>?_⟩;have c:p<l.length:=by simpa using m
 have b:l.drop p≠[]:=λe=>by have:=congrArg VA e;simp at this;omega
 have o:dD (dec (l.drop p))=Tc:=by
  unfold dD;have:¬(dec (l.drop p)).1=65533:=λe=>by rw[e]at q;simp at q
  simp[this]
 rw[Zc b,o]at h2;simp only[UR,if_false,Vl]at h2;rw[iH l p c];have w:=j6 (l.drop p);have i:=mN b;simp only[UD]at i;exact⟨⟨trivial,by omega,h2⟩,by omega⟩;have c:p<l.length:=by simpa using m
 rw[zh];omega;have c:p<l.length:=by simpa using m
 have b:l.drop p≠[]:=λe=>by have:=congrArg VA e;simp at this;omega
 rw[zh,jU (k:=p) rfl];refine zW s ?_;have r:(bl (l.drop p)).size≠0:=by rw[zh];simp;omega
 have t:Lib.decodeGo (bl (l.drop p))=dec (l.drop p):=by unfold Lib.decodeGo;rw[za r,nK,ym,VD]
 rw[t];refine⟨λf=>?_,λf=>?_⟩;have:=h (p:Int);have y:xd l=Tc:=n;rw[y]at this;exact this;have o:dD (dec (l.drop p))=Tc:=by
  unfold dD;have:¬(dec (l.drop p)).2=1:=λe=>by rw[e]at f;simp at f
  simp[this]
 rw[Zc b,o]at h2;simp only[UR,if_false,Vl]at h2;rw[iH l p c];have w:=j6 (l.drop p);have i:=mN b;simp only[UD]at i;exact⟨⟨trivial,by omega,h2⟩,by omega⟩;have:l.drop p=[]:=Vr (by(have:¬p<l.length:=by simpa using m);omega);rw[this,Qo]at h2;cases h2
theorem C8(b:Tabs gl)(c:l.length<=4611686018427387904)(h:R (xd l)):PC Tp gl 149 [Arg.mk .str (bl l)] [.bool] R:=by apply Gp;exact Ca b c λk=>h
theorem Cg(b:l.length<=4611686018427387904){R:Int×Bool->Prop}(h:∀k,R (k,xd l)):PC Tp gl 203 [Arg.mk .str (bl l)] [.int .i64,.bool] R:= TR (by rw[zh];omega) λk=>by rw[ym];exact h k
theorem AR(b:l.length<=4611686018427387904)(h:R (xd l)):PC Tp gl 224 [Arg.mk .str (bl l)] [.bool] R:=by apply LB;exact Cg b λk=>h
structure GL (gl:Fr):Prop where
 tabs:Tabs gl
 pow:mF gl
 max:AZ gl
 err:qM gl
theorem xt(s:Bs)(f:s.length<=1152921504606846976):(zm s).1.2.1.length<=4611686018427387904:=by
 unfold zm;split;simp;rename_i x c;have h1:=tn c;split;simp;split;simp;simp only;generalize (if x.low=Ta then-(zl (x.exp.dropWhile (· == 48)):Int)else zl (x.exp.dropWhile (· == 48)))=e;split;simp;rename_i b;have h2:(jw (x.whole++x.rest)).length<=(x.whole++x.rest).length:=by unfold jw;rw[List.length_reverse];refine VB (wv _ _) ?_;rw[List.length_reverse];exact wv _ _
 rw[Uf]at h2;split;show(jw (x.whole++x.rest)).length<=_;omega;simp
theorem t8(f:GL gl)(b:s.length<=1152921504606846976){R:(Bool×Bt×Int)×Bool->Prop}(h:R (ei (dO s).1,(dO s).2)):PC Tp gl 148 [Arg.mk .str (bl s)] [tN,.bool] R:=by
 apply SF;refine pG b ?_;refine⟨λt=>t=bl (ql (zm s).1),λ_=>tB f.pow (xt s b) rfl,λr c=>?_⟩;have e:(bif ((zm s).2==0)then(r.toList==(bl s).toList)else Tc)=(dO s).2:=by
  unfold dO;cases hc:((zm s).2==0)with
  |false=>rfl
  |true=>rw[c hc,zG,eB];rfl
 simp only at e ⊢;rw[e];exact h
theorem Ig(b:s.length<=1152921504606846976){R:(Bool×Bt×Int)×Bool->Prop}(h:R (ei (dO s).1,(dO s).2)):PC Tp gl 223 [Arg.mk .str (bl s)] [tN,.bool] R:=by
 apply Hb;refine Nv b ?_;refine⟨λt=>t=bl (ql (zm s).1),λ_=>TF (xt s b) rfl,λr c=>?_⟩;have e:(bif ((zm s).2==0)then(r.toList==(bl s).toList)else Tc)=(dO s).2:=by
  unfold dO;cases hc:((zm s).2==0)with
  |false=>rfl
  |true=>rw[c hc,zG,eB];rfl
 simp only at e ⊢;rw[e];exact h
theorem Pb(n:Nat):Lib.repeatL [48] n=Vh n 48:=by
 induction n with
 |zero=>rfl
 |succ n b=>rw[Lib.repeatL,b];rfl
theorem Ko(A:GL gl){n:Nm}(E:n.2.1.length<=4611686018427387904){R:Int×Bool->Prop}(h:R (kw n)):PC Tp gl 209 [Arg.mk tN (ei n)] [.int .i64,.bool] R:=by
 apply F9;refine tJ E ?_;unfold kw at h;cases hr:qk n with
 |false=>rw[hr]at h;exact⟨λ_=>by simpa using h,λo=>by simp at o⟩
 |true=>
  obtain⟨F,D,C⟩:=Ya hr;rw[hr]at h;simp only[Vo]at h;simp only[zh];rw[cK (by omega)];refine⟨λo=>?_,λo=>?_⟩;rw[za]at h;exact h;simp at o ⊢;omega;have z:0<=n.2.2/\(n.2.1.length:Int)+n.2.2<=19:=by simp at o;omega
  rw[zA (by simp;omega)]at h;rw[<-yR]at h;obtain⟨e,x⟩:∃e:Nat,n.2.2=(e:Int):=⟨n.2.2.toNat,by omega⟩;show PC Tp gl 200 [Arg.mk .str (bl [48]),Arg.mk p3 n.2.2] [.str] _;rw[x];refine rS (by omega) (by rw[zh];simp;omega) ?_;rw[ym,Pb,qb];have q:n.2.1++Vh e 48=wz n:=by rw[wz,x,Ue]
  have r:(wz n).length<=19:=by rw[<-q];simp;omega
  have w:=Du hr;rw[q];refine⟨W6 (a:=n.2.1) (by rw[VI];omega),?_⟩;rw[show(⟨#[]⟩:Bt)=bl []from rfl,show(⟨#[45]⟩:Bt)=bl [45]from rfl];simp only[qb];intro K B;have key:∀t:Bs,t=(if n.1 then [45]else [])++wz n->K (bl t):=by
   intro t c;refine B _ ⟨λm=>?_,λm=>?_⟩;have u:t=[]:=by have:=eB t [];rw[this]at m;simpa using m
   rw[u]at c;have l:n.1=Tc:=by cases hb:n.1 <;> simp[hb]at c;rfl
   have i:wz n=[]:=by simp[l]at c;exact c
   rw[l,i]at h;exact h;have k:t≠[]:=by intro e;rw[e,eB]at m;simp at m
   refine Lp A.err (by rw[zh,c];split <;> simp <;> omega) ?_;rw[ym,c];have i:wz n≠[]:=by
    intro s;cases hb:n.1 with
    |false=>rw[c,hb,s]at k;exact k rfl
    |true=>
     have y:n.2.1=[]:=by rw[wz]at s;exact(List.append_eq_nil_iff.1 s).1
     have:=qN hr y;unfold Q9 at this;rw[hb]at this;simp at this
   unfold rB;rw[IP n.1 w r i];cases hb:n.1 with
   |true=>rw[hb]at h;simp only[if_true]at h ⊢;by_cases p:zl (wz n)<=9223372036854775808;rw[zA (by omega)]at h;rw[zA p];exact⟨λf=>(by cases f),λ_=>h⟩;rw[za (by omega)]at h;rw[za p];exact⟨λ_=>h,λf=>(by cases f)⟩
   |false=>rw[hb]at h;simp only[UR,if_false]at h ⊢;by_cases p:zl (wz n)<=9223372036854775807;rw[zA (by omega)]at h;rw[zA p];exact⟨λf=>(by cases f),λ_=>h⟩;rw[za (by omega)]at h;rw[za p];exact⟨λ_=>h,λf=>(by cases f)⟩
  refine⟨λb=>⟨W6 (a:=[45]) (by simp;omega),?_⟩,λb=>?_⟩;exact key _ (by rw[zA (by simpa using b)]);exact key _ (by rw[za (by simpa using b)];rfl)
end
end Go.X
namespace Go.Proofs.YtplilfikcimcbaaGreatDoor
section
open Go.ChangeShapes Go.WideShapes Go.ChangeAt Go.RowKit Go.Lib
open Go.ChangeMaps (open_string shut_string)
set_option linter.unusedVariables false
section
variable {H:Type} {g:Nat} {t:TypeId}
theorem Tryz.own:ownKnob UN.godebug=none:=by kernel_rfl
theorem Tryz.laidOut:laidOutB UN=true:=by kernel_rfl
theorem Hq{enc:TypeId×Value->H}{a:Assume}{C:Checked}{os:Os}{f:FuncId}{fn:Func}{s:ChangeSpec}{o:List PathCond}{apart m h l:Bool}{X:World->Array Value->Prop} (L:∀(w w':World) (args:Array Value),w.heap=w'.heap->X w args->X w' args) (own:ownKnob C.prog.godebug=none) (n:os.Started) (q:C.prog.inits.idxOf? f=none) (G:C.prog.funcs[f]?=some fn) (p:∃(w:World) (b:Tape) (i:Input),w.os=os/\(w.forCall b i).Shaped C.prog/\i.vars=[]/\Input.okWide C.prog (w.forCall b i) .any w.heap.size f i /\ ((s.pre enc C.prog fn o apart (w.forCall b i).memory i.args/\X (w.forCall b i).memory i.args)/\sizedMet enc C.prog fn (OpenSpec.ofChange s) apart (w.forCall b i).memory i.args)/\a.holds C.prog (lone (Frame.enter C.prog f i.args .normal) [] (w.forCall b i))) (k:∀(W:World) (base:Nat) (args:Array Value) (z y:List (DataW H)) (c:List MemPlace),(∀(j:Nat) t v,fn.params[j]?=some t->args[j]?=some v->Value.okWide C.prog W .any base t v) -> DataW.Whole enc C.prog fn.params.toList s.vars apart W args.toList z y c -> (DataW.weightsEach C.prog (fn.params.toList++s.plain.varTypes C.prog) (z++y)).all (·<=reachBytes)=true -> X W args->W.ShapedOpen C.prog -> Calls C.prog f args W λe I=>∃v,e=.returned v/\s.post enc C.prog fn apart m h l W args v I):
  ReturnsInHanded a C os f .any (λw args=>(s.pre enc C.prog fn o apart w args/\X w args)/\sizedMet enc C.prog fn (OpenSpec.ofChange s) apart w args) (s.post enc C.prog fn apart m h l):=by
 refine returnsInHanded_of_calls own n q p ?_;intro w b i _ E _ D x A;obtain⟨_,_,_,F,u,_,_,_,_,r⟩:=D;have e:F=fn:=UO (u.symm.trans G);subst e;obtain⟨⟨⟨z,y,c,J,Q⟩,O⟩,M⟩:=x;have B:=DataW.Whole.of_heap (w':=w.forCall b i) (by rfl) J;refine(k (w.forCall b i) w.heap.size i.args z y c r B (M.weights J) (L _ _ _ (by rfl) O) E).mono λe I ⟨v,P,N⟩=>?_;subst P;exact ChangeSpec.post_blind N
theorem uP{P:Program}{W:World}{n:String}{k:IntKind}{o:List Int}{t e:TypeId}{m:Nat}(q:P.globalNamed n=some g)(s:(P.globals[g]?).map (·.type)=some t)(u:P.underlying t=some (.array m e))(w:P.underlying e=some (.int k))
  (c:P.cellsOf e=1) (l:P.cellsOf t=m) (h:VarReads P W n (tabData k o)):∃cs:Array Value,Fz W g=some cs/\cs.toList=o.map λz=>UT k z:=by
 obtain⟨g',t',cs,fuel,p,i,f,b,r⟩:=h;obtain rfl:=UO (q.symm.trans i);obtain rfl:=UO (s.symm.trans f);exact⟨cs,Fz.var q b,cells_of_tab u w c l r⟩
theorem T7{W : World}(h : VarReads Tryz.prog W "unicode/utf8.first" Pinned.utf8First): ∃ cs : Array Value, Fz W 0 = some cs ∧ ∀ c, c < 256 → cs[c]? = some (.int .u8 (Lib.firstT c)) := by rw[Pinned.utf8First_eq]at h;obtain⟨cs,h1,h2⟩:=uP (g:=0) (t:=305) (e:=5) (m:=256) (by kernel_rfl) (by kernel_rfl) (by kernel_rfl) (by kernel_rfl) (by kernel_rfl) (by kernel_rfl) h;refine⟨cs,h1,λc hc=>?_⟩;rw[<-Array.getElem?_toList,h2];simp[firstTab,hc]
theorem TU{W : World}(h : VarReads Tryz.prog W "unicode/utf8.acceptRanges" acceptData): ∃ cs : Array Value, Fz W 1 = some cs ∧ ∀ i, i < 16 → cs[2 * i]? = some (.int .u8 (Lib.accLo i)) ∧ cs[2 * i + 1]? = some (.int .u8 (Lib.accHi i)) := by
 obtain⟨g,t,cs,fuel,p,hg,hty,hvar,hd⟩:=h;obtain rfl := Option.some.inj ((show Tryz.prog.globalNamed "unicode/utf8.acceptRanges" = some 1 by kernel_rfl).symm.trans hg);obtain rfl:=Option.some.inj ((show(Tryz.prog.globals[1]?).map (·.type)=some 308 by kernel_rfl).symm.trans hty);refine⟨cs,Fz.var hg hvar,λi hi=>?_⟩;obtain⟨fuel',d,q,hdi,he⟩:=array_elem (show Tryz.prog.underlying 308=some (.array 16 307)by kernel_rfl) hd i hi;simp only[List.getElem?_map,List.getElem?_range hi,Option.map_some,Option.some.injEq]at hdi;subst hdi;have hc:Tryz.prog.cellsOf 307=2:=by kernel_rfl
 have c5:UN.cellsOf 5=1:=by kernel_rfl
 have u5:UN.underlying 5=some (.int .u8):=by kernel_rfl
 rw[hc]at he;have hcs:=ints_of_struct Tryz.underlying307 (λj f hj=>by
  match j,hj with
  |0,hj=>simp at hj;subst hj;exact⟨u5,rfl,c5⟩
  |1,hj=>simp at hj;subst hj;exact⟨u5,rfl,c5⟩
  |j+2,hj=>simp at hj) (by rw[hc];rfl) he
 have e0:=congrArg (·[0]?) hcs;have e1:=congrArg (·[1]?) hcs;simp only[UU,Va]at e0 e1;constructor;rw[<-VF];simpa[XJ]using e0;rw[<-VF];simpa[XJ]using e1
theorem Pa{W : World}{d : DataW Unit}(hd : d = tabData .u64 Lib.pow10Tab)(h : VarReads Tryz.prog W "internal/strconv.uint64pow10" d): mF (Fz W) := by subst hd;obtain⟨cs,h1,h2⟩:=uP (g:=2) (t:=349) (e:=178) (m:=20) (by kernel_rfl) (by kernel_rfl) (by kernel_rfl) (by kernel_rfl) (by kernel_rfl) (by kernel_rfl) h;exact⟨_,cs,by kernel_rfl,h1,by rw[<-h2]⟩
theorem Ef{W:World}{n:String}{ms:Array (String×TypeId)}{o:String}{d:DataW Unit}(k:UN.globalNamed n=some g)(r:(UN.globals[g]?).map (·.type)=some t)(q:UN.underlying t=some (.interface ms))(h:VarReads UN W n (.iface o d)):
  ∃(cs:Array Value) (e:Value),Fz W g=some cs/\cs[0]?=some e/\(e=.nilIface\/∃m s,e=.iface m s):=by
 obtain⟨g',t',cs,fuel,p,i,c,b,l⟩:=h;obtain rfl:=UO (k.symm.trans i);obtain rfl:=UO (r.symm.trans c);obtain⟨w,u,v,f,_,_⟩:=iface_of_trod q l;exact⟨cs,.iface u v,Fz.var k b,by rw[<-VF,f];rfl,.inr ⟨u,v,rfl⟩⟩
theorem JD{W:World}(h:W.ShapedOpen UN):AZ (Fz W):=by obtain⟨m,f⟩:=cell_of_shapedOpen_int (P:=UN) (g:=3) (t:=3) (zero:=#[.int .i64 0]) (k:=.i64) h (by decide +kernel) (by kernel_rfl) rfl (by kernel_rfl) (by kernel_rfl) (by kernel_rfl);obtain⟨b,o,c,e,h1,h2⟩:=Fz.cell f;cases e;exact⟨c,m,h1,h2⟩
def fX:List (String×DataW Unit):=Rows.diffReportsRow.laid
theorem KP{W:World}(h:laidMetH UN fX W)(f:W.ShapedOpen UN):GL (Fz W):=by
 have c:laidMet UN fX W:=by rw[MakeChecks.laidMetH_plain _ _ _ (by kernel_rfl)]at h;exact h
 have b:∀(i:Nat) (n:String) (d:DataW Unit),fX[i]?=some (n,d)->VarReads UN W n d:=λi n d e=>Go.Lib.laidMet.reads c (Vf e);exact {
  tabs:=⟨T7 (b 6 _ _ rfl),TU (by
   have e:(Rows.laid_unicode_utf8_acceptRanges:DataW Unit)=acceptData:=by kernel_rfl
   rw[<-e];exact b 3 _ _ rfl)⟩
  pow:=Pa (by kernel_rfl) (b 2 _ _ rfl)
  max:=JD f
  err:=⟨Ef (g:=4) (t:=91) (by kernel_rfl) (by kernel_rfl) Tryz.underlying91 (b 5 _ _ rfl),Ef (g:=5) (t:=91) (by kernel_rfl) (by kernel_rfl) Tryz.underlying91 (b 4 _ _ rfl)⟩ }
noncomputable def td(os:Os):World:=World.laidAll UN os fX
theorem Ha(os:Os)(args:Array Value):((td os).forCall (λ_ _=>0) ⟨#[],args,[]⟩).Shaped UN:=World.shaped_of_ZipB (by kernel_rfl) (by kernel_rfl)
theorem GF(os:Os)(args:Array Value):laidMetH UN fX ((td os).forCall (λ_ _=>0) ⟨#[],args,[]⟩).memory:=by rw[MakeChecks.laidMetH_plain _ _ _ (by kernel_rfl)];exact laidMet_laidAll _ (by kernel_rfl) (by kernel_rfl)
theorem FK{enc:TypeId×Value->H}{W:World}{sp:Nat->Bool}{held:Bool}(fuel:Nat)(cs:List Value)(x:DataW H×List MemPlace)(h:DataW.trod enc UN W 0 sp held fuel 25 cs=some x)(b:iK UN 25 x.1):∃t:Tr,Rd (Fz W) .tree t cs:= Mm (tk:=3) (ts:=9) (tss:=22) (tvs:=23) Tryz.underlying25 (by kernel_rfl) ⟨rfl,rfl,rfl,rfl,rfl,rfl,rfl,rfl⟩ (by kernel_rfl) (by kernel_rfl) (by kernel_rfl) (by kernel_rfl) (by kernel_rfl) (by kernel_rfl) (by kernel_rfl) (by kernel_rfl) (by decide +kernel) (by decide +kernel) fuel cs x h b
theorem KH{ts:List TypeId}{b:List (DataW H)}(h:(DataW.weightsEach UN ts b).all (·<=reachBytes)=true){j:Nat}{d:DataW H}(e:ts[j]?=some t)(c:b[j]?=some d):iK UN t d:=λn f=>by have:=Us.1 h n (DataW.weights_mem_each e c n f);simpa using this
end
end
end Go.Proofs.YtplilfikcimcbaaGreatDoor
namespace Go.X
section
section
theorem LO(f:Int)(e:Int)(h:zb)(R:Value->zb->Prop) (H:XC Tp 249 #[iV f,iV e] h (λa b=>∃c,a=.string c/\R (.string c) b)):
  XC Tp 199 #[.int .i64 f,.int .i64 e] h R:=
 XF ⟨[],[],[]⟩ [.tmp 4] 8 Tryz.func199 H
theorem Zo(x0:Int)(h:zb)(R:Value->zb->Prop) (H:R (.bool ((hZ (((Vs (U4 .i64) x0) &&& (Vs (U4 .i64) (hZ (x0-1)))).toNat:Int):Int)==0)) h):
  XC Tp 354 #[.int .i64 x0] h R:=
 XF ⟨[],[],[]⟩ [.tmp 2] 8 Tryz.func354 H
theorem Yo(x0:Int)(h:zb)(R:Value->zb->Prop) (H:(Tc=Ta->XC Tp 383 #[.int .u32 (T9 .u32 x0)] h (λa b=>∃c,a=iV c/\R (iV c) b))/\(Tc=Tc->XC Tp 384 #[.int .u64 x0] h (λd e=>∃f,d=iV f/\R (iV f) e))):
  XC Tp 355 #[.int .u64 x0] h R:=
 XF ⟨[],[],[]⟩ [.tmp 2] 8 Tryz.func355 H
theorem Qr(x0:Int)(h:zb)(R:Value->zb->Prop) (H:((x0==0)=Ta->R (iV 64) h)/\((x0==0)=Tc->∃a:Addr,(Td ⟨7,0,Te⟩=Td a/\0<=((T9 .u64 ((T9 .u64 (((Vs (U4 .u64) x0) &&& (Vs (U4 .u64) (T9 .u64 (0-x0)))).toNat:Int))*285870213051353865):Int).fdiv (2 ^ 58):Int)/\((T9 .u64 ((T9 .u64 (((Vs (U4 .u64) x0) &&& (Vs (U4 .u64) (T9 .u64 (0-x0)))).toNat:Int))*285870213051353865):Int).fdiv (2 ^ 58):Int)<((64:Nat):Int))/\∃b,zc h (a.add (((T9 .u64 ((T9 .u64 (((Vs (U4 .u64) x0) &&& (Vs (U4 .u64) (T9 .u64 (0-x0)))).toNat:Int))*285870213051353865):Int).fdiv (2 ^ 58):Int).toNat*1))=Td (.int .u8 b)/\R (iV (hZ b)) h)):
  XC Tp 384 #[.int .u64 x0] h R:=
 XF ⟨[],[],[]⟩ [.tmp 2] 14 Tryz.func384 H
theorem LH(c0:Int)(h:zb)(R:Value->zb->Prop) (H:∀a:Bool->zb->Prop,(∀b:Bool,∀c:zb,((b=Ta->R (.int .u8 (T9 .u8 c0)) c)/\(b=Tc->((c0==8)=Ta->R (.int .u8 98) c)/\((c0==8)=Tc->((c0==12)=Ta->R (.int .u8 102) c)/\((c0==12)=Tc->((c0==10)=Ta->R (.int .u8 110) c)/\((c0==10)=Tc->((c0==13)=Ta->R (.int .u8 114) c)/\((c0==13)=Tc->((c0==9)=Ta->R (.int .u8 116) c)/\((c0==9)=Tc->R (.int .u8 0) c)))))))->a b c)->((c0==34)=Ta->a (c0==34) h)/\((c0==34)=Tc->a (c0==92) h)):
  XC Tp 197 #[.int .i32 c0] h R:=
 XF ⟨[],[],[(4,[(4,.one (.bool))])]⟩ [.tmp 2] 19 Tryz.func197 H
end
section
theorem Ho(s0:Bt)(h:zb)(R:Value->zb->Prop) (H:let b:=h.push (.cells #[.string (⟨#[]⟩:Bt),.slice Te 0 0] 162);XC Tp 280 #[.string s0] b (λc d=>∃e f g,c=.tuple #[aK e,iV f,iV g]/\((g != 0)=Ta->XRunU Tp (Ub 162 (.pointer (Td ⟨h.size,0,Te⟩)) (.agg #[.string (⟨#[]⟩:Bt),.slice Te 0 0])) d (λi=>∃j k,zd i ⟨h.size,0,Te⟩ 0 [.string j,aK k]/\R (.tuple #[.agg #[.string j,aK k],iV f,iV g]) i))/\((g != 0)=Tc->let l:=d.push (.cells #[.string s0,.slice Te 0 0,iV 0,iV 0,.slice Te 0 0,iV 0,iV 0] 289);∃(m:Int->zb->Prop) (n:Int->zb->Nat),m 0 l/\∀o:Int,∀p:zb,m o p->((decide (o<e.len)=Ta->∃q,(e.a=Td q/\0<=o/\o<e.len)/\∃r s t,zd p (q.add (o.toNat*3)) 0 [iV r,iV s,iV t]/\let u:=p.push (.cells #[iV 0,iV 0,iV 0] 236);XRunU Tp (Ub 236 (.pointer (Td ⟨p.size,0,Te⟩)) (.agg #[iV r,iV s,iV t])) u (λv=>∃w,zc v (Ua ⟨p.size,0,Te⟩ 0)=Td (iV w)/\((w != 1)=Ta->∃x:Addr,Td ⟨d.size,0,Te⟩=Td x/\∃y,zc v (Ua x 1)=Td (aK y)/\∃z A B,zd v ⟨p.size,0,Te⟩ 0 [iV z,iV A,iV B]/\let C:=v.push (.cells #[iV z,iV A,iV B] 236);g7 C v (Ua x 1)/\XRun Tp (Ug #[227,227] 227 #[aK y,.slice (Td ⟨v.size,0,Te⟩) 1 1]) C (λD E=>∃F,D=aK F/\∃G:Addr,Td ⟨d.size,0,Te⟩=Td G/\XRunU Tp (Ub 227 (.pointer (Td (Ua G 1))) (aK F)) E (λI=>(m (hZ (o+1)) I/\n (hZ (o+1)) I<n o p))))/\((w != 1)=Tc->(m (hZ (o+1)) v/\n (hZ (o+1)) v<n o p))))/\(decide (o<e.len)=Tc->XC Tp 281 #[.pointer (Td ⟨d.size,0,Te⟩),iV 1,.agg #[iV 0,iV 0]] p (λJ L=>∃M,J=.bool M/\∀N:Bool->zb->Prop,(∀O:Bool,∀P:zb,(((!O)=Ta->∃Q:Addr,Td ⟨d.size,0,Te⟩=Td Q/\∃S,zc P (Ua Q 5)=Td (iV S)/\∃T:Addr,Td ⟨d.size,0,Te⟩=Td T/\∃U,zc P (Ua T 6)=Td (iV U)/\g7 P P (Ua T 6)/\g7 P P (Ua Q 5)/\XRunU Tp (Ub 162 (.pointer (Td ⟨h.size,0,Te⟩)) (.agg #[.string (⟨#[]⟩:Bt),.slice Te 0 0])) P (λV=>g7 V P (Ua T 6)/\g7 V P (Ua Q 5)/\g7 V P (Ua T 6)/\∃W X,zd V ⟨h.size,0,Te⟩ 0 [.string W,aK X]/\R (.tuple #[.agg #[.string W,aK X],iV S,iV U]) V))/\((!O)=Tc->∃Y:Addr,Td ⟨d.size,0,Te⟩=Td Y/\∃Z,zc P (Ua Y 4)=Td (aK Z)/\XRunU Tp (Ub 162 (.pointer (Td ⟨h.size,0,Te⟩)) (.agg #[.string s0,aK Z])) P (λaa=>∃ab ac,zd aa ⟨h.size,0,Te⟩ 0 [.string ab,aK ac]/\R (.tuple #[.agg #[.string ab,aK ac],iV (s0.size:Int),iV 0]) aa)))->N O P)->∃ad,(M=Ta->Td ⟨d.size,0,Te⟩=Td ad)/\∃ae,(M=Ta->zc L (Ua ad 1)=Td (aK ae))/\((bif M then(decide ((ae.len:Int)>0))else Tc)=Ta->XC Tp 282 #[.pointer (Td ⟨d.size,0,Te⟩),iV 2] L (λaf ag=>∃ah,af=.bool ah/\N ah ag))/\((bif M then(decide ((ae.len:Int)>0))else Tc)=Tc->N M L))))))):
  XC Tp 226 #[.string s0] h R:=
 XF ⟨[(9,8000),(15,8000)],[(6,[(28,.one (.int .i64))])],[(14,[(11,.one (.bool))])]⟩ [.cell 2 162,.tmp 3,.tmp 4] 79 Tryz.func226 H
theorem IB(s0:Bt)(h:zb)(R:Value->zb->Prop) (H:XC Tp 196 #[.string s0] h (λa b=>∃c d,a=.tuple #[iV c,.bool d]/\((!d)=Ta->R (.tuple #[.string (⟨#[]⟩:Bt),iV 2]) b)/\((!d)=Tc->let e:=b.push (.cells #[.pointer Te,.slice Te 0 0] 89);XC Tp 133 #[.pointer (Td ⟨b.size,0,Te⟩),.int .u8 34] e (λf g=>∃i:Value,f=i/\let j:=g.push (.stringIter s0 0);∃(k:zb->Prop) (l:zb->Nat),k j/\∀m:zb,k m->(XRun Tp (WS (.pointer (Td ⟨g.size,0,Te⟩)) Ta 0) m (λn o=>(n=.tuple #[.bool Tc]/\(Tc=Ta->False)/\(Tc=Tc->XC Tp 133 #[.pointer (Td ⟨b.size,0,Te⟩),.int .u8 34] o (λp q=>∃r:Value,p=r/\XC Tp 70 #[.pointer (Td ⟨b.size,0,Te⟩)] q (λs t=>∃u,s=.string u/\R (.tuple #[.string u,iV 0]) t))))\/∃v w:Int,n=.tuple #[.bool Ta,iV v,.int .i32 w]/\(Ta=Ta->XC Tp 197 #[.int .i32 w] o (λx y=>∃z,x=.int .u8 z/\((z != 0)=Ta->XC Tp 133 #[.pointer (Td ⟨b.size,0,Te⟩),.int .u8 92] y (λA B=>∃C:Value,A=C/\XC Tp 133 #[.pointer (Td ⟨b.size,0,Te⟩),.int .u8 z] B (λD E=>∃F:Value,D=F/\(k E/\l E<l m))))/\((z != 0)=Tc->(decide (w>=32)=Ta->XC Tp 198 #[.pointer (Td ⟨b.size,0,Te⟩),.int .i32 w] y (λG I=>∃J,∃L:Value,G=.tuple #[iV J,L]/\(k I/\l I<l m)))/\(decide (w>=32)=Tc->XC Tp 199 #[iV (hZ w),iV 16] y (λM N=>∃O,M=.string O/\XC Tp 200 #[.string (⟨#[48]⟩:Bt),iV (hZ (4-(O.size:Int)))] N (λP Q=>∃S,P=.string S/\zw (((⟨#[92,117]⟩:Bt)).size+S.size)/\zw (((⟨#[92,117]⟩:Bt)++S).size+O.size)/\XC Tp 68 #[.pointer (Td ⟨b.size,0,Te⟩),.string (((⟨#[92,117]⟩:Bt)++S)++O)] Q (λT U=>∃V,∃W:Value,T=.tuple #[iV V,W]/\(k U/\l U<l m))))))))/\(Ta=Tc->XC Tp 133 #[.pointer (Td ⟨b.size,0,Te⟩),.int .u8 34] o (λX Y=>∃Z:Value,X=Z/\XC Tp 70 #[.pointer (Td ⟨b.size,0,Te⟩)] Y (λaa ab=>∃ac,aa=.string ac/\R (.tuple #[.string ac,iV 0]) ab))))))))):
  XC Tp 125 #[.string s0] h R:=
 XF ⟨[],[(7,[])],[]⟩ [.tmp 2,.tmp 3] 48 Tryz.func125 H
theorem Ia(b:Bt)(c:Sl)(k1:Int)(be:Int)(h:zb)(R:Value->zb->Prop) (H:let d:=h.push (.cells #[.string b,aK c] 162);let e:=d.push (.cells tC 25);∃f,zc e (Ua ⟨h.size,0,Te⟩ 1)=Td (aK f)/\∃g,(f.a=Td g/\0<=k1/\k1<f.len)/\∃i j k l m n o,zd e (g.add (k1.toNat*7)) 0 [iV i,iV j,iV k,iV l,iV m,aK n,aK o]/\let p:=e.push (.cells #[iV 0,iV 0,iV 0,iV 0,iV 0,.slice Te 0 0,.slice Te 0 0] 241);XRunU Tp (Ub 241 (.pointer (Td ⟨e.size,0,Te⟩)) (.agg #[iV i,iV j,iV k,iV l,iV m,aK n,aK o])) p (λq=>∀r:Addr->zb->Prop,(∀s:Addr,∀t:zb,(∃u,zc t (Ua ⟨e.size,0,Te⟩ 5)=Td (aK u)/\∃(v:Int->zb->Prop) (w:Int->zb->Nat),v 0 t/\∀x:Int,∀y:zb,v x y->((decide (x<u.len)=Ta->∃z,zc y (Ua ⟨e.size,0,Te⟩ 5)=Td (aK z)/\∃A,(z.a=Td A/\0<=x/\x<z.len)/\∃B,zc y (A.add (x.toNat*1))=Td (iV B)/\∃C,((!(decide (B<0)))=Ta->zc y (Ua ⟨h.size,0,Te⟩ 1)=Td (aK C))/\((bif (bif (decide (B<0))then Ta else(decide (B>=C.len)))then Ta else(decide (be>32)))=Ta->∃D E F G,zd y s 0 (tL D E F G)/\XRunU Tp (Ub 25 (.pointer (Td ⟨d.size,0,Te⟩)) (tA D E F G)) y (λI=>∃J L M N,zd I ⟨d.size,0,Te⟩ 0 (tL J L M N)/\R (tA J L M N) I))/\((bif (bif (decide (B<0))then Ta else(decide (B>=C.len)))then Ta else(decide (be>32)))=Tc->∀O:zb->Prop,(∀P:zb,(∃Q,zc P (Ua s 3)=Td (aK Q)/\∃S T,zd P ⟨h.size,0,Te⟩ 0 [.string S,aK T]/\XC Tp 227 #[.agg #[.string S,aK T],iV B,iV (hZ (be+1))] P (λU V=>∃W X Y Z,U=tA W X Y Z/\g7 V P (Ua s 3)/\let aa:=V.push (.cells #[iV W,.string X,aK Y,aK Z] 25);g7 aa P (Ua s 3)/\XRun Tp (Ug #[23,23] 23 #[aK Q,.slice (Td ⟨V.size,0,Te⟩) 1 1]) aa (λab ac=>∃ae,ab=aK ae/\XRunU Tp (Ub 23 (.pointer (Td (Ua s 3))) (aK ae)) ac (λaf=>(v (hZ (x+1)) af/\w (hZ (x+1)) af<w x y)))))->O P)->∃ag,zc y (Ua ⟨e.size,0,Te⟩ 0)=Td (iV ag)/\((ag==6)=Ta->∃ah,zc y (Ua s 2)=Td (aK ah)/\∃ai aj,zd y ⟨h.size,0,Te⟩ 0 [.string ai,aK aj]/\XC Tp 285 #[.agg #[.string ai,aK aj],iV B] y (λak al=>∃am,ak=.string am/\g7 al y (Ua s 2)/\let an:=al.push (.cells #[.string am] 9);g7 an y (Ua s 2)/\XRun Tp (Ug #[22,22] 22 #[aK ah,.slice (Td ⟨al.size,0,Te⟩) 1 1]) an (λao ap=>∃aq,ao=aK aq/\XRunU Tp (Ub 22 (.pointer (Td (Ua s 2))) (aK aq)) ap (λar=>O ar))))/\((ag==6)=Tc->O y)))/\(decide (x<u.len)=Tc->∃au av aw ax,zd y s 0 (tL au av aw ax)/\XRunU Tp (Ub 25 (.pointer (Td ⟨d.size,0,Te⟩)) (tA au av aw ax)) y (λay=>∃az aA aB aC,zd ay ⟨d.size,0,Te⟩ 0 (tL az aA aB aC)/\R (tA az aA aB aC) ay))))->r s t)->∃aD,zc q (Ua ⟨e.size,0,Te⟩ 0)=Td (iV aD)/\∃aE,zc q (Ua ⟨e.size,0,Te⟩ 0)=Td (iV aE)/\∃aF aG,zd q ⟨h.size,0,Te⟩ 0 [.string aF,aK aG]/\∃aH aI,zd q (Ua ⟨e.size,0,Te⟩ 1) 0 [iV aH,iV aI]/\let aJ:Addr->Bt->zb->Prop:=λ(aL:Addr) aM (aN:zb)=>(XRunU Tp (Ub 25 (.pointer (Td aL)) (.agg #[iV aD,.string aM,.slice Te 0 0,.slice Te 0 0])) aN (λaO=>r aL aO));let aP:Addr->Bt->zb->Prop:=λ(aQ:Addr) aS (aT:zb)=>(aJ aQ aS aT);let aU:Addr->Bt->zb->Prop:=λ(aV:Addr) aW (aX:zb)=>(XC Tp 283 #[iV aE,.string aW] aX (λaY aZ=>∃a0,aY=.string a0/\g7 aZ q (Ua ⟨e.size,0,Te⟩ 0)/\aP aV a0 aZ));(XC Tp 284 #[.agg #[.string aF,aK aG],.agg #[iV aH,iV aI]] q (λa1 a2=>∃a3,a1=.string a3/\g7 a2 q (Ua ⟨e.size,0,Te⟩ 0)/\g7 a2 q (Ua ⟨e.size,0,Te⟩ 0)/\(XC Tp 283 #[iV aE,.string a3] a2 (λa4 a5=>∃a6,a4=.string a6/\g7 a5 q (Ua ⟨e.size,0,Te⟩ 0)/\(let a7:=a5.push (.cells tC 25);aJ ⟨a5.size,0,Te⟩ a6 a7)/\(let a8:=a5.push (.cells tC 25);g7 a8 q (Ua ⟨e.size,0,Te⟩ 0)/\aP ⟨a5.size,0,Te⟩ a6 a8)))/\(let a9:=a2.push (.cells tC 25);g7 a9 q (Ua ⟨e.size,0,Te⟩ 0)/\g7 a9 q (Ua ⟨e.size,0,Te⟩ 0)/\aU ⟨a2.size,0,Te⟩ a3 a9)))/\(let ba:=q.push (.cells tC 25);g7 ba q (Ua ⟨e.size,0,Te⟩ 1)/\g7 ba q ⟨h.size,0,Te⟩/\g7 ba q (Ua ⟨e.size,0,Te⟩ 0)/\g7 ba q (Ua ⟨e.size,0,Te⟩ 0)/\XC Tp 284 #[.agg #[.string aF,aK aG],.agg #[iV aH,iV aI]] ba (λbb bc=>∃bd,bb=.string bd/\g7 bc q (Ua ⟨e.size,0,Te⟩ 0)/\g7 bc q (Ua ⟨e.size,0,Te⟩ 0)/\aU ⟨q.size,0,Te⟩ bd bc)))):
  XC Tp 227 #[.agg #[.string b,.slice c.a c.len c.cap],.int .i64 k1,.int .i64 be] h R:=
 XF ⟨[(11,8000),(10,8000),(2,8000)],[(4,[(29,.one (.int .i64))])],[(3,[(8,.one (.ad))]),(11,[])]⟩ [.cell 6 25] 74 Tryz.func227 H
theorem Qk(p0:Option Addr)(aC:Int)(b:Int)(c:Int)(h:zb)(R:Value->zb->Prop) (H:let d:=h.push (.cells #[.pointer p0] 287);let e:=d.push (.cells #[iV b,iV c] 234);∃f:Option Addr,zc e ⟨h.size,0,Te⟩=Td (.pointer f)/\XC Tp 336 #[.pointer f] e (λg i=>∃j,g=iV j/\XC Tp 335 #[iV j] i (λk l=>∃m,k=iV m/\((m==0)=Ta->∃n:Option Addr,zc l ⟨h.size,0,Te⟩=Td (.pointer n)/\XC Tp 282 #[.pointer n,iV 2] l (λo p=>∃q,o=.bool q/\R (.bool q) p))/\((m==0)=Tc->(decide (aC>32)=Ta->∃r:Option Addr,zc l ⟨h.size,0,Te⟩=Td (.pointer r)/\XC Tp 282 #[.pointer r,iV 5] l (λs t=>∃u,s=.bool u/\R (.bool u) t))/\(decide (aC>32)=Tc->∃v:Option Addr,zc l ⟨h.size,0,Te⟩=Td (.pointer v)/\∃w,v=Td w/\∃x,zc l (Ua w 4)=Td (aK x)/\(((x.len:Int)==4096)=Ta->∃y:Option Addr,zc l ⟨h.size,0,Te⟩=Td (.pointer y)/\XC Tp 282 #[.pointer y,iV 6] l (λz A=>∃B,z=.bool B/\R (.bool B) A))/\(((x.len:Int)==4096)=Tc->∃C:Option Addr,zc l ⟨h.size,0,Te⟩=Td (.pointer C)/\∃D,C=Td D/\∃E,zc l (Ua D 4)=Td (aK E)/\∃F:Option Addr,zc l ⟨h.size,0,Te⟩=Td (.pointer F)/\∃G:Option Addr,zc l ⟨h.size,0,Te⟩=Td (.pointer G)/\∃I,G=Td I/\∃J,zc l (Ua I 4)=Td (aK J)/\∃L:Option Addr,zc l ⟨h.size,0,Te⟩=Td (.pointer L)/\∃M,L=Td M/\∃N,zc l (Ua M 1)=Td (aK N)/\∃O,(N.a=Td O/\0<=(0:Int)/\(0:Int)<(N.len:Int))/\∃P Q,zd l (Ua (O.add ((0:Int).toNat*3)) 1) 0 [iV P,iV Q]/\∃S T,zd l ⟨d.size,0,Te⟩ 0 [iV S,iV T]/\g7 l l (Ua I 4)/\g7 l l ⟨h.size,0,Te⟩/\g7 l l ⟨h.size,0,Te⟩/\let U:=l.push (.cells #[iV m,iV P,iV Q,iV S,iV T,.slice Te 0 0,.slice Te 0 0] 241);g7 U l (Ua I 4)/\g7 U l ⟨h.size,0,Te⟩/\g7 U l ⟨h.size,0,Te⟩/\XRun Tp (Ug #[160,160] 160 #[aK J,.slice (Td ⟨l.size,0,Te⟩) 1 1]) U (λV W=>∃X,V=aK X/\∃Y,F=Td Y/\g7 W l ⟨h.size,0,Te⟩/\XRunU Tp (Ub 160 (.pointer (Td (Ua Y 4))) (aK X)) W (λZ=>∃aa:Option Addr,zc Z ⟨h.size,0,Te⟩=Td (.pointer aa)/\XC Tp 337 #[.pointer aa] Z (λab ac=>ab=.tuple #[]/\∀ad:Bool->zb->Prop,(∀ae:Bool,∀af:zb,(∃ag:Option Addr,zc af ⟨h.size,0,Te⟩=Td (.pointer ag)/\∃ah,ag=Td ah/\∃ai,zc af (Ua ah 4)=Td (aK ai)/\∃aj:Option Addr,zc af ⟨h.size,0,Te⟩=Td (.pointer aj)/\∃ak,aj=Td ak/\∃al,zc af (Ua (Ua ak 2) 1)=Td (iV al)/\∃am,(ai.a=Td am/\0<=(E.len:Int)/\(E.len:Int)<(ai.len:Int))/\XRunU Tp (Ub 3 (.pointer (Td (Ua (Ua (am.add ((E.len:Int).toNat*7)) 1) 1))) (iV al)) af (λan=>R (.bool ae) an))->ad ae af)->((m==5)=Ta->∃ao:Option Addr,zc ac ⟨h.size,0,Te⟩=Td (.pointer ao)/\∃ap:Option Addr,zc ac ⟨h.size,0,Te⟩=Td (.pointer ap)/\XC Tp 338 #[.pointer ao,iV (E.len:Int),iV aC,iV 5,.func (.func 339) #[.pointer ap] #[]] ac (λaq ar=>∃au,aq=.bool au/\ad au ar))/\((m==5)=Tc->((m==6)=Ta->let av:=ac.push (.map #[] 0);let aw:=av.push (.cells #[.map Te] 213);XRunU Tp (Ub 213 (.pointer (Td ⟨av.size,0,Te⟩)) (.map (Td ac.size))) aw (λax=>∃ay:Option Addr,zc ax ⟨h.size,0,Te⟩=Td (.pointer ay)/\XC Tp 338 #[.pointer ay,iV (E.len:Int),iV aC,iV 3,.func (.func 340) #[] #[.pointer (Td ⟨h.size,0,Te⟩),.pointer (Td ⟨av.size,0,Te⟩)]] ax (λaz aA=>∃aB,az=.bool aB/\ad aB aA)))/\((m==6)=Tc->ad Ta ac))))))))))):
  XC Tp 281 #[.pointer p0,.int .i64 aC,.agg #[.int .i64 b,.int .i64 c]] h R:=
 XF ⟨[(9,8000),(18,8000)],[],[(18,[(9,.one (.bool))])]⟩ [.tmp 6] 90 Tryz.func281 H
theorem Rb(k:Option Addr)(i:Int)(h:zb)(R:Value->zb->Prop) (H:XC Tp 342 #[.pointer k] h (λa b=>∃c,a=iV c/\∃d,k=Td d/\XRunU Tp (Ub 3 (.pointer (Td (Ua d 5))) (iV c)) b (λe=>∃f,k=Td f/\XRunU Tp (Ub 32 (.pointer (Td (Ua f 6))) (iV i)) e (λg=>R (.bool Tc) g)))):
  XC Tp 282 #[.pointer k,.int .i64 i] h R:=
 XF ⟨[],[],[]⟩ [.tmp 4] 14 Tryz.func282 H
theorem Qs(b0:Option Addr)(p:Int)(h:zb)(R:Value->zb->Prop) (H:XC Tp 123 #[.pointer b0] h (λb c=>b=.tuple #[]/\∃d,b0=Td d/\∃e,zc c (Ua d 1)=Td (aK e)/\∃f,b0=Td f/\∃g,zc c (Ua f 1)=Td (aK g)/\XC Tp 248 #[aK g,.int .i32 p] c (λi j=>∃k,i=aK k/\∃l,b0=Td l/\XRunU Tp (Ub 87 (.pointer (Td (Ua l 1))) (aK k)) j (λm=>∃n,b0=Td n/\∃o,zc m (Ua n 1)=Td (aK o)/\R (.tuple #[iV (hZ ((o.len:Int)-(e.len:Int))),.nilIface]) m)))):
  XC Tp 198 #[.pointer b0,.int .i32 p] h R:=
 XF ⟨[],[],[]⟩ [.tmp 4,.tmp 5] 30 Tryz.func198 H
theorem MJ(b:Bt)(h:zb)(R:Value->zb->Prop) (H:let a:=h.push (.cells #[.string b] 9);R (.func (.func 374) #[] #[.pointer (Td ⟨h.size,0,Te⟩)]) a):
  XC Tp 334 #[.string b] h R:=
 XF ⟨[],[],[]⟩ [.tmp 2] 4 Tryz.func334 H
theorem Ob(i:Option Addr)(h:zb)(R:Value->zb->Prop) (H:∃b,i=Td b/\∃c,zc h (Ua b 1)=Td (aK c)/\(((c.len:Int)==0)=Ta->R (iV 0) h)/\(((c.len:Int)==0)=Tc->∃d,i=Td d/\∃e,zc h (Ua d 1)=Td (aK e)/\∃f,(e.a=Td f/\0<=(0:Int)/\(0:Int)<(e.len:Int))/\∃g,zc h (Ua (f.add ((0:Int).toNat*3)) 0)=Td (iV g)/\R (iV g) h)):
  XC Tp 336 #[.pointer i] h R:=
 XF ⟨[],[],[]⟩ [.tmp 2] 16 Tryz.func336 H
theorem MK(n:Option Addr)(h:zb)(R:Value->zb->Prop) (H:∃b,n=Td b/\∃c,zc h (Ua b 1)=Td (aK c)/\∃d,(c.a=Td d/\0<=(0:Int)/\(0:Int)<(c.len:Int))/\∃e f,zd h (Ua (d.add ((0:Int).toNat*3)) 1) 0 [iV e,iV f]/\∃g,n=Td g/\∃i,zc h (Ua g 1)=Td (aK i)/\((Te:Option Value)=Te\/∃v,(Te:Option Value)=Td v)/\(0<=(1:Int)/\(1:Int)<=(i.len:Int)/\(i.len:Int)<=(i.cap:Int)/\(i.cap:Int)<=(i.cap:Int))/\∃j,n=Td j/\XRunU Tp (Ub 234 (.pointer (Td (Ua j 2))) (.agg #[iV e,iV f])) h (λk=>∃l,n=Td l/\XRunU Tp (Ub 227 (.pointer (Td (Ua l 1))) (.slice (de i.a 3 ((1:Int).toNat) ((i.cap:Int).toNat)) ((i.len:Int).toNat-(1:Int).toNat) ((i.cap:Int).toNat-(1:Int).toNat))) k (λm=>R (.tuple #[]) m))):
  XC Tp 337 #[.pointer n] h R:=
 XF ⟨[(0,8000)],[],[]⟩ [] 20 Tryz.func337 H
theorem MF(p0:Option Addr)(n1:Int)(aa:Int)(Y:Int)(Z:FuncId)(ae:Array Value)(ab:Array Value)(h:zb)(R:Value->zb->Prop) (H:XC Tp 376 #[.pointer p0,iV Y] h (λb c=>∃d,b=.bool d/\(d=Ta->R (.bool Ta) c)/\(d=Tc->∃(e:zb->Prop) (f:zb->Nat),e c/\∀g:zb,e g->(∃i,p0=Td i/\∃j,zc g (Ua (Ua i 2) 1)=Td (iV j)/\∃k,p0=Td k/\∃l,zc g (Ua k 4)=Td (aK l)/\zo Tp Z=Ta/\XC Tp Z (ae++#[iV (hZ (aa+1))]++ab) g (λm n=>∃o,m=.bool o/\((!o)=Ta->R (.bool Tc) n)/\((!o)=Tc->∃p,p0=Td p/\∃q,zc n (Ua p 4)=Td (aK q)/\∃r,(q.a=Td r/\0<=n1/\n1<q.len)/\∃s,Td (r.add (n1.toNat*7))=Td s/\∃t,zc n (Ua s 5)=Td (aK t)/\let u:=n.push (.cells #[iV (l.len:Int)] 3);XRun Tp (Ug #[29,29] 29 #[aK t,.slice (Td ⟨n.size,0,Te⟩) 1 1]) u (λv w=>∃x,v=aK x/\∃y,Td (r.add (n1.toNat*7))=Td y/\XRunU Tp (Ub 29 (.pointer (Td (Ua y 5))) (aK x)) w (λz=>∃A,Td (r.add (n1.toNat*7))=Td A/\∃B,zc z (Ua A 6)=Td (aK B)/\XC Tp 342 #[.pointer p0] z (λC D=>∃E,C=iV E/\g7 D z (Ua A 6)/\g7 D z (Ua A 6)/\let F:=D.push (.cells #[iV j,iV E] 234);g7 F z (Ua A 6)/\XRun Tp (Ug #[239,239] 239 #[aK B,.slice (Td ⟨D.size,0,Te⟩) 1 1]) F (λG I=>∃J,G=aK J/\∃L,Td (r.add (n1.toNat*7))=Td L/\XRunU Tp (Ub 239 (.pointer (Td (Ua L 6))) (aK J)) I (λM=>XC Tp 376 #[.pointer p0,iV Y] M (λN O=>∃P,N=.bool P/\(P=Ta->R (.bool Ta) O)/\(P=Tc->XC Tp 376 #[.pointer p0,iV 6] O (λQ S=>∃T,Q=.bool T/\((!T)=Ta->XC Tp 282 #[.pointer p0,iV 2] S (λU V=>∃W,U=.bool W/\R (.bool W) V))/\((!T)=Tc->(e S/\f S<f g)))))))))))))))):
  XC Tp 338 #[.pointer p0,.int .i64 n1,.int .i64 aa,.int .i64 Y,.func (.func Z) ae ab] h R:=
 XF ⟨[(8,8000)],[(3,[])],[]⟩ [.tmp 10] 71 Tryz.func338 H
theorem Rp(f:Option Addr)(e:Int)(h:zb)(R:Value->zb->Prop) (H:XC Tp 281 #[.pointer f,iV e,.agg #[iV 0,iV 0]] h (λa b=>∃c,a=.bool c/\R (.bool c) b)):
  XC Tp 339 #[.pointer f,.int .i64 e] h R:=
 XF ⟨[],[],[]⟩ [.tmp 4] 9 Tryz.func339 H
theorem Xu(f:Int)(c1:Addr)(c2:Addr)(h:zb)(R:Value->zb->Prop) (H:∃a:Option Addr,zc h c1=Td (.pointer a)/\∃b:Option Nat,zc h c2=Td (.map b)/\XC Tp 341 #[.pointer a,iV f,.map b] h (λc d=>∃e,c=.bool e/\R (.bool e) d)):
  XC Tp 340 #[.int .i64 f,.pointer (Td c1),.pointer (Td c2)] h R:=
 XF ⟨[],[],[]⟩ [.tmp 4] 9 Tryz.func340 H
theorem OY(Y:Option Addr)(U:Int)(V:Option Nat)(h:zb)(R:Value->zb->Prop) (H:XC Tp 336 #[.pointer Y] h (λb c=>∃d,b=iV d/\((d != 8)=Ta->XC Tp 282 #[.pointer Y,iV 2] c (λe f=>∃g,e=.bool g/\R (.bool g) f))/\((d != 8)=Tc->∃i,Y=Td i/\∃j,zc c (Ua i 1)=Td (aK j)/\∃k,(j.a=Td k/\0<=(0:Int)/\(0:Int)<(j.len:Int))/\∃l m,zd c (Ua (k.add ((0:Int).toNat*3)) 1) 0 [iV l,iV m]/\let n:=c.push (.cells #[iV 0,iV 0] 234);XRunU Tp (Ub 234 (.pointer (Td ⟨c.size,0,Te⟩)) (.agg #[iV l,iV m])) n (λo=>∃p,Y=Td p/\∃q,zc o (Ua p 0)=Td (.string q)/\∃r,zc o (Ua ⟨c.size,0,Te⟩ 0)=Td (iV r)/\∃s,zc o (Ua ⟨c.size,0,Te⟩ 1)=Td (iV s)/\(0<=r/\r<=s/\s<=q.size)/\XC Tp 343 #[.string (q.extract r.toNat s.toNat)] o (λt u=>∃v w x,t=.tuple #[.string v,iV w,iV x]/\∃y,QExec Tp (XG 213 (.map V) (.string v) Tc) u (.bool y)/\(y=Ta->XC Tp 282 #[.pointer Y,iV 7] u (λz A=>∃B,z=.bool B/\R (.bool B) A))/\(y=Tc->XRunU Tp (VC 213 (.map V) (.string v) (.bool Ta)) u (λC=>XC Tp 337 #[.pointer Y] C (λD E=>D=.tuple #[]/\XC Tp 376 #[.pointer Y,iV 7] E (λF G=>∃I,F=.bool I/\((!I)=Ta->XC Tp 282 #[.pointer Y,iV 2] G (λJ L=>∃M,J=.bool M/\R (.bool M) L))/\((!I)=Tc->∃N O,zd G ⟨c.size,0,Te⟩ 0 [iV N,iV O]/\XC Tp 281 #[.pointer Y,iV U,.agg #[iV N,iV O]] G (λP Q=>∃S,P=.bool S/\R (.bool S) Q))))))))))):
  XC Tp 341 #[.pointer Y,.int .i64 U,.map V] h R:=
 XF ⟨[(4,8000)],[],[]⟩ [.tmp 6] 55 Tryz.func341 H
theorem JL(k:Option Addr)(h:zb)(R:Value->zb->Prop) (H:∃b,k=Td b/\∃c,zc h (Ua b 1)=Td (aK c)/\(((c.len:Int)==0)=Ta->∃d,k=Td d/\∃e,zc h (Ua d 0)=Td (.string e)/\R (iV (e.size:Int)) h)/\(((c.len:Int)==0)=Tc->∃f,k=Td f/\∃g,zc h (Ua f 1)=Td (aK g)/\∃i,(g.a=Td i/\0<=(0:Int)/\(0:Int)<(g.len:Int))/\∃j,zc h (Ua (Ua (i.add ((0:Int).toNat*3)) 1) 0)=Td (iV j)/\R (iV j) h)):
  XC Tp 342 #[.pointer k] h R:=
 XF ⟨[],[],[]⟩ [.tmp 2] 22 Tryz.func342 H
theorem IH(s0:Bt)(bz:Int)(h:zb)(R:Value->zb->Prop) (H:let a:=h.push (.cells #[iV bz] 3);let b:=a.push (.cells #[iV 0,iV 0,iV 0] 236);∃c,zc b ⟨h.size,0,Te⟩=Td (iV c)/\(0<=c/\c<=s0.size/\(s0.size:Int)<=(s0.size:Int))/\(0<=(0:Int)/\(0:Int)<((s0.extract c.toNat (s0.size:Int).toNat).size:Int))/\XC Tp 319 #[.string (⟨#[123,125,91,93,44,58]⟩:Bt),.int .u8 (ze (s0.extract c.toNat (s0.size:Int).toNat) (0:Int).toNat)] b (λd e=>∃f,d=iV f/\(decide (f>=0)=Ta->∃g,zc e ⟨h.size,0,Te⟩=Td (iV g)/\zo Tp 396=Ta/\XC Tp 396 #[iV (hZ (2+f)),iV (hZ (g+1)),.pointer (Td ⟨h.size,0,Te⟩)] e (λi j=>∃k l m n,i=.tuple #[.agg #[iV k,iV l,iV m],iV n]/\XRunU Tp (Ub 236 (.pointer (Td ⟨a.size,0,Te⟩)) (.agg #[iV k,iV l,iV m])) j (λo=>∃p q r,zd o ⟨a.size,0,Te⟩ 0 [iV p,iV q,iV r]/\R (.tuple #[.agg #[iV p,iV q,iV r],iV n]) o)))/\(decide (f>=0)=Tc->XC Tp 319 #[.string (⟨#[32,9,10,13]⟩:Bt),.int .u8 (ze (s0.extract c.toNat (s0.size:Int).toNat) (0:Int).toNat)] e (λs t=>∃u,s=iV u/\(decide (u>=0)=Ta->∃v,zc t ⟨h.size,0,Te⟩=Td (iV v)/\XC Tp 399 #[.string (⟨#[32,9,10,13]⟩:Bt)] t (λw x=>∃y:Value,w=y/\g7 x t ⟨h.size,0,Te⟩/\XC Tp 398 #[.string (s0.extract c.toNat (s0.size:Int).toNat),y] x (λz A=>∃B,z=iV B/\g7 A t ⟨h.size,0,Te⟩/\zo Tp 396=Ta/\XC Tp 396 #[iV 1,iV (hZ (v+B)),.pointer (Td ⟨h.size,0,Te⟩)] A (λC D=>∃E F G I,C=.tuple #[.agg #[iV E,iV F,iV G],iV I]/\XRunU Tp (Ub 236 (.pointer (Td ⟨a.size,0,Te⟩)) (.agg #[iV E,iV F,iV G])) D (λJ=>∃L M N,zd J ⟨a.size,0,Te⟩ 0 [iV L,iV M,iV N]/\R (.tuple #[.agg #[iV L,iV M,iV N],iV I]) J)))))/\(decide (u>=0)=Tc->(((ze (s0.extract c.toNat (s0.size:Int).toNat) (0:Int).toNat:Int)==34)=Ta->∃O,zc t ⟨h.size,0,Te⟩=Td (iV O)/\XC Tp 400 #[.string s0,iV O] t (λP Q=>∃S T,P=.tuple #[iV S,iV T]/\((T != 0)=Ta->zo Tp 397=Ta/\XC Tp 397 #[iV S,iV T] Q (λU V=>∃W X Y Z,U=.tuple #[.agg #[iV W,iV X,iV Y],iV Z]/\XRunU Tp (Ub 236 (.pointer (Td ⟨a.size,0,Te⟩)) (.agg #[iV W,iV X,iV Y])) V (λaa=>∃ab ac ad,zd aa ⟨a.size,0,Te⟩ 0 [iV ab,iV ac,iV ad]/\R (.tuple #[.agg #[iV ab,iV ac,iV ad],iV Z]) aa)))/\((T != 0)=Tc->zo Tp 396=Ta/\XC Tp 396 #[iV 8,iV S,.pointer (Td ⟨h.size,0,Te⟩)] Q (λae af=>∃ag ah ai aj,ae=.tuple #[.agg #[iV ag,iV ah,iV ai],iV aj]/\XRunU Tp (Ub 236 (.pointer (Td ⟨a.size,0,Te⟩)) (.agg #[iV ag,iV ah,iV ai])) af (λak=>∃al am an,zd ak ⟨a.size,0,Te⟩ 0 [iV al,iV am,iV an]/\R (.tuple #[.agg #[iV al,iV am,iV an],iV aj]) ak)))))/\(((ze (s0.extract c.toNat (s0.size:Int).toNat) (0:Int).toNat:Int)==34)=Tc->((bif ((ze (s0.extract c.toNat (s0.size:Int).toNat) (0:Int).toNat:Int)==45)then Ta else(bif (decide ((ze (s0.extract c.toNat (s0.size:Int).toNat) (0:Int).toNat:Int)>=48))then(decide ((ze (s0.extract c.toNat (s0.size:Int).toNat) (0:Int).toNat:Int)<=57))else Tc))=Ta->∃ao,zc t ⟨h.size,0,Te⟩=Td (iV ao)/\XC Tp 399 #[.string (⟨#[45,43,46,48,49,50,51,52,53,54,55,56,57,101,69]⟩:Bt)] t (λap aq=>∃ar:Value,ap=ar/\g7 aq t ⟨h.size,0,Te⟩/\XC Tp 398 #[.string (s0.extract c.toNat (s0.size:Int).toNat),ar] aq (λau av=>∃aw,au=iV aw/\g7 av t ⟨h.size,0,Te⟩/\∃ax,zc av ⟨h.size,0,Te⟩=Td (iV ax)/\(0<=ax/\ax<=(hZ (ao+aw))/\(hZ (ao+aw))<=(s0.size:Int))/\XC Tp 160 #[.string (s0.extract ax.toNat (hZ (ao+aw)).toNat)] av (λay az=>∃aA aB aC aD,ay=.tuple #[.agg #[.bool aA,.string aB,iV aC],iV aD]/\let aE:=az.push (.cells #[.bool Tc,.string (⟨#[]⟩:Bt),iV 0] 110);XRunU Tp (Ub 110 (.pointer (Td ⟨az.size,0,Te⟩)) (.agg #[.bool aA,.string aB,iV aC])) aE (λaF=>((aD != 0)=Ta->∃aG,zc aF ⟨h.size,0,Te⟩=Td (iV aG)/\zo Tp 397=Ta/\XC Tp 397 #[iV aG,iV aD] aF (λaH aI=>∃aJ aL aM aN,aH=.tuple #[.agg #[iV aJ,iV aL,iV aM],iV aN]/\XRunU Tp (Ub 236 (.pointer (Td ⟨a.size,0,Te⟩)) (.agg #[iV aJ,iV aL,iV aM])) aI (λaO=>∃aP aQ aS,zd aO ⟨a.size,0,Te⟩ 0 [iV aP,iV aQ,iV aS]/\R (.tuple #[.agg #[iV aP,iV aQ,iV aS],iV aN]) aO)))/\((aD != 0)=Tc->zo Tp 396=Ta/\XC Tp 396 #[iV 9,iV (hZ (ao+aw)),.pointer (Td ⟨h.size,0,Te⟩)] aF (λaT aU=>∃aV aW aX aY,aT=.tuple #[.agg #[iV aV,iV aW,iV aX],iV aY]/\XRunU Tp (Ub 236 (.pointer (Td ⟨a.size,0,Te⟩)) (.agg #[iV aV,iV aW,iV aX])) aU (λaZ=>∃a0 a1 a2,zd aZ ⟨a.size,0,Te⟩ 0 [iV a0,iV a1,iV a2]/\R (.tuple #[.agg #[iV a0,iV a1,iV a2],iV aY]) aZ))))))))/\((bif ((ze (s0.extract c.toNat (s0.size:Int).toNat) (0:Int).toNat:Int)==45)then Ta else(bif (decide ((ze (s0.extract c.toNat (s0.size:Int).toNat) (0:Int).toNat:Int)>=48))then(decide ((ze (s0.extract c.toNat (s0.size:Int).toNat) (0:Int).toNat:Int)<=57))else Tc))=Tc->XC Tp 398 #[.string (s0.extract c.toNat (s0.size:Int).toNat),.func (.func 401) #[] #[]] t (λa3 a4=>∃a5,a3=iV a5/\(0<=(0:Int)/\(0:Int)<=a5/\a5<=((s0.extract c.toNat (s0.size:Int).toNat).size:Int))/\XC Tp 402 #[.string ((s0.extract c.toNat (s0.size:Int).toNat).extract (0:Int).toNat a5.toNat)] a4 (λa6 a7=>∃a8,a6=iV a8/\((a8 != 0)=Ta->∃a9,zc a7 ⟨h.size,0,Te⟩=Td (iV a9)/\zo Tp 396=Ta/\XC Tp 396 #[iV a8,iV (hZ (a9+a5)),.pointer (Td ⟨h.size,0,Te⟩)] a7 (λba bb=>∃bc bd be bf,ba=.tuple #[.agg #[iV bc,iV bd,iV be],iV bf]/\XRunU Tp (Ub 236 (.pointer (Td ⟨a.size,0,Te⟩)) (.agg #[iV bc,iV bd,iV be])) bb (λbg=>∃bh bi bj,zd bg ⟨a.size,0,Te⟩ 0 [iV bh,iV bi,iV bj]/\R (.tuple #[.agg #[iV bh,iV bi,iV bj],iV bf]) bg)))/\((a8 != 0)=Tc->∃bk,zc a7 ⟨h.size,0,Te⟩=Td (iV bk)/\zo Tp 397=Ta/\XC Tp 397 #[iV bk,iV 2] a7 (λbl bm=>∃bn bo bp bq,bl=.tuple #[.agg #[iV bn,iV bo,iV bp],iV bq]/\XRunU Tp (Ub 236 (.pointer (Td ⟨a.size,0,Te⟩)) (.agg #[iV bn,iV bo,iV bp])) bm (λbr=>∃bs bt bu,zd br ⟨a.size,0,Te⟩ 0 [iV bs,iV bt,iV bu]/\R (.tuple #[.agg #[iV bs,iV bt,iV bu],iV bq]) br)))))))))))):
  XC Tp 375 #[.string s0,.int .i64 bz] h R:=
 XF ⟨[(9,8000),(16,8000)],[],[]⟩ [.cell 4 236,.tmp 5] 130 Tryz.func375 H
theorem Mk(i:Option Addr)(f:Int)(h:zb)(R:Value->zb->Prop) (H:XC Tp 336 #[.pointer i] h (λa b=>∃c,a=iV c/\((c != f)=Ta->R (.bool Tc) b)/\((c != f)=Tc->XC Tp 337 #[.pointer i] b (λd e=>d=.tuple #[]/\R (.bool Ta) e)))):
  XC Tp 376 #[.pointer i,.int .i64 f] h R:=
 XF ⟨[],[],[]⟩ [.tmp 4] 11 Tryz.func376 H
theorem JQ(s:Bt)(r:Int)(h:zb)(R:Value->zb->Prop) (H:((!(decide (r>=s.size)))=Ta->(0<=r/\r<s.size))/\((bif (decide (r>=s.size))then Ta else((ze s r.toNat:Int) != 34))=Ta->R (.tuple #[.string (⟨#[]⟩:Bt),iV r,iV 2]) h)/\((bif (decide (r>=s.size))then Ta else((ze s r.toNat:Int) != 34))=Tc->let a:=h.push (.cells #[.pointer Te,.slice Te 0 0] 89);∃(b:Int->zb->Prop) (c:Int->zb->Nat),b (hZ (r+1)) a/\∀d:Int,∀e:zb,b d e->((decide (d<s.size)=Ta->(0<=d/\d<s.size)/\(((ze s d.toNat:Int)==34)=Ta->XC Tp 70 #[.pointer (Td ⟨h.size,0,Te⟩)] e (λf g=>∃i,f=.string i/\R (.tuple #[.string i,iV (hZ (d+1)),iV 0]) g))/\(((ze s d.toNat:Int)==34)=Tc->(0<=d/\d<=s.size/\(s.size:Int)<=(s.size:Int))/\XC Tp 403 #[.string (s.extract d.toNat (s.size:Int).toNat)] e (λj k=>∃l m,j=.tuple #[.int .i32 l,iV m]/\((m==0)=Ta->R (.tuple #[.string (⟨#[]⟩:Bt),iV d,iV 2]) k)/\((m==0)=Tc->XC Tp 198 #[.pointer (Td ⟨h.size,0,Te⟩),.int .i32 l] k (λn o=>∃p,∃q:Value,n=.tuple #[iV p,q]/\(b (hZ (d+m)) o/\c (hZ (d+m)) o<c d e))))))/\(decide (d<s.size)=Tc->R (.tuple #[.string (⟨#[]⟩:Bt),iV (s.size:Int),iV 2]) e)))):
  XC Tp 377 #[.string s,.int .i64 r] h R:=
 XF ⟨[],[(5,[(1,.one (.int .i64))])],[]⟩ [.tmp 4,.tmp 5,.tmp 6] 51 Tryz.func377 H
theorem TI(i:Int)(k:Int)(c2:Addr)(h:zb)(R:Value->zb->Prop) (H:let a:=h.push (.cells #[iV 0,iV 0,iV 0] 236);∃b,zc a c2=Td (iV b)/\XRunU Tp (Ub 236 (.pointer (Td ⟨h.size,0,Te⟩)) (.agg #[iV i,iV b,iV k])) a (λc=>∃d e f,zd c ⟨h.size,0,Te⟩ 0 [iV d,iV e,iV f]/\R (.tuple #[.agg #[iV d,iV e,iV f],iV 0]) c)):
  XC Tp 396 #[.int .i64 i,.int .i64 k,.pointer (Td c2)] h R:=
 XF ⟨[],[],[]⟩ [.cell 5 236,.tmp 6] 12 Tryz.func396 H
theorem Gj(m:Bt)(i:FuncId)(l:Array Value)(k:Array Value)(h:zb)(R:Value->zb->Prop) (H:∃(a:Int->zb->Prop) (b:Int->zb->Nat),a 0 h/\∀c:Int,∀d:zb,a c d->((decide (c<m.size)=Ta->(0<=c/\c<m.size)/\zo Tp i=Ta/\XC Tp i (l++#[.int .u8 (ze m c.toNat)]++k) d (λe f=>∃g,e=.bool g/\((!g)=Ta->R (iV c) f)/\((!g)=Tc->(a (hZ (c+1)) f/\b (hZ (c+1)) f<b c d))))/\(decide (c<m.size)=Tc->R (iV (m.size:Int)) d))):
  XC Tp 398 #[.string m,.func (.func i) l k] h R:=
 XF ⟨[],[(2,[(8,.one (.int .i64))])],[]⟩ [.tmp 4] 21 Tryz.func398 H
theorem Hv(b:Bt)(h:zb)(R:Value->zb->Prop) (H:let a:=h.push (.cells #[.string b] 9);R (.func (.func 406) #[] #[.pointer (Td ⟨h.size,0,Te⟩)]) a):
  XC Tp 399 #[.string b] h R:=
 XF ⟨[],[],[]⟩ [.tmp 2] 4 Tryz.func399 H
theorem Sn(c0:Int)(c1:Addr)(h:zb)(R:Value->zb->Prop) (H:∃a,zc h c1=Td (.string a)/\XC Tp 319 #[.string a,.int .u8 c0] h (λb c=>∃d,b=iV d/\R (.bool (decide (d>=0))) c)):
  XC Tp 406 #[.int .u8 c0,.pointer (Td c1)] h R:=
 XF ⟨[],[],[]⟩ [.tmp 3] 8 Tryz.func406 H
theorem Qf(s0:Bt)(aM:Int)(aL:Int)(h:zb)(R:Value->zb->Prop) (H:((s0.toList==(⟨#[]⟩:Bt).toList)=Ta->R (.tuple #[.int .u64 0,.iface 351 (iV 2)]) h)/\((s0.toList==(⟨#[]⟩:Bt).toList)=Tc->∀b:Bt->Int->zb->Prop,(∀c:Bt,∀d:Int,∀e:zb,(∀f:Int->zb->Prop,(∀g:Int,∀i:zb,(∀j:Int->zb->Prop,(∀k:Int,∀l:zb,(0<=(T9 .u64 g)/\XRun Tp (convert 9 87 (.string c)) l (λm n=>∃o,m=aK o/\∃(p:Bool->Int->Int->zb->Prop) (q:Bool->Int->Int->zb->Nat),p Tc 0 0 n/\∀r:Bool,∀s t:Int,∀u:zb,p r s t u->((decide (t<o.len)=Ta->∃v,(o.a=Td v/\0<=t/\t<o.len)/\∃w,zc u (v.add (t.toNat*1))=Td (.int .u8 w)/\∀x:Bool->Int->zb->Prop,(∀y:Bool,∀z:Int,∀A:zb,((decide (z>=(T9 .u8 d))=Ta->R (.tuple #[.int .u64 0,.iface 351 (iV 2)]) A)/\(decide (z>=(T9 .u8 d))=Tc->(decide (s>=k)=Ta->R (.tuple #[.int .u64 (T9 .u64 ((T9 .u64 (1*2 ^ (min (T9 .u64 g).toNat 64)))-1)),.iface 351 (iV 1)]) A)/\(decide (s>=k)=Tc->((bif (decide ((T9 .u64 ((T9 .u64 (s*(T9 .u64 d)))+(T9 .u64 z)):Int)<(T9 .u64 (s*(T9 .u64 d)))))then Ta else(decide ((T9 .u64 ((T9 .u64 (s*(T9 .u64 d)))+(T9 .u64 z)):Int)>(T9 .u64 ((T9 .u64 (1*2 ^ (min (T9 .u64 g).toNat 64)))-1)))))=Ta->R (.tuple #[.int .u64 (T9 .u64 ((T9 .u64 (1*2 ^ (min (T9 .u64 g).toNat 64)))-1)),.iface 351 (iV 1)]) A)/\((bif (decide ((T9 .u64 ((T9 .u64 (s*(T9 .u64 d)))+(T9 .u64 z)):Int)<(T9 .u64 (s*(T9 .u64 d)))))then Ta else(decide ((T9 .u64 ((T9 .u64 (s*(T9 .u64 d)))+(T9 .u64 z)):Int)>(T9 .u64 ((T9 .u64 (1*2 ^ (min (T9 .u64 g).toNat 64)))-1)))))=Tc->(p y (T9 .u64 ((T9 .u64 (s*(T9 .u64 d)))+(T9 .u64 z))) (hZ (t+1)) A/\q y (T9 .u64 ((T9 .u64 (s*(T9 .u64 d)))+(T9 .u64 z))) (hZ (t+1)) A<q r s t u)))))->x y z A)->((bif (w==95)then(aM==0)else Tc)=Ta->(p Ta s (hZ (t+1)) u/\q Ta s (hZ (t+1)) u<q r s t u))/\((bif (w==95)then(aM==0)else Tc)=Tc->((bif (decide ((48:Int)<=w))then(decide (w<=57))else Tc)=Ta->x r (T9 .u8 (w-48)) u)/\((bif (decide ((48:Int)<=w))then(decide (w<=57))else Tc)=Tc->XC Tp 387 #[.int .u8 w] u (λB C=>∃D,B=.int .u8 D/\∃E:Value->zb->Prop,(decide ((97:Int)<=D)=Ta->XC Tp 387 #[.int .u8 w] C (λF G=>∃I,F=.int .u8 I/\E (.int .u8 I) G))/\(decide ((97:Int)<=D)=Tc->∃J,E (.int .u8 J) C)/\(decide ((97:Int)<=D)=Ta->∀L M,E L M->∃N,L=.int .u8 N)/\∀O:Int,∀P,E (.int .u8 O) P->((bif (decide ((97:Int)<=D))then(decide (O<=122))else Tc)=Ta->XC Tp 387 #[.int .u8 w] P (λQ S=>∃T,Q=.int .u8 T/\x r (T9 .u8 ((T9 .u8 (T-97))+10)) S))/\((bif (decide ((97:Int)<=D))then(decide (O<=122))else Tc)=Tc->R (.tuple #[.int .u64 0,.iface 351 (iV 2)]) P)))))/\(decide (t<o.len)=Tc->∃U:Value->zb->Prop,(r=Ta->XC Tp 388 #[.string s0] u (λV W=>∃X,V=.bool X/\U (.bool X) W))/\(r=Tc->∃Y,U (.bool Y) u)/\(r=Ta->∀Z aa,U Z aa->∃ab,Z=.bool ab)/\∀ac:Bool,∀ad,U (.bool ac) ad->((bif r then(!ac)else Tc)=Ta->R (.tuple #[.int .u64 0,.iface 351 (iV 2)]) ad)/\((bif r then(!ac)else Tc)=Tc->R (.tuple #[.int .u64 s,.nilIface]) ad)))))->j k l)->((d==10)=Ta->j 1844674407370955162 i)/\((d==10)=Tc->((d==16)=Ta->j 1152921504606846976 i)/\((d==16)=Tc->IntKind.u64=IntKind.u64/\(T9 .u64 d)≠0/\j (T9 .u64 ((T9 .u64 ((18446744073709551615:Int).tdiv (T9 .u64 d)))+1)) i)))->f g i)->((aL==0)=Ta->f 64 e)/\((aL==0)=Tc->((bif (decide (aL<0))then Ta else(decide (aL>64)))=Ta->R (.tuple #[.int .u64 0,.iface 351 (iV 4)]) e)/\((bif (decide (aL<0))then Ta else(decide (aL>64)))=Tc->f aL e)))->b c d e)->((bif (decide ((2:Int)<=aM))then(decide (aM<=36))else Tc)=Ta->b s0 aM h)/\((bif (decide ((2:Int)<=aM))then(decide (aM<=36))else Tc)=Tc->((aM==0)=Ta->(0<=(0:Int)/\(0:Int)<(s0.size:Int))/\(((ze s0 (0:Int).toNat:Int)==48)=Ta->(decide ((s0.size:Int)>=3)=Ta->(0<=(1:Int)/\(1:Int)<(s0.size:Int)))/\∃ae:Value->zb->Prop,(decide ((s0.size:Int)>=3)=Ta->XC Tp 387 #[.int .u8 (ze s0 (1:Int).toNat)] h (λaf ag=>∃ah,af=.int .u8 ah/\ae (.int .u8 ah) ag))/\(decide ((s0.size:Int)>=3)=Tc->∃ai,ae (.int .u8 ai) h)/\(decide ((s0.size:Int)>=3)=Ta->∀aj ak,ae aj ak->∃al,aj=.int .u8 al)/\∀am:Int,∀an,ae (.int .u8 am) an->((bif (decide ((s0.size:Int)>=3))then(am==98)else Tc)=Ta->(0<=(2:Int)/\(2:Int)<=(s0.size:Int)/\(s0.size:Int)<=(s0.size:Int))/\b (s0.extract (2:Int).toNat (s0.size:Int).toNat) 2 an)/\((bif (decide ((s0.size:Int)>=3))then(am==98)else Tc)=Tc->(decide ((s0.size:Int)>=3)=Ta->(0<=(1:Int)/\(1:Int)<(s0.size:Int)))/\∃ao:Value->zb->Prop,(decide ((s0.size:Int)>=3)=Ta->XC Tp 387 #[.int .u8 (ze s0 (1:Int).toNat)] an (λap aq=>∃ar,ap=.int .u8 ar/\ao (.int .u8 ar) aq))/\(decide ((s0.size:Int)>=3)=Tc->∃au,ao (.int .u8 au) an)/\(decide ((s0.size:Int)>=3)=Ta->∀av aw,ao av aw->∃ax,av=.int .u8 ax)/\∀ay:Int,∀az,ao (.int .u8 ay) az->((bif (decide ((s0.size:Int)>=3))then(ay==111)else Tc)=Ta->(0<=(2:Int)/\(2:Int)<=(s0.size:Int)/\(s0.size:Int)<=(s0.size:Int))/\b (s0.extract (2:Int).toNat (s0.size:Int).toNat) 8 az)/\((bif (decide ((s0.size:Int)>=3))then(ay==111)else Tc)=Tc->(decide ((s0.size:Int)>=3)=Ta->(0<=(1:Int)/\(1:Int)<(s0.size:Int)))/\∃aA:Value->zb->Prop,(decide ((s0.size:Int)>=3)=Ta->XC Tp 387 #[.int .u8 (ze s0 (1:Int).toNat)] az (λaB aC=>∃aD,aB=.int .u8 aD/\aA (.int .u8 aD) aC))/\(decide ((s0.size:Int)>=3)=Tc->∃aE,aA (.int .u8 aE) az)/\(decide ((s0.size:Int)>=3)=Ta->∀aF aG,aA aF aG->∃aH,aF=.int .u8 aH)/\∀aI:Int,∀aJ,aA (.int .u8 aI) aJ->((bif (decide ((s0.size:Int)>=3))then(aI==120)else Tc)=Ta->(0<=(2:Int)/\(2:Int)<=(s0.size:Int)/\(s0.size:Int)<=(s0.size:Int))/\b (s0.extract (2:Int).toNat (s0.size:Int).toNat) 16 aJ)/\((bif (decide ((s0.size:Int)>=3))then(aI==120)else Tc)=Tc->(0<=(1:Int)/\(1:Int)<=(s0.size:Int)/\(s0.size:Int)<=(s0.size:Int))/\b (s0.extract (1:Int).toNat (s0.size:Int).toNat) 8 aJ))))/\(((ze s0 (0:Int).toNat:Int)==48)=Tc->b s0 10 h))/\((aM==0)=Tc->R (.tuple #[.int .u64 0,.iface 351 (iV 3)]) h)))):
  XC Tp 360 #[.string s0,.int .i64 aM,.int .i64 aL] h R:=
 XF ⟨[],[(36,[(12,.one (.bool)),(13,.one (.int .u64)),(101,.one (.int .i64))])],[(21,[(0,.one (.str)),(1,.one (.int .i64))]),(25,[(2,.one (.int .i64))]),(32,[(10,.one (.int .u64))]),(46,[(12,.one (.bool)),(16,.one (.int .u8))])]⟩ [.tmp 6,.tmp 7] 172 Tryz.func360 H
theorem Ti(l:Bt)(k:Int)(i:Int)(h:zb)(R:Value->zb->Prop) (H:XC Tp 360 #[.string l,iV k,iV i] h (λa b=>∃c,∃d:Value,a=.tuple #[.int .u64 c,d]/\hX d=Ta/\((!iC d)=Ta->XC Tp 314 #[.string (⟨#[80,97,114,115,101,85,105,110,116]⟩:Bt),.string l,iV k,iV i,d] b (λe f=>∃g:Value,e=g/\R (.tuple #[.int .u64 c,g]) f))/\((!iC d)=Tc->R (.tuple #[.int .u64 c,.nilIface]) b))):
  XC Tp 411 #[.string l,.int .i64 k,.int .i64 i] h R:=
 XF ⟨[],[],[]⟩ [.tmp 6,.tmp 7] 26 Tryz.func411 H
theorem Z9(aa:Sl)(u1:Int)(Y:Int)(Z:Bool)(b:Bool)(h:zb)(R:Value->zb->Prop) (H:∀c:zb->Prop,(∀d:zb,(let e:=d.push (.cells g8 350);∀f:Int->zb->Prop,(∀g:Int,∀i:zb,(∀j:Int->zb->Prop,(∀k:Int,∀l:zb,(∀m:Int->zb->Prop,(∀n:Int,∀o:zb,((b=Ta->(0<=n/\n<=(65:Int)/\(65:Int)<=(65:Int))/\XRun Tp (Ug #[87,87] 87 #[aK aa,.slice (de (Td ⟨d.size,0,Te⟩) 1 n.toNat 65) ((65:Int).toNat-n.toNat) (65-n.toNat)]) o (λp q=>∃r,p=aK r/\R (.tuple #[aK r,.string (⟨#[]⟩:Bt)]) q))/\(b=Tc->(0<=n/\n<=(65:Int)/\(65:Int)<=(65:Int))/\XRun Tp (convert 87 9 (.slice (de (Td ⟨d.size,0,Te⟩) 1 n.toNat 65) ((65:Int).toNat-n.toNat) (65-n.toNat))) o (λs t=>∃u,s=.string u/\R (.tuple #[.slice Te 0 0,.string u]) t)))->m n o)->(Z=Ta->∃v:Addr,(Td ⟨d.size,0,Te⟩=Td v/\0<=(hZ (k-1))/\(hZ (k-1))<((65:Nat):Int))/\XRunU Tp (Ub 5 (.pointer (Td (v.add ((hZ (k-1)).toNat*1)))) (.int .u8 45)) l (λw=>m (hZ (k-1)) w))/\(Z=Tc->m k l))->j k l)->XC Tp 354 #[iV Y] i (λx y=>∃z,x=.bool z/\(z=Ta->XC Tp 355 #[.int .u64 (T9 .u64 Y)] y (λA B=>∃C,A=iV C/\∃(D:Int->Int->zb->Prop) (E:Int->Int->zb->Nat),D g 65 B/\∀F G:Int,∀I:zb,D F G I->((decide (F>=(T9 .u64 Y))=Ta->(0<=(T9 .u64 (((Vs (U4 .u64) F) &&& (Vs (U4 .u64) (T9 .u64 ((T9 .u64 Y)-1)))).toNat:Int):Int)/\(T9 .u64 (((Vs (U4 .u64) F) &&& (Vs (U4 .u64) (T9 .u64 ((T9 .u64 Y)-1)))).toNat:Int):Int)<(((⟨#[48,49,50,51,52,53,54,55,56,57,97,98,99,100,101,102,103,104,105,106,107,108,109,110,111,112,113,114,115,116,117,118,119,120,121,122]⟩:Bt)).size:Int))/\∃J:Addr,(Td ⟨d.size,0,Te⟩=Td J/\0<=(hZ (G-1))/\(hZ (G-1))<((65:Nat):Int))/\XRunU Tp (Ub 5 (.pointer (Td (J.add ((hZ (G-1)).toNat*1)))) (.int .u8 (ze (⟨#[48,49,50,51,52,53,54,55,56,57,97,98,99,100,101,102,103,104,105,106,107,108,109,110,111,112,113,114,115,116,117,118,119,120,121,122]⟩:Bt) (T9 .u64 (((Vs (U4 .u64) F) &&& (Vs (U4 .u64) (T9 .u64 ((T9 .u64 Y)-1)))).toNat:Int):Int).toNat))) I (λL=>0<=(T9 .u64 C)/\(D (F.fdiv (2 ^ (min (T9 .u64 C).toNat 64))) (hZ (G-1)) L/\E (F.fdiv (2 ^ (min (T9 .u64 C).toNat 64))) (hZ (G-1)) L<E F G I)))/\(decide (F>=(T9 .u64 Y))=Tc->(0<=F/\F<(((⟨#[48,49,50,51,52,53,54,55,56,57,97,98,99,100,101,102,103,104,105,106,107,108,109,110,111,112,113,114,115,116,117,118,119,120,121,122]⟩:Bt)).size:Int))/\∃M:Addr,(Td ⟨d.size,0,Te⟩=Td M/\0<=(hZ (G-1))/\(hZ (G-1))<((65:Nat):Int))/\XRunU Tp (Ub 5 (.pointer (Td (M.add ((hZ (G-1)).toNat*1)))) (.int .u8 (ze (⟨#[48,49,50,51,52,53,54,55,56,57,97,98,99,100,101,102,103,104,105,106,107,108,109,110,111,112,113,114,115,116,117,118,119,120,121,122]⟩:Bt) F.toNat))) I (λN=>j (hZ (G-1)) N)))))/\(z=Tc->∃(O:Int->Int->zb->Prop) (P:Int->Int->zb->Nat),O g 65 y/\∀Q S:Int,∀T:zb,O Q S T->((decide (Q>=(T9 .u64 Y))=Ta->IntKind.u64=IntKind.u64/\(T9 .u64 Y)≠0/\(0<=(T9 .u64 (Q-(T9 .u64 ((T9 .u64 (Q.tdiv (T9 .u64 Y)))*(T9 .u64 Y)))):Int)/\(T9 .u64 (Q-(T9 .u64 ((T9 .u64 (Q.tdiv (T9 .u64 Y)))*(T9 .u64 Y)))):Int)<(((⟨#[48,49,50,51,52,53,54,55,56,57,97,98,99,100,101,102,103,104,105,106,107,108,109,110,111,112,113,114,115,116,117,118,119,120,121,122]⟩:Bt)).size:Int))/\∃U:Addr,(Td ⟨d.size,0,Te⟩=Td U/\0<=(hZ (S-1))/\(hZ (S-1))<((65:Nat):Int))/\XRunU Tp (Ub 5 (.pointer (Td (U.add ((hZ (S-1)).toNat*1)))) (.int .u8 (ze (⟨#[48,49,50,51,52,53,54,55,56,57,97,98,99,100,101,102,103,104,105,106,107,108,109,110,111,112,113,114,115,116,117,118,119,120,121,122]⟩:Bt) (T9 .u64 (Q-(T9 .u64 ((T9 .u64 (Q.tdiv (T9 .u64 Y)))*(T9 .u64 Y)))):Int).toNat))) T (λV=>(O (T9 .u64 (Q.tdiv (T9 .u64 Y))) (hZ (S-1)) V/\P (T9 .u64 (Q.tdiv (T9 .u64 Y))) (hZ (S-1)) V<P Q S T)))/\(decide (Q>=(T9 .u64 Y))=Tc->(0<=Q/\Q<(((⟨#[48,49,50,51,52,53,54,55,56,57,97,98,99,100,101,102,103,104,105,106,107,108,109,110,111,112,113,114,115,116,117,118,119,120,121,122]⟩:Bt)).size:Int))/\∃W:Addr,(Td ⟨d.size,0,Te⟩=Td W/\0<=(hZ (S-1))/\(hZ (S-1))<((65:Nat):Int))/\XRunU Tp (Ub 5 (.pointer (Td (W.add ((hZ (S-1)).toNat*1)))) (.int .u8 (ze (⟨#[48,49,50,51,52,53,54,55,56,57,97,98,99,100,101,102,103,104,105,106,107,108,109,110,111,112,113,114,115,116,117,118,119,120,121,122]⟩:Bt) Q.toNat))) T (λX=>j (hZ (S-1)) X))))))->f g i)->(Z=Ta->f (T9 .u64 (0-u1)) e)/\(Z=Tc->f u1 e))->c d)->((bif (bif (decide (Y<2))then Ta else(Y==10))then Ta else(decide (Y>36)))=Ta->False)/\((bif (bif (decide (Y<2))then Ta else(Y==10))then Ta else(decide (Y>36)))=Tc->c h)):
  XC Tp 303 #[.slice aa.a aa.len aa.cap,.int .u64 u1,.int .i64 Y,.bool Z,.bool b] h R:=
 XF ⟨[],[(11,[(1,.one (.int .u64)),(13,.one (.int .i64))]),(18,[(1,.one (.int .u64)),(13,.one (.int .i64))])],[(3,[]),(7,[(1,.one (.int .u64))]),(25,[(13,.one (.int .i64))]),(28,[(13,.one (.int .i64))])]⟩ [.tmp 10,.tmp 11] 102 Tryz.func303 H
theorem Qg(B:Int)(A:Int)(h:zb)(R:Value->zb->Prop) (H:((A==10)=Ta->((bif (decide ((0:Int)<=B))then(decide (B<100))else Tc)=Ta->XC Tp 300 #[iV B] h (λb c=>∃d,b=.string d/\R (.string d) c))/\((bif (decide ((0:Int)<=B))then(decide (B<100))else Tc)=Tc->let e:=h.push (.cells g81 309);∀f:Int->zb->Prop,(∀g:Int,∀i:zb,(XC Tp 301 #[.int .u64 g] i (λj k=>∃l,j=iV l/\(0<=(1:Int)/\(1:Int)<=(hZ (1+l))/\(hZ (1+l))<=(24:Int))/\XC Tp 302 #[.slice (de (Td ⟨h.size,0,Te⟩) 1 ((1:Int).toNat) 24) ((hZ (1+l)).toNat-(1:Int).toNat) (24-(1:Int).toNat),.int .u64 g] k (λm n=>m=.tuple #[]/\(decide (B<0)=Ta->∃o:Addr,(Td ⟨h.size,0,Te⟩=Td o/\0<=(0:Int)/\(0:Int)<((24:Nat):Int))/\XRunU Tp (Ub 5 (.pointer (Td (o.add ((0:Int).toNat*1)))) (.int .u8 45)) n (λp=>(0<=(0:Int)/\(0:Int)<=(hZ (1+l))/\(hZ (1+l))<=(24:Int))/\XRun Tp (convert 87 9 (.slice (de (Td ⟨h.size,0,Te⟩) 1 ((0:Int).toNat) 24) ((hZ (1+l)).toNat-(0:Int).toNat) (24-(0:Int).toNat))) p (λq r=>∃s,q=.string s/\R (.string s) r)))/\(decide (B<0)=Tc->(0<=(1:Int)/\(1:Int)<=(hZ (1+l))/\(hZ (1+l))<=(24:Int))/\XRun Tp (convert 87 9 (.slice (de (Td ⟨h.size,0,Te⟩) 1 ((1:Int).toNat) 24) ((hZ (1+l)).toNat-(1:Int).toNat) (24-(1:Int).toNat))) n (λt u=>∃v,t=.string v/\R (.string v) u)))))->f g i)->(decide (B<0)=Ta->f (T9 .u64 (0-(T9 .u64 B))) e)/\(decide (B<0)=Tc->f (T9 .u64 B) e)))/\((A==10)=Tc->XC Tp 303 #[.slice Te 0 0,.int .u64 (T9 .u64 B),iV A,.bool (decide (B<0)),.bool Tc] h (λw x=>∃y z,w=.tuple #[aK y,.string z]/\R (.string z) x))):
  XC Tp 249 #[.int .i64 B,.int .i64 A] h R:=
 XF ⟨[],[],[(8,[(6,.one (.int .u64))])]⟩ [.tmp 4] 54 Tryz.func249 H
end
section
variable {gl:Fr} {R:Bool -> Prop}
theorem Py{D:Bs}(k:Nat):zl (D.take k)<=zl D:=by
 conv=>rhs;rw[<-Vw k D,W8]
 have:1<=10 ^ (D.drop k).length:=Nat.one_le_pow _ _ (by decide)
 calc zl (D.take k)=zl (D.take k)*1:=by omega
  _<=zl (D.take k)*10 ^ (D.drop k).length:=Nat.mul_le_mul_left _ this
  _<=_:=by omega
set_option maxHeartbeats 1000000 in
theorem Ih{n:Nm}(H:n.2.1.length<=4611686018427387904){R:Int×Bool->Prop}(h:R (kw n)):PC Tp gl 225 [Arg.mk tN (ei n)] [.int .i64,.bool] R:=by
 apply Nt;refine AE H ?_;unfold kw at h;cases hr:qk n with
 |false=>rw[hr]at h;exact⟨λ_=>by simpa using h,λs=>by simp at s⟩
 |true=>
  obtain⟨O,G,F⟩:=Ya hr;rw[hr]at h;simp only[Vo]at h;simp only[zh,qc];rw[cK (by omega)];refine⟨λs=>?_,λs=>?_⟩;rw[za]at h;exact h;simp at s ⊢;omega
  ·have C:0<=n.2.2/\(n.2.1.length:Int)+n.2.2<=19:=by simp at s;omega
   rw[zA (by simp;omega)]at h;rw[<-yR]at h;have z:=Du hr;have y:((wz n).length:Int)=(n.2.1.length:Int)+n.2.2:=by rw[wz,Uf,VI];omega
   rw[<-y];have w:∀k (t:k<(wz n).length),k<n.2.1.length->n.2.1[k]?.getD 0=(wz n)[k]:=by intro k t l;rw[gJ l];simp only[wz];rw[Vt l]
   have p:∀k (t:k<(wz n).length),¬k<n.2.1.length->(wz n)[k]=48:=by intro k t l;simp only[wz];rw[VP (by omega),List.getElem_replicate]
   generalize wz n=D at *;refine⟨λv i=>∃k:Nat,i=k/\k<=D.length/\v=-(zl (D.take k):Int)/\zl (D.take k)<=9223372036854775808,λ_ i=>D.length-i.toNat,⟨0,rfl,by omega,by simp[zl],by simp[zl]⟩,?_⟩;rintro v i ⟨k,rfl,t,rfl,L⟩;refine⟨λx=>?_,λx=>?_⟩
   ·have b:k<D.length:=by simp at x;omega
    have N:=pT z b;have step:∀d:Int,d=(D[k].toNat:Int)-48->(True/\(10:Int)≠0 /\ ((decide ((-(zl (D.take k):Int))<(hZ ((hZ ((-9223372036854775808)+d)).tdiv 10))))=Ta->R (0,Tc)) /\
      ((decide ((-(zl (D.take k):Int))<(hZ ((hZ ((-9223372036854775808)+d)).tdiv 10))))=Tc -> ((∃u:Nat,(hZ ((k:Int)+1))=u/\u<=D.length/\(hZ ((hZ (10*(-(zl (D.take k):Int))))-d))=-(zl (D.take u):Int)/\zl (D.take u)<=9223372036854775808) /\ D.length-(hZ ((k:Int)+1)).toNat<D.length-((k:Int)).toNat))):=by
     intro d E;have M:0<=d/\d<=9:=by omega
     obtain⟨m,I⟩:∃m:Nat,(-9223372036854775808+d:Int)=-(m:Int):=⟨(9223372036854775808-d).toNat,by omega⟩;have J:(-(m:Int)).tdiv 10=-((m / 10:Nat):Int):=by rw[Int.neg_tdiv];rfl
     rw[wrap64 (n:=-9223372036854775808+d) (by omega) (by omega),I,J,wrap64 (n:=-((m / 10:Nat):Int)) (by omega) (by omega)];refine⟨trivial,by omega,λc=>?_,λc=>?_⟩;have e:-(zl (D.take k):Int) < -((m / 10:Nat):Int):=by simpa using c
     have B:9223372036854775808<zl (D.take (k+1)):=by rw[xm b];omega
     have:=Py (D:=D) (k+1);cases o:n.1 with
     |true=>rw[o]at h;simp only[if_true]at h;rw[za (by omega)]at h;exact h
     |false=>rw[o]at h;simp only[UR,if_false]at h;rw[za (by omega)]at h;exact h
     have e:¬-(zl (D.take k):Int) < -((m / 10:Nat):Int):=by simpa using c
     have r:zl (D.take (k+1))<=9223372036854775808:=by rw[xm b];omega
     have q:=r;rw[xm b]at q;rw[qn b (by omega),wrap64 (n:=10*_) (by omega) (by omega),wrap64 (n:=10*_-d) (by omega) (by omega)];refine⟨⟨k+1,rfl,by omega,?_,r⟩,by simp only[Ue];omega⟩;rw[xm b];omega
    intro K A;simp only[Ue];refine⟨λc=>⟨by simp at c;omega,A _ (step _ ?_)⟩,λc=>A _ (step _ ?_)⟩;have e:k<n.2.1.length:=by simp at c;omega
    rw[w k b e,tG (by omega) (by omega),cK (by omega)];have e:¬k<n.2.1.length:=by simp at c;omega
    rw[p k b e];rfl
   have b:k=D.length:=by simp at x;omega
   subst b;rw[Uz]at L ⊢;refine⟨λo=>?_,λo=>⟨λc=>?_,λc=>?_⟩⟩;have f:n.1=Ta:=o;rw[f]at h;simp only[if_true]at h;rw[zA (by omega)]at h;exact h;have f:n.1=Tc:=o;rw[f]at h;simp only[UR,if_false]at h;rw[za (by simp at c;omega)]at h;exact h;have f:n.1=Tc:=o;rw[f]at h;simp only[UR,if_false]at h;rw[zA (by simp at c;omega)]at h;rw[wrap64 (n:=0 - -(zl D:Int)) (by omega) (by simp at c;omega)];have:(0:Int) - -(zl D:Int)=zl D:=by omega
   rw[this];exact h
theorem NQ(c:GL gl){s:Bs}(b:s.length<=1152921504606846976)(h:R (pg s)):PC Tp gl 150 [Arg.mk .str (bl s)] [.bool] R:=by apply F4;refine t8 c b (Ko c (n:=(dO s).1) (xt s b) ?_);simp only[VG];exact h
theorem wn(v:Tr):Tr.mk v.kind v.text v.keys v.items=v:=by cases v;rfl
theorem Y6{l:List Tr}{k:Nat}(h:k<l.length):l[((k:Int)).toNat]?=Td l[k]:=by rw[Ue,Ul h]
theorem wK{gl:Fr}(v:Tr)(r:bR v<=1000000000000){R:Int->Prop}(h:R (bR v:Int)):PC Tp gl 43 [Arg.mk .tree v] [.int .i64] R:=by
 apply Nu;have f:=ww v.items;have e:=q9 v;refine⟨λn i=>∃k:Nat,i=k/\k<=v.items.length/\n=((1+xn (v.items.take k):Nat):Int),λ_ i=>v.items.length-i.toNat,⟨0,rfl,by omega,by simp[xn]⟩,?_⟩;rintro n i ⟨k,rfl,q,rfl⟩;refine⟨λc=>?_,λc=>?_⟩;have b:k<v.items.length:=by simp at c;omega
 refine⟨v.items[k],⟨by omega,Y6 b⟩,?_⟩;rw[wn];have m:v.items[k]∈v.items:=Up b;have l:=qi m;have o:xn (v.items.take (k+1))<=xn v.items:=by have:=W9 (v.items.take (k+1)) (v.items.drop (k+1));rw[Vw]at this;omega
 have p:=AL b;refine wK (v.items[k]) (by omega) ?_;rw[qn b (by omega),cK (by omega)];exact⟨⟨k+1,rfl,by omega,by omega⟩,by simp only[Ue];omega⟩;have b:k=v.items.length:=by simp at c;omega
 subst b;rw[Uz,<-e];exact h
termination_by bR v
theorem v8{gl:Fr}(v:Tr)(r:bR v<=1000000000000){R:Int->Prop}(h:R (bR v:Int)):PC Tp gl 102 [Arg.mk .tree v] [.int .i64] R:=by
 apply T6;have f:=ww v.items;have e:=q9 v;refine⟨λn i=>∃k:Nat,i=k/\k<=v.items.length/\n=((1+xn (v.items.take k):Nat):Int),λ_ i=>v.items.length-i.toNat,⟨0,rfl,by omega,by simp[xn]⟩,?_⟩;rintro n i ⟨k,rfl,q,rfl⟩;refine⟨λc=>?_,λc=>?_⟩;have b:k<v.items.length:=by simp at c;omega
 refine⟨v.items[k],⟨by omega,Y6 b⟩,?_⟩;rw[wn];have m:v.items[k]∈v.items:=Up b;have l:=qi m;have o:xn (v.items.take (k+1))<=xn v.items:=by have:=W9 (v.items.take (k+1)) (v.items.drop (k+1));rw[Vw]at this;omega
 have p:=AL b;refine v8 (v.items[k]) (by omega) ?_;rw[qn b (by omega),cK (by omega)];exact⟨⟨k+1,rfl,by omega,by omega⟩,by simp only[Ue];omega⟩;have b:k=v.items.length:=by simp at c;omega
 subst b;rw[Uz,<-e];exact h
termination_by bR v
theorem xR{gl:Fr}(v:Tr)(s:bR v<=1000000000000){R:Int->Prop}(h:R (c6 v:Int)):PC Tp gl 144 [Arg.mk .tree v] [.int .i64] R:=by
 apply RY;have e:=ww v.items;have q:=q9 v;have f:=pL v.items;have p:=gZ v;refine⟨λn i=>∃k:Nat,i=k/\k<=v.items.length/\n=((Wb (v.items.take k):Nat):Int),λ_ i=>v.items.length-i.toNat,⟨0,rfl,by omega,by simp[Wb]⟩,?_⟩;rintro n i ⟨k,rfl,r,rfl⟩;refine⟨λc=>?_,λc=>?_⟩;have b:k<v.items.length:=by simp at c;omega
 refine⟨v.items[k],⟨by omega,Y6 b⟩,?_⟩;rw[wn];have o:v.items[k]∈v.items:=Up b;have l:=qi o;have m:=Dj b;refine xR (v.items[k]) (by omega) ?_;rw[qn b (by omega)];refine⟨⟨k+1,rfl,by omega,?_⟩,by simp only[Ue];omega⟩;rw[m];split <;> omega;have b:k=v.items.length:=by simp at c;omega
 subst b;rw[Uz,cK (by omega)];have:((Wb v.items:Nat):Int)+1=(c6 v:Int):=by omega
 rw[this];exact h
termination_by bR v
theorem vx{gl:Fr}(v:Tr)(s:bR v<=1000000000000){R:Int->Prop}(h:R (c6 v:Int)):PC Tp gl 103 [Arg.mk .tree v] [.int .i64] R:=by
 apply TQ;have e:=ww v.items;have q:=q9 v;have f:=pL v.items;have p:=gZ v;refine⟨λn i=>∃k:Nat,i=k/\k<=v.items.length/\n=((Wb (v.items.take k):Nat):Int),λ_ i=>v.items.length-i.toNat,⟨0,rfl,by omega,by simp[Wb]⟩,?_⟩;rintro n i ⟨k,rfl,r,rfl⟩;refine⟨λc=>?_,λc=>?_⟩;have b:k<v.items.length:=by simp at c;omega
 refine⟨v.items[k],⟨by omega,Y6 b⟩,?_⟩;rw[wn];have o:v.items[k]∈v.items:=Up b;have l:=qi o;have m:=Dj b;refine vx (v.items[k]) (by omega) ?_;rw[qn b (by omega)];refine⟨⟨k+1,rfl,by omega,?_⟩,by simp only[Ue];omega⟩;rw[m];split <;> omega;have b:k=v.items.length:=by simp at c;omega
 subst b;rw[Uz,cK (by omega)];have:((Wb v.items:Nat):Int)+1=(c6 v:Int):=by omega
 rw[this];exact h
termination_by bR v
theorem Bq{v:Tr}(b:Sm v)(h:R (wm v)):PC Tp gl 86 [Arg.mk .tree v] [.bool] R:=by
 apply SE;rw[wn];refine wK v b.sz ⟨λr=>r=(c6 v:Int),λ_=>xR v b.sz rfl,λr c=>?_⟩;have e:(bif decide ((bR v:Int)<=4096)then decide (r<=32)else Tc)=wm v:=by
  unfold wm;cases hc:decide ((bR v:Int)<=4096)with
  |false=>(have:decide (bR v<=4096)=Tc:=by simp at hc ⊢;omega);rw[this];rfl
  |true=>
   have:decide (bR v<=4096)=Ta:=by simp at hc ⊢;omega
   rw[this,c hc,zG,Vo,Uy];simp;omega
 rw[e];exact h
end
section
theorem Nn(w:Sl)(x:Int)(h:zb)(R:Value->zb->Prop) (H:let b:=h.push (.map #[] 0);∃(c:Int->zb->Prop) (d:Int->zb->Nat),c 0 b/\∀e:Int,∀f:zb,c e f->((decide (e<w.len)=Ta->∃g,(w.a=Td g/\0<=e/\e<w.len)/\∃i,zc f (g.add (e.toNat*1))=Td (.string i)/\∃j,QExec Tp (XG 213 (.map (Td h.size)) (.string i) Tc) f (.bool j)/\∃k:Value->zb->Prop,((!j)=Ta->XC Tp 149 #[.string i] f (λl m=>∃n,l=.bool n/\k (.bool n) m))/\((!j)=Tc->∃o,k (.bool o) f)/\((!j)=Ta->∀p q,k p q->∃r,p=.bool r)/\∀s:Bool,∀t,k (.bool s) t->((bif j then Ta else(!s))=Ta->R (.bool Tc) t)/\((bif j then Ta else(!s))=Tc->XRunU Tp (VC 213 (.map (Td h.size)) (.string i) (.bool Ta)) t (λu=>(c (hZ (e+1)) u/\d (hZ (e+1)) u<d e f))))/\(decide (e<w.len)=Tc->R (.bool ((w.len:Int)==x)) f))):
  XC Tp 147 #[.slice w.a w.len w.cap,.int .i64 x] h R:=
 XF ⟨[],[(3,[(13,.one (.int .i64))])],[]⟩ [.tmp 4] 32 Tryz.func147 H
theorem j7(k:Sl)(f:FuncId)(e:Array Value)(i:Array Value)(h:zb)(R:Value->zb->Prop) (H:XC Tp 208 #[aK k,.func (.func f) e i] h (λb c=>∃d,b=iV d/\R (.bool (decide (d>=0))) c)):
  XC Tp 145 #[.slice k.a k.len k.cap,.func (.func f) e i] h R:=
 XF ⟨[],[],[]⟩ [.tmp 4] 9 Tryz.func145 H
theorem wo(p:Sl)(o:FuncId)(q:Array Value)(r:Array Value)(h:zb)(R:Value->zb->Prop) (H:∃(b:Int->zb->Prop) (c:Int->zb->Nat),b 0 h/\∀d:Int,∀e:zb,b d e->((decide (d<p.len)=Ta->∃f,(p.a=Td f/\0<=d/\d<p.len)/\∃g i j k,zd e (f.add (d.toNat*4)) 0 (tL g i j k)/\zo Tp o=Ta/\XC Tp o (q++#[tA g i j k]++r) e (λl m=>∃n,l=.bool n/\(n=Ta->R (iV d) m)/\(n=Tc->(b (hZ (d+1)) m/\c (hZ (d+1)) m<c d e))))/\(decide (d<p.len)=Tc->R (iV (-1)) e))):
  XC Tp 208 #[.slice p.a p.len p.cap,.func (.func o) q r] h R:=
 XF ⟨[],[(2,[(8,.one (.int .i64))])],[]⟩ [.tmp 4] 19 Tryz.func208 H
theorem Ii(b:Int)(c:Bt)(d:Sl)(e:Sl)(c1:Addr)(h:zb)(R:Value->zb->Prop) (H:let f:=h.push (.cells #[iV b,.string c,aK d,aK e] 25);∃g i j k,zd f ⟨h.size,0,Te⟩ 0 (tL g i j k)/\∃l:Value,zc f c1=Td l/\XC Tp 87 #[tA g i j k,l] f (λm n=>∃o,m=.bool o/\R (.bool (!o)) n)):
  XC Tp 146 #[.agg #[.int .i64 b,.string c,.slice d.a d.len d.cap,.slice e.a e.len e.cap],.pointer (Td c1)] h R:=
 XF ⟨[],[],[]⟩ [.tmp 3] 8 Tryz.func146 H
theorem JW(b:Int)(c:Bt)(d:Sl)(e:Sl)(E:FuncId)(D:Array Value)(F:Array Value)(h:zb)(R:Value->zb->Prop) (H:let f:=h.push (.cells #[iV b,.string c,aK d,aK e] 25);let g:=f.push (.cells #[.func (.func E) D F] 37);∃i:Value,zc g ⟨f.size,0,Te⟩=Td i/\∃j k l m,zd g ⟨h.size,0,Te⟩ 0 (tL j k l m)/\mz Tp i #[tA j k l m] (λn o=>XC Tp n o g (λp q=>∃r,p=.bool r/\∃s,(r=Ta->zc q (Ua ⟨h.size,0,Te⟩ 3)=Td (aK s))/\∃t:Value->zb->Prop,(r=Ta->XC Tp 145 #[aK s,.func (.func 146) #[] #[.pointer (Td ⟨f.size,0,Te⟩)]] q (λu v=>∃w,u=.bool w/\t (.bool w) v))/\(r=Tc->∃x,t (.bool x) q)/\(r=Ta->∀y z,t y z->∃A,y=.bool A)/\∀B:Bool,∀C,t (.bool B) C->R (.bool (bif r then(!B)else Tc)) C))):
  XC Tp 87 #[.agg #[.int .i64 b,.string c,.slice d.a d.len d.cap,.slice e.a e.len e.cap],.func (.func E) D F] h R:=
 XF ⟨[],[],[]⟩ [.tmp 4] 15 Tryz.func87 H
theorem Pi(b:Int)(c:Bt)(d:Sl)(e:Sl)(h:zb)(R:Value->zb->Prop) (H:let f:=h.push (.cells #[iV b,.string c,aK d,aK e] 25);∃g i j k,zd f ⟨h.size,0,Te⟩ 0 (tL g i j k)/\XC Tp 86 #[tA g i j k] f (λl m=>∃n,l=.bool n/\∃o p q r,(n=Ta->zd m ⟨h.size,0,Te⟩ 0 (tL o p q r))/\∃s:Value->zb->Prop,(n=Ta->XC Tp 87 #[tA o p q r,.func (.func 89) #[] #[]] m (λt u=>∃v,t=.bool v/\s (.bool v) u))/\(n=Tc->∃w,s (.bool w) m)/\(n=Ta->∀x y,s x y->∃z,x=.bool z)/\∀A:Bool,∀B,s (.bool A) B->R (.bool (bif n then A else Tc)) B)):
  XC Tp 83 #[.agg #[.int .i64 b,.string c,.slice d.a d.len d.cap,.slice e.a e.len e.cap]] h R:=
 XF ⟨[],[],[]⟩ [.tmp 2] 9 Tryz.func83 H
theorem wb(b0:Option Addr)(c1:Int)(h:zb)(R:Value->zb->Prop) (H:XC Tp 123 #[.pointer b0] h (λb c=>b=.tuple #[]/\∃d,b0=Td d/\∃e,zc c (Ua d 1)=Td (aK e)/\let f:=c.push (.cells #[.int .u8 c1] 5);XRun Tp (Ug #[87,87] 87 #[aK e,.slice (Td ⟨c.size,0,Te⟩) 1 1]) f (λg i=>∃j,g=aK j/\∃k,b0=Td k/\XRunU Tp (Ub 87 (.pointer (Td (Ua k 1))) (aK j)) i (λl=>R (.nilIface) l)))):
  XC Tp 133 #[.pointer b0,.int .u8 c1] h R:=
 XF ⟨[],[],[]⟩ [.tmp 4] 17 Tryz.func133 H
theorem jo(b0:Option Addr)(s1:Bt)(h:zb)(R:Value->zb->Prop) (H:XC Tp 123 #[.pointer b0] h (λb c=>b=.tuple #[]/\∃d,b0=Td d/\∃e,zc c (Ua d 1)=Td (aK e)/\XRun Tp (Ug #[87,9] 87 #[aK e,.string s1]) c (λf g=>∃i,f=aK i/\∃j,b0=Td j/\XRunU Tp (Ub 87 (.pointer (Td (Ua j 1))) (aK i)) g (λk=>R (.tuple #[iV (s1.size:Int),.nilIface]) k)))):
  XC Tp 68 #[.pointer b0,.string s1] h R:=
 XF ⟨[],[],[]⟩ [.tmp 4,.tmp 5] 19 Tryz.func68 H
end
section
variable {gl:Fr}
theorem xA:MapT Tp 213 9 4 (.bool Tc):=⟨by kernel_rfl,by kernel_rfl,⟨Tryz.t4,by kernel_rfl,by kernel_rfl⟩⟩
set_option maxHeartbeats 1000000 in
theorem LF(hg:GL gl){ks:List Bt}{n:Int}(hk:∀k∈ks,(lb k).length<=1048576){R:Bool->Prop}(h:R (qw ks&&decide ((ks.length:Int)=n))):PC Tp gl 147 [Arg.mk (.row .str) ks,Arg.mk p3 n] [.bool] R:=by
 intro p M vs hM ag ha
 match vs,ha with
 |[u,w],⟨h1,h2,_⟩=>
  obtain⟨s,rfl,hr⟩:=lH h1;have hw:=qz h2;subst hw;have hr:Rd M (.row .str) ks [aK s]:=hr;obtain⟨J,an,am⟩:=rowLen hr;apply PX.of;apply Nn s n;intro Z;have kg:Keep p.size p Z:=Keep.push _ _ (Uc _);have sg:Z.size=p.size+1:=Ur _;have mg:MapAt Z p.size []:=MapAt.new p;clear_value Z;refine⟨λi Y=>∃k:Nat,i=k/\k<=ks.length/\p.size<Y.size/\(∃Q,Later p M Y Q/\Q p.size=Te)/\(∃l,MapAt Y p.size l/\∀x,eX l x (.bool Tc)=.bool (decide (x∈ks.take k)))/\qw (ks.take k)=Ta,λi _=>ks.length-i.toNat,⟨0,rfl,by omega,by omega,⟨M,Later.same ag kg,ag.none (Uc _)⟩,⟨[],mg,λx=>rfl⟩,by simp[qw]⟩,?_⟩;rintro i Y ⟨k,rfl,ak,C,⟨Q,B,P⟩,⟨l,E,S⟩,D⟩;refine⟨λhc=>?_,λhc=>?_⟩;have q:k<ks.length:=by simp at hc;omega
  have ah:=Rd.mono B.le hr;refine fG B.ag ah q rfl rfl ?_;have N:=Wp xA E ks[k] Tc;rw[S]at N;refine⟨decide (ks[k]∈ks.take k),N,?_⟩;have f:=C8 hg.tabs (l:=lb ks[k]) (R:=λb=>b=xd (lb ks[k])) (by have:=hk _ (Up q);omega) rfl;rw[Zx]at f;generalize hd:decide (ks[k]∈ks.take k)=d;refine⟨λv H=>∃b,v=.bool b/\(d=Tc->b=xd (lb ks[k]))/\p.size<H.size/\(∃F,Later p M H F/\F p.size=Te)/\MapAt H p.size l,λhn=>?_,λhn=>⟨Ta,Ta,rfl,λe=>(by rw[e]at hn;cases hn),C,⟨Q,B,P⟩,E⟩,λ_ v H ⟨b,e,_⟩=>⟨b,e⟩,?_⟩;refine f.go (vs:=[.string ks[k]]) (hM.trans B.le) B.ag (zq (rdStr _) zy) λv H F r y O af=>⟨r,dt O,r,rfl,λ_=>af,by have:=y.keep.size;omega,⟨F,B.trans y,by rw[y.old _ C,P]⟩,E.keep (y.keep.get _ C)⟩;rintro b H ⟨b',e,I,aj,⟨F,y,L⟩,ai⟩;cases e;have U:ks.take (k+1)=ks.take k++[ks[k]]:=Uh q;have V:qw (ks.take (k+1))=(!d&&xd (lb ks[k])):=by
   have o:=D;unfold qw at o ⊢;rw[Ui,zB]at o;rw[U,WX,o.1,<-hd];have:decide (List.take k ks++[ks[k]]).Nodup=!decide (ks[k]∈ks.take k):=by rw[Uy];simp only[zB,WZ,decide_eq_false_iff_not,List.nodup_append];constructor;rintro⟨_,_,h3⟩ t;exact h3 _ t _ (by simp) rfl;intro t;exact⟨o.2,by simp,λa ha b I e=>t (by simp at I;rw[<-I,<-e];exact ha)⟩
   rw[this];simp[Bool.and_comm]
  refine⟨λz=>?_,λz=>?_⟩;refine⟨F,_,y,Yk.2 (rdBool _),?_⟩;have hf:qw (ks.take (k+1))=Tc:=by
   rw[V];cases d with
   |true=>rfl
   |false=>rw[I rfl]at z;simpa using z
  have ae:qw ks=Tc:=by
   cases hks:qw ks with
   |false=>rfl
   |true=>
    unfold qw at hks hf;rw[Ui,zB]at hks;have h1:((ks.take (k+1)).all λk=>xd (lb k))=Ta:=by rw[Us]at hks ⊢;exact λx z=>hks.1 x (List.mem_of_mem_take z)
    have h2:(ks.take (k+1)).Nodup:=hks.2.sublist (List.take_sublist _ _);rw[h1,zE h2]at hf;cases hf
  rw[ae]at h;exact h;have G:d=Tc:=by cases d with
   |true=>simp at z
   |false=>rfl
  have ab:xd (lb ks[k])=Ta:=by rw[<-I G];rw[G]at z;simpa using z
  refine yZ xA ai ks[k] (.bool Ta) λh6 m6 s6 o6=>?_;rw[qn q (by omega)];refine⟨⟨k+1,rfl,by omega,by omega,⟨F,⟨⟨by have:=y.keep.size;omega,λi hi=>by rw[o6 i (by omega)];exact y.keep.get i hi⟩,y.le,y.old,?_⟩,L⟩,⟨_,m6,λx=>?_⟩,by rw[V,G,ab];rfl⟩,by simp only[Ue];omega⟩;intro b c e;have aa:b≠p.size:=λe2=>by rw[e2,L]at e;cases e
  obtain⟨T,m,e'⟩:=y.ag b c e;exact⟨T,m,by rw[o6 b aa];exact e'⟩;unfold eX;rw[Dz,U];by_cases A:ks[k]=x;subst A;rw[zA rfl];simp only[Uv,Vb,or_true,decide_true,Option.getD_some];rw[za A];have:=S x;unfold eX at this;rw[this];congr 1;rw[Uy,zB,zB,Uv,Vb];exact⟨.inl,λe=>e.elim id λe=>absurd e.symm A⟩;have q:k=ks.length:=by simp at hc;omega
  subst q;rw[Uz]at D;refine⟨Q,_,B,Yk.2 (rdBool _),?_⟩;rw[D,Vo]at h;have:(((s.len:Nat):Int)==n)=decide ((ks.length:Int)=n):=by rw[J,Uy];simp
  rw[this];exact h
def HP(gl:Fr)(F:FuncId)(A C:Array Value)(h:zb)(M:Fr)(t:Ty)(x:El t)(b:Bool):Prop:=
 zo Tp F=Ta/\∀h' M' u,Later h M h' M'->RdV M' t x u->PX Tp F (A++#[u]++C) h' M' [.bool] (λr=>r=b)
theorem Gg{F:FuncId}{A C:Array Value}{h:zb}{M:Fr}(ag:AgM M h){xs:List Tr}{s:Sl}(z:Rd M (.row .tree) xs [aK s]){p:Tr->Bool}(t:∀x∈xs,HP gl F A C h M .tree x (p x)):
  PX Tp 145 #[aK s,.func (.func F) A C] h M [.bool] (λr=>r=xs.any p):=by
 apply PX.of;apply j7 s F A C;apply wo s F A C;obtain⟨y,I,D⟩:=rowLen z;refine⟨λi n=>∃k:Nat,i=k/\k<=xs.length/\(∃m,Later h M n m)/\(xs.take k).any p=Tc,λi _=>xs.length-i.toNat,⟨0,rfl,by omega,⟨M,Later.refl ag⟩,by simp⟩,?_⟩;rintro i n ⟨k,rfl,J,⟨m,e⟩,c⟩;refine⟨λq=>?_,λq=>?_⟩;have b:k<xs.length:=by simp at q;omega
 obtain⟨a,sk,si,E,B,G,H⟩:=Jt e.ag (Rd.mono e.le z) b;refine⟨a,⟨E,by omega,by omega⟩,xs[k].kind,xs[k].text,sk,si,by rw[Ue];exact B,(t _ (Up b)).1,?_⟩;refine((t _ (Up b)).2 n m _ e (zr G H)).go λv L u r w f l=>⟨r,dt f,λo=>?_,λo=>?_⟩;refine⟨(k:Int),rfl,u,_,e.trans w,Yk.2 (rdBool _),?_⟩;have:xs.any p=Ta:=List.any_eq_true.2 ⟨xs[k],Up b,by rw[<-l];exact o⟩;rw[this];simp;rw[qn b (by omega)];refine⟨⟨k+1,rfl,by omega,⟨u,e.trans w⟩,?_⟩,by simp only[Ue];omega⟩;rw[Uh b,List.any_append,c];simp only[List.any_cons,List.any_nil,<-l,o];rfl;have b:k=xs.length:=by simp at q;omega
 subst b;rw[Uz]at c;refine⟨-1,rfl,m,_,e,Yk.2 (rdBool _),?_⟩;rw[c];rfl
end
section
variable {l ks:List Bt} {k:Nat} {gl:Fr} {v:Tr} {R:Bool -> Prop} {F:FuncId}
theorem yt:decide (((l.length:Nat):Int)>0)=!l.isEmpty:=by cases l <;> simp
theorem xQ{l:List Tr}:decide (((l.length:Nat):Int)>0)=!l.isEmpty:=by cases l <;> simp
theorem QA(s:Bt):(s.toList==(⟨#[]⟩:Bt).toList)=(lb s==[]):=by have:=eB (lb s) [];rw[Zx]at this;grind
theorem qS(s:Bt)(l:Bs):(s.toList==(bl l).toList)=(lb s==l):=by have:=eB (lb s) l;rw[Zx]at this;grind
theorem pc{k n:Int}:(k==n)=decide (k=n):=by grind
set_option maxHeartbeats 1000000 in
theorem A0(i:GL gl)(B:Sm v)(h:R (zn v)):PC Tp gl 89 [Arg.mk .tree v] [.bool] R:=by
 apply PQ;have o:(lb v.text).length<=1152921504606846976:=by have:=B.text;omega
 have key:∀b,b=zn v->R b:=λb D=>by grind
 have C:=t8 i (s:=lb v.text) (R:=λr=>R r.2\/v.kind≠3) o;have f:=C8 i.tabs (l:=lb v.text) (R:=λr=>r=xd (lb v.text)) (by omega) rfl;have m:=NQ i (s:=lb v.text) (R:=λr=>r=pg (lb v.text)) o rfl;have n:=t8 i (s:=lb v.text) (R:=λr=>r.2=(dO (lb v.text)).2) o rfl;rw[Zx]at f m n;simp only[pc,yt,xQ,show(⟨#[116,114,117,101]⟩:Bt)=bl [116,114,117,101]from rfl,show(⟨#[102,97,108,115,101]⟩:Bt)=bl [102,97,108,115,101]from rfl,qS];unfold zn at key;refine⟨λx=>key _ ?_,λx=>⟨λt=>?_,λt=>⟨λA=>key _ ?_,λA=>?_⟩⟩⟩;grind;have c:v.kind=6:=by simpa using t
 refine LF i (λk q=>B.key q) (key _ ?_);simp only[c];grind;grind;have p:v.kind≠5:=by simpa using x
 have c:v.kind≠6:=by simpa using t
 have e:v.keys.isEmpty=Ta/\v.items.isEmpty=Ta:=by cases q:v.keys.isEmpty <;> cases hi:v.items.isEmpty <;> simp[q,hi]at A ⊢
 simp only[p,c,if_false,e.1,e.2,V4]at key;refine⟨λh1=>key _ ?_,λh1=>⟨λh2=>key _ ?_,λh2=>⟨λz=>?_,λz=>⟨λu=>?_,λu=>⟨λw=>?_,λw=>key _ ?_⟩⟩⟩⟩⟩;grind;grind;have:v.kind=3:=by simpa using z
 exact n.mono λr y=>key _ (by grind);have:v.kind=4:=by simpa using u
 exact f.mono λr y=>key _ (by grind);have:v.kind=7:=by simpa using w
 exact m.mono λr y=>key _ (by grind);simp_all
theorem iM(h:k<l.length):l[((k:Int)).toNat]?=Td l[k]:=by simp
theorem rZ(b:k<ks.length):qw (ks.take (k+1))=(qw (ks.take k)&&(xd (lb ks[k]) && !decide (ks[k]∈ks.take k))):=by unfold qw;rw[Uh b,WX];grind
theorem xM(k:Nat)(h:qw (ks.take k)=Tc):qw ks=Tc:=by
 cases hks:qw ks with
 |false=>rfl
 |true=>unfold qw at hks h;grind
set_option maxHeartbeats 1000000 in
theorem PP(hg:GL gl)(N:Sm v)(h:R (zn v)):PC Tp gl 163 [Arg.mk .tree v] [.bool] R:=by
 refine PC.bd λA=>?_;have ae:v.keys.length<=140737488355328:=(A ⟨.tree,v⟩ (by simp)).1;apply Rx;have G:(lb v.text).length<=1152921504606846976:=by have:=N.text;omega
 have key:∀b,b=zn v->R b:=λb V=>by grind
 have q:=AR (gl:=gl) (l:=lb v.text) (R:=λr=>r=xd (lb v.text)) (by omega) rfl;have p:=Ig (gl:=gl) (s:=lb v.text) (R:=λr=>r=(ei (dO (lb v.text)).1,(dO (lb v.text)).2)) G rfl;rw[Zx]at q p;simp only[pc,yt,xQ,show(⟨#[116,114,117,101]⟩:Bt)=bl [116,114,117,101]from rfl,show(⟨#[102,97,108,115,101]⟩:Bt)=bl [102,97,108,115,101]from rfl,qS];have x:∀n:Int,(v.kind != n)=!decide (v.kind=n):=λn=>by rw[bne,pc]
 simp only[x];refine⟨λM=>key _ ?_,λM=>?_⟩;unfold zn;grind;intro K hK;have f:(v.kind≠6->v.keys.isEmpty=Ta)/\(v.kind≠6->v.kind≠5->v.items.isEmpty=Ta):=by rcases Bool.eq_false_or_eq_true v.keys.isEmpty with D|D <;> rcases Bool.eq_false_or_eq_true v.items.isEmpty with hi|hi <;> simp[D,hi]at M ⊢ <;> grind
 unfold zn at key;have H:∀b,(b=Ta↔v.kind=1\/v.kind=5)->K b:=by
  intro b V;refine hK b ⟨λaa=>key _ ?_,λab=>?_⟩;grind;have Z:v.kind≠1/\v.kind≠5:=by constructor;grind;grind
  refine⟨λh2=>key _ ?_,λh2=>⟨λL=>?_,λL=>⟨λI=>?_,λI=>⟨λS=>?_,λS=>⟨λU=>?_,λU=>key _ ?_⟩⟩⟩⟩⟩;grind;have:v.kind=3:=by simpa using L
  have a:=f.1 (by omega);have c:=f.2 (by omega) (by omega);exact p.mono λr w=>key _ (by grind);have:v.kind=4:=by simpa using I
  have a:=f.1 (by omega);have c:=f.2 (by omega) (by omega);exact q.mono λr w=>key _ (by grind);have:v.kind=7:=by simpa using S
  have a:=f.1 (by omega);have c:=f.2 (by omega) (by omega);refine p.mono λr w=>?_;rw[w];refine Ih (n:=(dO (lb v.text)).1) (xt _ G) (key _ ?_);simp only[VG];rw[za (by omega),za (by omega),za (by omega),za (by omega),za (by omega),za (by omega),zA this,a,c,V4,V4];unfold pg;rfl;have F:v.kind=6:=by simpa using U
  simp only[F]at key;have o:∀b,b=(qw v.keys&&decide (v.keys.length=v.items.length)&&lb v.text==[])->R b:=key;refine⟨λi=>∃k:Nat,i=k/\k<=v.keys.length/\qw (v.keys.take k)=Ta,λi=>v.keys.length-i.toNat,⟨0,rfl,by omega,by simp[qw]⟩,?_⟩;rintro i ⟨k,rfl,D,y⟩;refine⟨λO=>?_,λO=>?_⟩;have m:k<v.keys.length:=by simp at O;omega
  refine⟨v.keys[k],⟨by omega,iM m⟩,?_⟩;have J:=AR (gl:=gl) (l:=lb v.keys[k]) (R:=λr=>r=xd (lb v.keys[k])) (by have:=N.key (Up m);omega) rfl;rw[Zx]at J;refine J.mono λr w=>⟨λQ=>o _ ?_,λQ=>?_⟩;have:qw v.keys=Tc:=xM (k+1) (by grind [rZ]);simp[this];have E:xd (lb v.keys[k])=Ta:=by rw[<-w];simpa using Q
  refine⟨λi=>∃j:Nat,i=j/\j<=k/\v.keys[k]∉v.keys.take j,λi=>k-i.toNat,⟨0,rfl,by omega,by simp⟩,?_⟩;rintro i ⟨j,rfl,hj,t⟩;refine⟨λB=>?_,λB=>?_⟩;have z:j<k:=by simp at B;omega
  refine⟨v.keys[j],⟨by omega,iM (by omega)⟩,v.keys[k],⟨by omega,iM m⟩,λu=>o _ ?_,λu=>?_⟩;have Y:v.keys[j]=v.keys[k]:=by have:=qS v.keys[j] (lb v.keys[k]);rw[Zx]at this;rw[this]at u;exact kM.1 (by simpa using u)
  have:qw v.keys=Tc:=xM (k+1) (by grind [rZ,List.mem_take_iff_getElem]);simp[this];have P:v.keys[j]≠v.keys[k]:=by intro e;rw[e]at u;simp at u
  rw[qn z (by omega)];refine⟨⟨j+1,rfl,by omega,?_⟩,by grind⟩;rw[Uh (by omega),Uv,Vb];grind;have C:j=k:=by simp at B;omega
  subst C;rw[qn m (by omega)];refine⟨⟨j+1,rfl,by omega,?_⟩,by grind⟩;rw[rZ m,y,E,zF t];rfl;grind;grind
 grind
theorem ui{gl:Fr}(m:GL gl)(b:Bool)(v:Tr)(l:Sm v){R:Bool->Prop}(h:R (Zy (λx=>zn x&&(b||decide (x.kind≠7))) v)):PC Tp gl 104 [Arg.mk .tree v,Arg.mk .bool b] [.bool] R:=by
 apply R4;rw[wn];have s:=l.items;rw[yp,yz]at h;refine PP m l ⟨λe=>?_,λe=>?_⟩;grind;have r:(zn v&&(b||decide (v.kind≠7)))=Ta:=by rw[pc]at e;cases hn:zn v <;> cases b <;> simp[hn]at e ⊢;exact e
 rw[r,Vo]at h;refine⟨λi=>∃k:Nat,i=k/\k<=v.items.length/\(v.items.take k).all (Zy (λx=>zn x&&(b||decide (x.kind≠7))))=Ta,λi=>v.items.length-i.toNat,⟨0,rfl,by omega,by simp⟩,?_⟩;rintro i ⟨k,rfl,t,f⟩;refine⟨λp=>?_,λp=>?_⟩;have c:k<v.items.length:=by simp at p;omega
 refine⟨v.items[k],⟨by omega,Y6 c⟩,?_⟩;rw[wn];have n:v.items[k]∈v.items:=Up c;have q:=qi n;refine ui m b v.items[k] (l.item n) ⟨λo=>?_,λo=>?_⟩;grind;rw[qn c (by omega)];refine⟨⟨k+1,rfl,by omega,?_⟩,by grind⟩;rw[Uh c,WX,f,Vo,WQ,List.all_nil,V4];simpa using o;grind
termination_by bR v
theorem E9{p q:Tr->Bool}(h:∀x,p x=q x)(v:Tr):Zy p v=Zy q v:=by have:p=q:=funext h;rw[this]
theorem G7(f:GL gl)(c:Sm v)(h:R (Zg v)):PC Tp gl 106 [Arg.mk .tree v] [.bool] R:=by
 apply IS;rw[wn];refine v8 v c.sz ⟨λr=>r=(c6 v:Int),λ_=>vx v c.sz rfl,λr k=>⟨λb=>b=Zy zn v,λ_=>ui f Ta v c (E9 (λx=>by simp) v),λb i=>?_⟩⟩;have e:(bif decide ((bR v:Int)<=4096)then decide (r<=32)else Tc)=wm v:=by
  unfold wm;cases hc:decide ((bR v:Int)<=4096)with
  |false=>grind
  |true=>grind
 rw[e]at i ⊢;unfold Zg at h;grind
theorem Pe(hF:zo Tp F=Ta){p:Tr->Bool}(hp:∀x,Sm x->PC Tp gl F [Arg.mk .tree x] [.bool] (λr=>r=p x))(n:Nat):∀(v:Tr),bR v<=n->Sm v->∀{h:zb} {M:Fr} {u:Value},Fr.le gl M->AgM M h->RdV M .tree v u ->
  PX Tp 87 #[u,.func (.func F) #[] #[]] h M [.bool] (λr=>r=Zy p v):=by
 induction n with
 |zero=>intro v hn;have:=Zf v;omega
 |succ n ih=>
 intro v hn hv h M u hM ag hu;have S:=hu;obtain⟨sk,si,rfl,rk,ri⟩:=qq hu;apply PX.of;apply JW v.kind v.text sk si F #[] #[];intro h1 h2;have L1:Later h M h1 M:=Later.push ag _;have f:Later h1 M h2 (Mx M h1.size #[.func (.func F) #[] #[]]):=Later.frz L1.ag _ _;have s1:h1.size=h.size+1:=Ur _;have s2:h2.size=h1.size+1:=Ur _;have s:zd h2 ⟨h.size,0,Te⟩ 0 [.int .i64 v.kind,.string v.text,aK sk,aK si]:=kT (h':=h2) (by have:=f.keep;rw[s1]at this;exact this);have Y:∀h':zb,Keep h2.size h2 h'->zc h' (Ua ⟨h.size,0,Te⟩ 3)=Td (aK si):=λh' k=>by refine Lo (h:=h) (T:=25) (cs:=[.int .i64 v.kind,.string v.text,aK sk,aK si]) ?_ rfl;have:=f.keep.trans k (by omega);rw[s1]at this;exact this
 have o:zc h2 ⟨h1.size,0,Te⟩=Td (.func (.func F) #[] #[]):=f.ag.cell (FE _ _ _) rfl;have Q:(Mx M h1.size #[.func (.func F) #[] #[]]) h1.size=Td #[.func (.func F) #[] #[]]:=FE _ _ _;have C:=L1.trans f;clear_value h1 h2;generalize (Mx M h1.size #[.func (.func F) #[] #[]])=M2 at *;refine⟨_,o,v.kind,v.text,sk,si,s,hF,?_⟩;refine(hp v hv).go (vs:=[.agg #[.int .i64 v.kind,.string v.text,aK sk,aK si]]) (hM.trans C.le) C.ag (zq (RdV.mono C.le S) zy) λw h3 L r A t hr=>?_;refine⟨r,dt t,si,λ_=>Y h3 A.keep,?_⟩;have i:=C.trans A;refine⟨λw B=>∃b,w=.bool b/\(r=Ta->b=!(eZ p v.items))/\∃z,Later h M B z,λab=>?_,λaa=>⟨Ta,Ta,rfl,λe=>(by simp_all),L,i⟩,λ_ w B ⟨b,e,_⟩=>⟨b,e⟩,?_⟩;have U:Rd L (.row .tree) v.items [aK si]:=Rd.mono i.le ri;have N:L h1.size=Td #[.func (.func F) #[] #[]]:=A.le _ _ Q;refine(Gg (gl:=gl) A.ag U (p:=λx=>!(Zy p x)) λx hx=>⟨by kernel_rfl,λh' M' u' D O=>?_⟩).go λw B z b E m V=>⟨b,dt m,b,rfl,λ_=>?_,z,i.trans E⟩;have ae:=qi hx;obtain⟨c,l,rfl,H,G⟩:=qq O;apply PX.of;show XC Tp 146 #[.agg #[.int .i64 x.kind,.string x.text,aK c,aK l],.pointer (Td ⟨h1.size,0,Te⟩)] h' _;apply Ii x.kind x.text c l;intro y;have J:Later h' M' y M':=Later.push D.ag _;have I:zd y ⟨h'.size,0,Te⟩ 0 [.int .i64 x.kind,.string x.text,aK c,aK l]:=kT (Keep.refl _ _);have Z:zc y ⟨h1.size,0,Te⟩=Td (.func (.func F) #[] #[]):=J.ag.cell (D.le _ _ N) rfl;clear_value y;refine⟨x.kind,x.text,c,l,I,_,Z,?_⟩;refine(ih x (by omega) (hv.item hx) (h:=y) (M:=M') ((hM.trans i.le).trans D.le) J.ag (zr H G)).go λw h5 M5 b L5 q P=>⟨b,dt q,M5,_,J.trans L5,Yk.2 (rdBool _),by rw[P]⟩;rw[V,yz,Uy];simp;rintro b B ⟨b',e,hb,z,E⟩;cases e;refine⟨z,_,E,Yk.2 (rdBool _),?_⟩;grind [yp]
theorem EG(i:zo Tp F=Ta){p:Tr->Bool}(b:∀x,Sm x->PC Tp gl F [Arg.mk .tree x] [.bool] (λr=>r=p x))(v:Tr)(c:Sm v){h:zb}{M:Fr}{u:Value}(e:Fr.le gl M)(ag:AgM M h)(f:RdV M .tree v u): PX Tp 87 #[u,.func (.func F) #[] #[]] h M [.bool] (λr=>r=Zy p v):=Pe i b (bR v) v (Uc _) c e ag f
theorem tU(C:GL gl)(B:Sm v)(O:R (Zg v)):PC Tp gl 83 [Arg.mk .tree v] [.bool] R:=by
 intro h M vs A ag N
 match vs,N with
 |[u],⟨n,_⟩=>have n:RdV M .tree v u:=n;have m:=n;obtain⟨sk,si,rfl,S,Y⟩:=qq n;apply PX.of;apply Pi v.kind v.text sk si;intro h1;have o:Later h M h1 M:=Later.push ag _;have s1:h1.size=h.size+1:=Ur _;have f:∀h':zb,Keep h1.size h1 h'->zd h' ⟨h.size,0,Te⟩ 0 [.int .i64 v.kind,.string v.text,aK sk,aK si]:=λh' k=>kT (h':=h') (by rw[s1]at k;exact k);clear_value h1;refine⟨v.kind,v.text,sk,si,f h1 (Keep.refl _ _),?_⟩;have s:PC Tp gl 86 [Arg.mk .tree v] [.bool] (λr=>r=wm v):=Bq B rfl;refine s.go (vs:=[.agg #[.int .i64 v.kind,.string v.text,aK sk,aK si]]) (A.trans o.le) o.ag (zq (RdV.mono o.le m) zy) λw h2 I r t l U=>?_;refine⟨r,dt l,v.kind,v.text,sk,si,λ_=>f h2 t.keep,?_⟩;have c:=o.trans t;refine⟨λw q=>∃b,w=.bool b/\(r=Ta->b=Zy zn v)/\∃z,Later h M q z,λL=>?_,λH=>⟨Ta,Ta,rfl,λe=>(by simp_all),I,c⟩,λ_ w q ⟨b,e,_⟩=>⟨b,e⟩,?_⟩;refine(EG (F:=89) (by kernel_rfl) (p:=zn) (λx J=>A0 C J rfl) v B (A.trans c.le) t.ag (RdV.mono c.le m)).go λw V E b D i y=>⟨b,dt i,b,rfl,λ_=>y,E,c.trans D⟩;rintro b q ⟨P,e,Q,z,G⟩;cases e;refine⟨z,_,G,Yk.2 (rdBool _),?_⟩;unfold Zg at O;grind
end
section
variable {cs:Array Value}
theorem Eo:ElemT Tp 22 9 (.string ⟨#[]⟩) 1 16:=⟨by kernel_rfl,⟨Tryz.t9,by kernel_rfl,by kernel_rfl,by kernel_rfl,by kernel_rfl⟩,rfl,by omega⟩
theorem nl:ElemT Tp 23 25 (.agg #[.int .i64 0,.string ⟨#[]⟩,.slice Te 0 0,.slice Te 0 0]) 4 72:=⟨by kernel_rfl,⟨Tryz.t25,by kernel_rfl,by kernel_rfl,by kernel_rfl,by kernel_rfl⟩,rfl,by omega⟩
theorem IA:qj Tp 25=Ta:=by kernel_rfl
theorem LC:jg Tp 25=4:=by kernel_rfl
theorem Hy:qj Tp 22=Ta:=by kernel_rfl
theorem Ny:jg Tp 22=1:=by kernel_rfl
def xu(k:Int)(s:Bt)(sk si:Sl):List Value:=[.int .i64 k,.string s,aK sk,aK si]
theorem Kl(k:Int)(s:Bt)(sk si:Sl):∀u∈xu k s sk si,u.oneCell'=Ta:=by intro u b;simp[xu]at b;rcases b with rfl|rfl|rfl|rfl <;> simp[Value.oneCell',aK]
theorem Na(k:Int)(s:Bt)(sk si:Sl):(Value.agg #[.int .i64 k,.string s,aK sk,aK si]).cells.toList=xu k s sk si:=rfl
theorem Kb{vs:List Value}(h:cs.size=vs.length):upd cs 0 vs=vs.toArray:=by unfold upd;simp_all
theorem pQ{h:zb}{b:Nat}(H:Blk h b cs)(e:cs.size=4)(k:Int)(s:Bt)(sk si:Sl){K:zb->Prop}
  (i:∀h':zb,Blk h' b (xu k s sk si).toArray->h'.size=h.size->(∀j,j≠b->h'[j]?=h[j]?)->K h'):XRunU Tp (Ub 25 (.pointer (Td ⟨b,0,Te⟩)) (.agg #[.int .i64 k,.string s,.slice sk.a sk.len sk.cap,.slice si.a si.len si.cap])) h K:=
 fT (vs:=xu k s sk si) IA H (Na k s sk si) LC (by rw[e];exact Uc _) (Kl k s sk si) λh' c l f=>i h' (by rw[Kb (by rw[e];rfl)]at c;exact c) l f
end
end
section
open Go.Lib
mutual
def fS:Tr->Nat | .mk _ _ ks xs=>1+ks.length+dU xs
def dU:List Tr->Nat | []=>0|x::l=>fS x+dU l
end
theorem L0(v:Tr):fS v=1+v.keys.length+dU v.items:=by cases v;rw[fS]
theorem Ao:∀a b:List Tr,dU (a++b)=dU a+dU b
 |[],b=>by simp[dU]
 |x::l,b=>by rw[UF,dU,dU,Ao l b];omega
theorem Mv{l:List Tr}{k:Nat}(b:k<l.length):dU (l.take (k+1))=dU (l.take k)+fS l[k]:=by rw[Uh b,Ao];simp[dU]
mutual
theorem uW:∀v:Tr,bR v<=fS v
 |.mk k s ks xs=>by rw[bR,fS];have:=E4 xs;omega
theorem E4:∀l:List Tr,xn l<=dU l
 |[]=>by simp[xn,dU]
 |x::l=>by rw[xn,dU];have:=uW x;have:=E4 l;omega
end
mutual
def gu:Tr->Prop | .mk _ s ks xs=>(s.size<=2048/\∀k∈ks,k.size<=1024)/\ia xs
def ia:List Tr->Prop | []=>True|x::l=>gu x/\ia l
end
theorem TV(v:Tr):gu v↔(v.text.size<=2048/\∀k∈v.keys,k.size<=1024)/\ia v.items:=by cases v;rw[gu]
theorem zT:∀{l:List Tr},ia l↔∀x∈l,gu x
 |[]=>by simp[ia]
 |x::l=>by rw[ia,zT];simp
mutual
theorem AQ:∀(v:Tr),fS v<=1000000->gu v->dw 1048576 v
 |.mk k s ks xs,h,g=>by rw[fS]at h;rw[gu]at g;rw[dw];exact⟨⟨by omega,by omega,λk b=>by have:=g.1.2 k b;omega⟩,Ab xs (by omega) g.2⟩
theorem Ab:∀(l:List Tr),dU l<=1000000->ia l->dS 1048576 l
 |[],_,_=>by rw[dS];trivial
 |x::l,h,g=>by rw[dU]at h;rw[ia]at g;rw[dS];exact⟨AQ x (by omega) g.1,Ab l (by omega) g.2⟩
end
theorem Sm.few{v:Tr}(h:fS v<=1000000)(g:gu v):Sm v:=⟨by have:=uW v;omega,AQ v h g⟩
end
section
section
variable {gl:Fr} {R:Tr -> Prop} {l:List Tr}
theorem zR{gl:Fr}(v:Tr)(l d:Int)(y:0<=l/\l<=1000)(u:0<=d/\d<=61){R:Int->Prop}(h:∀r,-1000000000000000<=r->r<=l->(0<=r->r+fS v<=l)->R r):PC Tp gl 53 [Arg.mk .tree v,Arg.mk p3 l,Arg.mk p3 d] [.int .i64] R:=by
 refine PC.bd λf=>?_;have w:v.keys.length<=140737488355328/\v.items.length<=140737488355328:=f ⟨.tree,v⟩ (by simp);apply KU;refine⟨λo=>h _ (by omega) (by omega) (by omega),λo=>?_⟩;have t:d<=60:=by simp at o;omega
 rw[cK (n:=l-1) (by omega),cK (by omega)];refine⟨λc i=>∃k:Nat,i=k/\k<=v.items.length/\-1000000000000000<=c/\c<=l/\(0<=c->c+(1+v.keys.length+dU (v.items.take k))<=l),λc i=>v.items.length-i.toNat,⟨0,rfl,by omega,by omega,by omega,λ_=>by simp[dU];omega⟩,?_⟩;rintro c i ⟨k,rfl,x,h1,h2,m⟩;refine⟨λe=>?_,λe=>h c h1 h2 λh0=>?_⟩;have b:k<v.items.length/\0<=c:=by simp at e;omega
 refine⟨v.items[k],⟨by omega,Y6 b.1⟩,?_⟩;rw[wn,cK (by omega)];have p:=qi (Up b.1);refine zR v.items[k] c (d+1) ⟨b.2,by omega⟩ (by omega) λr s z q=>?_;rw[qn b.1 (by omega)];refine⟨⟨k+1,rfl,by omega,s,by omega,λh0=>?_⟩,by simp only[Ue];omega⟩;have:=q h0;have:=m b.2;rw[Mv b.1];omega;have b:k=v.items.length:=by simp at e;omega
 subst b;have:=m h0;rw[Uz]at this;rw[L0];omega
termination_by bR v
theorem C4{gl:Fr}(v:Tr){R:Bool->Prop}(h:∀b,(b=Ta->gu v)->R b):PC Tp gl 54 [Arg.mk .tree v] [.bool] R:=by
 refine PC.bd λr=>?_;have s:v.keys.length<=140737488355328/\v.items.length<=140737488355328:=r ⟨.tree,v⟩ (by simp);apply R8;refine⟨λc=>h _ (λe=>by cases e),λc=>?_⟩;have n:v.text.size<=2048:=by simp at c;omega
 refine⟨λi=>∃k:Nat,i=k/\k<=v.keys.length/\∀x∈v.keys.take k,x.size<=1024,λi=>v.keys.length-i.toNat,⟨0,rfl,by omega,by simp⟩,?_⟩;rintro i ⟨k,rfl,u,h1⟩;refine⟨λq=>?_,λq=>?_⟩;have l:k<v.keys.length:=by simp at q;omega
 refine⟨v.keys[k],⟨by omega,iM l⟩,λ_=>h _ (λe=>by cases e),λp=>?_⟩;have o:v.keys[k].size<=1024:=by simp at p;omega
 rw[qn l (by omega)];refine⟨⟨k+1,rfl,by omega,?_⟩,by simp only[Ue];omega⟩;rw[Uh l];intro x c;rcases Uv.1 c with c|c;exact h1 x c;simp at c;subst c;exact o;have l:k=v.keys.length:=by simp at q;omega
 subst l;rw[Uz]at h1;refine⟨λi=>∃k:Nat,i=k/\k<=v.items.length/\∀x∈v.items.take k,gu x,λi=>v.items.length-i.toNat,⟨0,rfl,by omega,by simp⟩,?_⟩;rintro i ⟨k,rfl,u,h2⟩;refine⟨λm=>?_,λm=>h _ λ_=>?_⟩;have f:k<v.items.length:=by simp at m;omega
 refine⟨v.items[k],⟨by omega,Y6 f⟩,?_⟩;rw[wn];have t:=qi (Up f);refine C4 v.items[k] λb s=>⟨λ_=>h _ (λe=>by cases e),λp=>?_⟩;rw[qn f (by omega)];refine⟨⟨k+1,rfl,by omega,?_⟩,by simp only[Ue];omega⟩;rw[Uh f];intro x c;rcases Uv.1 c with c|c;exact h2 x c;simp at c;subst c;exact s (by simpa using p);have f:k=v.items.length:=by simp at m;omega
 subst f;rw[Uz]at h2;exact(TV v).2 ⟨⟨n,h1⟩,zT.2 h2⟩
termination_by bR v
theorem Mn{v:Tr}{m:Int}(f:0<=m/\m<=1000){R:Bool->Prop}(h:∀b,(b=Ta->fS v<=m/\Sm v)->R b):PC Tp gl 12 [Arg.mk .tree v,Arg.mk p3 m] [.bool] R:=by
 apply Lx;rw[wn];refine zR v m 0 f (by omega) λr h1 h2 i=>⟨λb=>b=Ta->gu v,λ_=>C4 v λb c=>c,λb c=>h _ λe=>?_⟩;cases hr:decide (r>=0)with
 |false=>rw[hr]at e;cases e
 |true=>
  rw[hr,zG]at e;have h0:0<=r:=by simp at hr;omega
  have:=i h0;exact⟨by omega,Sm.few (by omega) (c hr e)⟩
theorem Oh(h:R (.mk 5 ⟨#[]⟩ [] l)):PC Tp gl 52 [Arg.mk (.row .tree) l] [.tree] R:=by apply RB;exact h
theorem Lr{ks:List Bt}(h:R (.mk 6 ⟨#[]⟩ ks l)):PC Tp gl 47 [Arg.mk (.row .str) ks,Arg.mk (.row .tree) l] [.tree] R:=by apply JK;exact h
theorem yW(b:GL gl){n:Int}(h1:-1000000<=n)(h2:n<=1000000)(h:R (.mk 3 (bl (ql (zm (Lib.itoa n)).1)) [] [])):PC Tp gl 51 [Arg.mk p3 n] [.tree] R:=by apply Si;refine L4 b.pow (by omega) (by omega) ?_;exact tB b.pow (xt _ (by have:=Go.X.itoa_len n;omega)) h
theorem Fq{gl:Fr}(a b:Tr){R:Bool->Prop}(h:∀r,(r=Ta↔a=b)->R r):PC Tp gl 17 [Arg.mk .tree a,Arg.mk .tree b] [.bool] R:=by
 refine PC.bd λx=>?_;have H:a.keys.length<=140737488355328/\a.items.length<=140737488355328:=x ⟨.tree,a⟩ (by simp);apply F3;have z:∀s t:Bt,(s.toList==t.toList)=decide (s=t):=λs t=>by rw[Z8,Z8,Uy,beq_iff_eq,zB];exact kM
 simp only[z];refine⟨λp=>h _ ⟨λe=>(by cases e),λe=>?_⟩,λp=>?_⟩;subst e;simp at p;have u:a.kind=b.kind/\a.text=b.text/\a.keys.length=b.keys.length/\a.items.length=b.items.length:=by simp at p;obtain⟨⟨⟨h1,h2⟩,G⟩,I⟩:=p;exact⟨h1,h2,by omega,by omega⟩
 obtain⟨D,F,E,B⟩:=u;refine⟨λi=>∃k:Nat,i=k/\k<=a.keys.length/\a.keys.take k=b.keys.take k,λi=>a.keys.length-i.toNat,⟨0,rfl,by omega,by simp⟩,?_⟩;rintro i ⟨k,rfl,C,h1⟩;refine⟨λw=>?_,λw=>?_⟩;have f:k<a.keys.length:=by simp at w;omega
 have n:k<b.keys.length:=by omega
 refine⟨a.keys[k],⟨by omega,iM f⟩,b.keys[k],⟨by omega,iM n⟩,λl=>h _ ⟨λe=>(by cases e),λe=>?_⟩,λl=>?_⟩;subst e;simp at l;have m:a.keys[k]=b.keys[k]:=by simpa using l
 rw[qn f (by omega)];refine⟨⟨k+1,rfl,by omega,?_⟩,by simp only[Ue];omega⟩;rw[Uh f,Uh n,h1,m];have f:k=a.keys.length:=by simp at w;omega
 subst f;rw[Uz,E,Uz]at h1;refine⟨λi=>∃k:Nat,i=k/\k<=a.items.length/\a.items.take k=b.items.take k,λi=>a.items.length-i.toNat,⟨0,rfl,by omega,by simp⟩,?_⟩;rintro i ⟨k,rfl,C,h2⟩;refine⟨λq=>?_,λq=>h _ ⟨λ_=>?_,λ_=>rfl⟩⟩;have c:k<a.items.length:=by simp at q;omega
 have o:k<b.items.length:=by omega
 refine⟨a.items[k],⟨by omega,Y6 c⟩,b.items[k],⟨by omega,Y6 o⟩,?_⟩;rw[wn,wn];have A:=qi (Up c);refine Fq a.items[k] b.items[k] λr y=>⟨λl=>h _ ⟨λe=>(by cases e),λe=>?_⟩,λl=>?_⟩;subst e;rw[y.2 rfl]at l;cases l;have m:a.items[k]=b.items[k]:=y.1 (by simpa using l);rw[qn c (by omega)];refine⟨⟨k+1,rfl,by omega,?_⟩,by simp only[Ue];omega⟩;rw[Uh c,Uh o,h2,m];have c:k=a.items.length:=by simp at q;omega
 subst c;rw[Uz,B,Uz]at h2;have:=wn a;rw[D,F,h1,h2,wn]at this;exact this.symm
termination_by bR a
end
section
def iL(l:Bs):List Int:=l.map λc=>(c.toNat:Int)
theorem EY(a b:Bs):iL (a++b)=iL a++iL b:=U7
end
end
section
open Go.Shelf Go.RowKit
def Eh:Go.Shelf.Ren:=⟨fun|169=>70|n=>n,fun|70=>86|9=>9|0=>0|72=>89|37=>87|127=>133|3=>3|5=>5|n=>n,fun|n=>n⟩
theorem QP:Go.Proofs.Lays.n169 Tp Eh:=by constructor <;> intros <;> kernel_rfl
theorem Lj:Builder.Extra Tp Eh:={
 sizeBuilder:=by kernel_rfl
 liesBuilder:=by kernel_rfl
 t5:=Tryz.underlying5
 a5:=Tryz.isAgg5
 z5:=Tryz.sizeOf5
 v5:=Tryz.zeroValue5
 infoByte:=by kernel_rfl
 cellsByte:=by kernel_rfl
 sizeByte:=by kernel_rfl
 neB5:=by decide }
theorem G3(B b:Nat)(l:List UInt8)(w:World)(h:Lib.IsBuilder 89 5 B b (Lib.byteCells l) w)(c:B<=w.heap.size): Calls Tp 70 #[.pointer (Td ⟨b,0,Te⟩)] w λe w'=>e=.returned (.string ⟨l.toArray⟩)/\Below B w w':=Any.Builder_String_any QP Lj B b l w h c
def GH:Go.Shelf.Ren:=⟨fun|153=>391|152=>369|226=>404|227=>271|228=>321|137=>319|119=>394|224=>358|225=>357|217=>356|266=>385|n=>n,fun|9=>9|3=>3|4=>4|5=>5|21=>21|117=>281|116=>280|0=>0|46=>123|124=>284|n=>n,fun|n=>n⟩
theorem I4:Go.Proofs.Lays.n153 Tp GH:=by constructor <;> intros <;> kernel_rfl
open Go.RowKit Go.Lib in
theorem Xa(h:∀w,(zeroValue 280).run Tp w=.ok (.agg (VL 256 (.bool Tc))) w)(s c:Bt)(w:World)(h2:2<=c.size)(k:8<s.size)(l:s.size<4294967281)(i:c.size<4294967281)(f:∀(j:Nat) b,c.data.toList[j]?=Td b->b.toNat<128): Calls Tp 391 #[.string s,.string c] w λe w'=>e=.returned (.int .i64 (Lib.indexAny s.data.toList c.data.toList))/\w'=((w.alloc (.cells (Lib.setCells c.data.toList) 280)).alloc (.cells (Lib.setCells c.data.toList) 280)):=Any.strings_IndexAny_long I4 h (by kernel_rfl) s c w h2 k l i f
end
section
open Go.RowKit
variable {h h':zb} {b:Nat} {l:Bs} {cs:Array Value} {s:Sl} {K:Value -> zb -> Prop}
def Bld(h:zb)(b:Nat)(l:Bs):Prop:=∃(p:Option Addr) (s:Sl),h[b]?=Td (.cells #[.pointer p,aK s] 89 (0,0))/\(p=Te\/p=Td ⟨b,0,Te⟩)/\Owns h (b+1) 5 1 s (Lib.byteCells l)
theorem Bld.lt(H:Bld h b l):b<h.size:=by obtain⟨p,s,e,_⟩:=H;grind
theorem Bld.keep(H:Bld h b l)(k:Keep h.size h h'):Bld h' b l:=by have c:=H.lt;obtain⟨p,s,e,f,i⟩:=H;exact⟨p,s,by rw[k.get b c];exact e,f,i.keepN k⟩
theorem Bld.new(h:zb):Bld (h.push (.cells #[.pointer Te,.slice Te 0 0] 89)) h.size []:= ⟨Te,⟨Te,0,0⟩,yx _ _,.inl rfl,Owns.nil _ _ _ _⟩
theorem qT:(UN.info? 89).map (·.size)=Td 2:=by kernel_rfl
theorem QN:liesAt Tp UN.depth 89 (2 / UN.cellsOf 89) 0 89 1=Ta:=by kernel_rfl
theorem mW:UN.underlying 86=Td (.pointer 89):=by kernel_rfl
theorem p6:UN.underlying 199=Td .unsafePointer:=by kernel_rfl
set_option maxHeartbeats 1000000 in
set_option maxRecDepth 100000 in
theorem EI(b:Nat)(w:World)(h0:w.cell? ⟨b,0,Te⟩=Td (.pointer (Td ⟨b,0,Te⟩))):
  Calls Tp 123 #[.pointer (Td ⟨b,0,Te⟩)] w λe w'=>e=.returned (.tuple #[])/\w'=w:=by
 obtain⟨j,c,_⟩:=VN.1 qT;have mixed:=Tryz.mixed
 go_enter Tryz.func123,Tryz.ntmps123
 go_wp2
 rw[Lib.run_neq_ptr_same w _ mW c]
 go_wp2
 go_end0
 simp
set_option maxHeartbeats 1000000 in
set_option maxRecDepth 100000 in
theorem T5(b:Nat)(w:World)(h0:w.cell? ⟨b,0,Te⟩=Td (.pointer Te))(c:w.shape? b=Td (89,2))(h:w.frozen? ⟨b,0,Te⟩=Tc):
  Calls Tp 123 #[.pointer (Td ⟨b,0,Te⟩)] w λe w'=>e=.returned (.tuple #[])/\w'=w.setCell ⟨b,0,Te⟩ (.pointer (Td ⟨b,0,Te⟩)):=by
 obtain⟨j,f,i⟩:=VN.1 qT;have mixed:=Tryz.mixed
 go_enter Tryz.func123,Tryz.ntmps123
 go_wp2
 rw[Lib.run_to_unsafe w ⟨b,0,Te⟩ mW p6 f (by omega) c (Nat.zero_lt_succ 1)];simp only[Result.andThen];rw[Oper.upon_value]
 go_wp2
 rw[run_callFunc_extern Tryz.func195 (by kernel_rfl) (by kernel_rfl) (by kernel_rfl) (e:=YV) (by kernel_rfl)];rw[Lib.run_noEscape];simp only[Result.andThen];rw[Oper.upon_value]
 go_wp2
 rw[Lib.run_from_unsafe w ⟨b,0,Te⟩ p6 mW f c QN];simp only[Result.andThen];rw[Oper.upon_value]
 go_wp2
 go_end0
 simp
theorem xO{b o:Nat}{T:TypeId}(e:h[b]?=Td (.cells cs T (0,0)))(v:Value)(B:World)(d:Nat):(mk B d h).setCell ⟨b,o,Te⟩ v=mk B d (h.setIfInBounds b (.cells (cs.setIfInBounds o v) T (0,0))):=by unfold World.setCell mk;simp only;congr 1;grind
theorem Keep.ne(e:h'.size=h.size)(c:∀i,i≠b->h'[i]?=h[i]?):Keep b h h':=⟨by omega,λi hi=>c i (by omega)⟩
def Itk(h h':zb):Prop:=∀(i:Nat) (s:Bt) (p:Nat),h[i]?=Td (.stringIter s p)->h'[i]?=Td (.stringIter s p)
theorem Itk.trans{a b c:zb}(x:Itk a b)(y:Itk b c):Itk a c:=λi s p e=>y i s p (x i s p e)
theorem Itk.keep(k:Keep h.size h h'):Itk h h':=λi s p e=>by have hi:i<h.size:=(Ut.1 e).1;rw[k.get i hi];exact e
theorem Itk.ne{T:TypeId}{m:Nat×Nat}(e:h[b]?=Td (.cells cs T m))(f:∀i,i≠b->h'[i]?=h[i]?):Itk h h':=λi s p c=>by grind
theorem Itk.own{base:Nat}{e:TypeId}{sz:Nat}{xs:List Value}(H:Owns h base e sz s xs)(f:∀i,i<h.size->(∀p,s.a=Td p->i≠p.block)->h'[i]?=h[i]?):Itk h h':=λi t p k=>by have hi:i<h.size:=(Ut.1 k).1;rw[f i hi λq n m=>?_];exact k;rcases H.2 with⟨l,_⟩|⟨g,cap,b,l,_,c,_⟩;simp_all;have c:h[g]?=Td (.cells b e (0,0)):=c;simp_all
theorem q7(H:Bld h b l)(k:∀h',Bld h' b l->Keep b h h'->h'.size=h.size->Itk h h'->K (.tuple #[]) h'):XC Tp 123 #[.pointer (Td ⟨b,0,Te⟩)] h K:=by
 have o:=H.lt;obtain⟨p,s,e,m,f⟩:=H;have c:∀B d,(mk B d h).cell? ⟨b,0,Te⟩=Td (.pointer p):=λB d=>by have:(mk B d h).heap[b]?=Td (.cells #[.pointer p,aK s] 89 (0,0)):=e;simp[World.cell?,this]
 rcases m with rfl|rfl;refine XC.of_calls λB d=>(T5 b (mk B d h) (c B d) ?_ ?_).mono ?_
 have:(mk B d h).heap[b]?=Td (.cells #[.pointer Te,aK s] 89 (0,0)):=e;simp[World.shape?,this];exact qW ⟨_,e⟩ B d;rintro e' w' ⟨rfl,rfl⟩;rw[xO e];refine⟨_,rfl,rfl,rfl,rfl,?_⟩;show K _ (h.setIfInBounds b _);refine k _ ⟨_,s,?_,.inr rfl,?_⟩ ?_ (by simp) (Itk.ne e λi hi=>Vy (Ne.symm hi));simp_all;refine f.keep λq n=>?_;have:=f.base_le q n;grind;exact Keep.setBlk _ (Uc _);refine XC.of_calls λB d=>(EI b (mk B d h) (c B d)).mono ?_;rintro e' w' ⟨rfl,rfl⟩;exact⟨_,rfl,rfl,rfl,rfl,k _ ⟨_,s,e,.inr rfl,f⟩ (Keep.refl _ _) rfl (Itk.keep (Keep.refl _ _))⟩
theorem elemU8:ElemT Tp 87 5 (.int .u8 0) 1 1:=⟨by kernel_rfl,⟨Tryz.t5,by kernel_rfl,by kernel_rfl,by kernel_rfl,by kernel_rfl⟩,rfl,by omega⟩
theorem oN:UN.underlying 9=Td .string:=by kernel_rfl
theorem Ej:qj Tp 87=Ta:=by kernel_rfl
theorem Ei:jg Tp 87=1:=by kernel_rfl
theorem vf{p:Option Addr}{s u:Sl}(e:h[b]?=Td (.cells #[.pointer p,aK u] 89 (0,0)))(m:p=Te\/p=Td ⟨b,0,Te⟩)(i:Owns h (b+1) 5 1 s (Lib.byteCells l)){K:zb->Prop}
  (t:∀h',Bld h' b l->Keep b h h'->h'.size=h.size->Itk h h'->K h'):XRunU Tp (Ub 87 (.pointer (Td ⟨b,1,Te⟩)) (.slice s.a s.len s.cap)) h K:=by
 intro B d;obtain⟨h',r,k,f,c⟩:=Q8 (P:=Tp) Ej Ei e (o:=1) (v:=aK s) rfl (by simp) (by simp[aK,Value.cells,Value.oneCell']) B d;refine⟨d,h',r,t h' ⟨p,s,?_,m,?_⟩ (Keep.ne f c) f (Itk.ne e c)⟩;rw[k];rfl;refine i.keep λq n=>?_;have:=i.base_le q n;grind
theorem Xb(H:Bld h b l)(U:l.length<140737488355328)(c:UInt8)(P:∀h',Bld h' b (l++[c])->Keep b h h'->Itk h h'->K .nilIface h'):
  XC Tp 133 #[.pointer (Td ⟨b,0,Te⟩),.int .u8 (c.toNat:Int)] h K:=by
 apply wb;refine q7 H λh2 B k2 z2 F=>⟨rfl,_,rfl,?_⟩;have x:=B.lt;obtain⟨p,s,e,Q,r⟩:=B;have f:=r.1;rw[Lib.byteCells_length,Vz]at f;refine⟨s,Blk.cellAdd (o:=0) (k:=1) (cs:=#[.pointer p,aK s]) ⟨_,e⟩ rfl,?_⟩;intro t;obtain⟨m,V,b5⟩:=jf (g:=t) rfl;have D:t[b]?=Td (.cells #[.pointer p,aK s] 89 (0,0)):=by rw[m.get b x];exact e
 have A:=r.keepN m;clear_value t;refine Jj elemU8 A (src:=⟨Td ⟨h2.size,0,Te⟩,1,1⟩) (news:=[.int .u8 (c.toNat:Int)]) (n:=t.size) ?_ rfl (by simp[Value.oneCell']) (by grind) (by grind) (by omega) λC z Z I u q4 S=>⟨C,rfl,_,rfl,?_⟩;refine .inr ⟨h2.size,0,rfl,by omega,λi v w=>?_⟩
 match i,w with
 |0,w=>cases w;exact b5.cell rfl
 have M:z[b]?=Td (.cells #[.pointer p,aK s] 89 (0,0)):=by rw[u b (by omega) λq y=>by have:=r.base_le q y;omega];exact D
 have E:Owns z (b+1) 5 1 C (Lib.byteCells (l++[c])):=by
  have:Lib.byteCells (l++[c])=Lib.byteCells l++[.int .u8 (c.toNat:Int)]:=by unfold Lib.byteCells;rw[U7];rfl
  rw[this];exact I
 have G:Keep b h z:=k2.trans ⟨by omega,λi hi=>by rw[u i (by omega) λq y=>by have:=r.base_le q y;omega];exact m.get i (by omega)⟩ (Uc _);refine vf M Q E λO J L Y N=>P O J (G.trans L (Uc _)) (F.trans ((Itk.keep m).trans ((Itk.own A u).trans N)))
theorem O3(H:Bld h b l)(t:Bs)(hl:l.length+t.length<=140737488355328)(N:∀h',Bld h' b (l++t)->Keep b h h'->Itk h h'->K (.tuple #[.int .i64 (t.length:Int),.nilIface]) h'):
  XC Tp 68 #[.pointer (Td ⟨b,0,Te⟩),.string (bl t)] h K:=by
 apply jo;refine q7 H λh2 A k2 z2 F=>⟨rfl,_,rfl,?_⟩;have C:=A.lt;obtain⟨p,s,e,O,n⟩:=A;have f:=n.1;rw[Lib.byteCells_length,Vz]at f;refine⟨s,Blk.cellAdd (o:=0) (k:=1) (cs:=#[.pointer p,aK s]) ⟨_,e⟩ rfl,?_⟩;have c:=zh t;refine Jr elemU8 n (x:=.string (bl t)) (m:=(bl t).size) (news:=Lib.byteCells t) (λB d=>?_) (by rw[c];omega) (by rw[c];omega) (by omega) λz y U Q u Z Y=>⟨z,rfl,_,rfl,?_⟩;have:=Src.ofString (P:=Tp) (w:=mk B d h2) oN (bl t);have V:byteCells (bl t)=Lib.byteCells t:=by unfold byteCells Lib.byteCells;have:(bl t).data.toList=t:=ym t;rw[this]
 simp_all;have I:y[b]?=Td (.cells #[.pointer p,aK s] 89 (0,0)):=by rw[u b (by omega) λq r=>by have:=n.base_le q r;omega];exact e
 have D:Owns y (b+1) 5 1 z (Lib.byteCells (l++t)):=by
  have:Lib.byteCells (l++t)=Lib.byteCells l++Lib.byteCells t:=by unfold Lib.byteCells;rw[U7]
  rw[this];exact Q
 have J:Keep b h y:=k2.trans ⟨by omega,λi hi=>u i (by omega) λq r=>by have:=n.base_le q r;omega⟩ (Uc _);refine vf I O D λM E G S L=>?_;rw[c];exact N M E (J.trans G (Uc _)) (F.trans ((Itk.own n u).trans L))
theorem As(H:Bld h b l)(o:∀h',Keep b h h'->K (.string (bl l)) h'):XC Tp 70 #[.pointer (Td ⟨b,0,Te⟩)] h K:=by
 have k:=H.lt;obtain⟨p,s,e,n,i⟩:=H;refine XC.of_calls λB d=>(G3 b b l (mk B d h) ?_ (XX k)).mono ?_;have m:Lib.BuilderAt 89 5 b b (.pointer p) (Lib.byteCells l) (mk B d h):=by
  refine⟨Uc _,aK s,e,?_,?_⟩;have h1:=i.1;rw[Vz]at h1;rw[h1];exact i.base (Nat.le_succ b);intro f;cases ha:s.a with
  |none=>rw[aK,ha]at f;cases f
  |some q=>
   have:=i.base_le q ha;rw[aK,ha]at f;have:q.block=b:=by simpa[Value.ownBlock]using f
   omega
 rcases n with rfl|rfl;exact .inl m;exact .inr m;rintro e' w' ⟨rfl,c⟩;exact⟨_,rfl,c.os,c.tape,c.output,o _ ⟨c.size,c.block⟩⟩
end
section
theorem OF(gl:Fr)(b:Bt×List (Int×(Int×Int)×(Int×Int)×(List Int)×List (Int×Int)))(s1:Int×Int)(R:Bt->Prop) (H:((bif (bif (decide (s1.1<0))then Ta else(decide (s1.1>s1.2)))then Ta else(decide (s1.2>b.1.size)))=Ta->R (⟨#[]⟩:Bt))/\((bif (bif (decide (s1.1<0))then Ta else(decide (s1.1>s1.2)))then Ta else(decide (s1.2>b.1.size)))=Tc->(0<=s1.1/\s1.1<=s1.2/\s1.2<=b.1.size)/\R (b.1.extract s1.1.toNat s1.2.toNat))):
  PC Tp gl 284 [Arg.mk (.pair .str (.row (.pair p3 (.pair (.pair p3 (.int .i64)) (.pair (.pair p3 (.int .i64)) (.pair (.row p3) (.row (.pair p3 (.int .i64))))))))) b,Arg.mk (.pair p3 (.int .i64)) s1] [.str] R:=
 PF ⟨[],[],[],[]⟩ [.tmp 4] 30 Tryz.func284 H
theorem OB(gl:Fr)(e:Int)(s1:Bt)(R:Bt->Prop) (H:((e==2)=Ta->R s1)/\((e==2)=Tc->((e==3)=Ta->PC Tp gl 160 [Arg.mk .str s1] [.pair .bool (.pair .str (.int .i64)),.int .i64] (λa:(Bool×Bt×Int)×Int=>PC Tp gl 92 [Arg.mk (.pair .bool (.pair .str (.int .i64))) (a.1.1,(a.1.2.1,a.1.2.2))] [.str] (λb:Bt=>R b)))/\((e==3)=Tc->((e==4)=Ta->PC Tp gl 343 [Arg.mk .str s1] [.str,.int .i64,.int .i64] (λc:Bt×Int×Int=>R c.1))/\((e==4)=Tc->R (⟨#[]⟩:Bt))))):
  PC Tp gl 283 [Arg.mk p3 e,Arg.mk .str s1] [.str] R:=
 PF ⟨[],[],[],[]⟩ [.tmp 4] 32 Tryz.func283 H
theorem Oz(gl:Fr)(c:Int)(R:Int->Prop) (H:((c==12)=Ta->R 1)/\((c==12)=Tc->∀a:Bool->Prop,(∀b:Bool,((b=Ta->R 2)/\(b=Tc->((c==9)=Ta->R 3)/\((c==9)=Tc->((c==8)=Ta->R 4)/\((c==8)=Tc->((c==4)=Ta->R 5)/\((c==4)=Tc->((c==2)=Ta->R 6)/\((c==2)=Tc->R 0))))))->a b)->((c==10)=Ta->a (c==10))/\((c==10)=Tc->a (c==11)))):
  PC Tp gl 335 [Arg.mk p3 c] [.int .i64] R:=
 PF ⟨[],[],[],[(6,⟨[(6,.one (.dat .bool))],[],[],[100384]⟩)]⟩ [.tmp 2] 17 Tryz.func335 H
theorem G1(gl:Fr)(b:Bt)(R:(Bt×Int×Int)->Prop) (H:PC Tp gl 377 [Arg.mk .str b,Arg.mk p3 0] [.str,.int .i64,.int .i64] (λa:Bt×Int×Int=>((bif (a.2.2==0)then(decide (a.2.1<b.size))else Tc)=Ta->R ((⟨#[]⟩:Bt),a.2.1,2))/\((bif (a.2.2==0)then(decide (a.2.1<b.size))else Tc)=Tc->R (a.1,a.2.1,a.2.2)))):
  PC Tp gl 343 [Arg.mk .str b] [.str,.int .i64,.int .i64] R:=
 PF ⟨[],[],[],[]⟩ [.tmp 2,.tmp 3,.tmp 4] 26 Tryz.func343 H
theorem OK(gl:Fr)(c:Int)(b:Int)(R:((Int×Int×Int)×Int)->Prop) (H:R ((0,(c,c)),b)):
  PC Tp gl 397 [Arg.mk p3 c,Arg.mk p3 b] [.pair p3 (.pair p3 (.int .i64)),.int .i64] R:=
 PF ⟨[],[],[],[]⟩ [.cell 4 236,.tmp 5] 11 Tryz.func397 H
theorem JH(gl:Fr)(c:Bt)(b:Int)(R:(Int×Int)->Prop) (H:((bif (decide (b<0))then Ta else(decide (b>c.size)))=Ta->R (0,2))/\((bif (decide (b<0))then Ta else(decide (b>c.size)))=Tc->PC Tp gl 377 [Arg.mk .str c,Arg.mk p3 b] [.str,.int .i64,.int .i64] (λa:Bt×Int×Int=>R (a.2.1,a.2.2)))):
  PC Tp gl 400 [Arg.mk .str c,Arg.mk p3 b] [.int .i64,.int .i64] R:=
 PF ⟨[],[],[],[]⟩ [.tmp 4,.tmp 5] 26 Tryz.func400 H
theorem TZ(gl:Fr)(c0:Int)(R:Bool->Prop) (H:R (bif (decide (c0>=97))then(decide (c0<=122))else Tc)):
  PC Tp gl 401 [Arg.mk (.int .u8) c0] [.bool] R:=
 PF ⟨[],[],[],[]⟩ [.tmp 2] 9 Tryz.func401 H
theorem SN(gl:Fr)(b:Bt)(R:Int->Prop) (H:((b.toList==(⟨#[116,114,117,101]⟩:Bt).toList)=Ta->R 10)/\((b.toList==(⟨#[116,114,117,101]⟩:Bt).toList)=Tc->((b.toList==(⟨#[102,97,108,115,101]⟩:Bt).toList)=Ta->R 11)/\((b.toList==(⟨#[102,97,108,115,101]⟩:Bt).toList)=Tc->((b.toList==(⟨#[110,117,108,108]⟩:Bt).toList)=Ta->R 12)/\((b.toList==(⟨#[110,117,108,108]⟩:Bt).toList)=Tc->R 0)))):
  PC Tp gl 402 [Arg.mk .str b] [.int .i64] R:=
 PF ⟨[],[],[],[]⟩ [.tmp 2] 10 Tryz.func402 H
theorem QZ(gl:Fr)(c:Bt)(R:(Int×Int)->Prop) (H:(0<=(0:Int)/\(0:Int)<(c.size:Int))/\(((ze c (0:Int).toNat:Int)==92)=Ta->PC Tp gl 407 [Arg.mk .str c] [.int .i32,.int .i64] (λa:Int×Int=>R (a.1,a.2)))/\(((ze c (0:Int).toNat:Int)==92)=Tc->PC Tp gl 247 [Arg.mk .str c] [.int .i32,.int .i64] (λb:Int×Int=>((bif (decide (b.1<32))then Ta else(bif (b.1==65533)then(b.2==1)else Tc))=Ta->R (0,0))/\((bif (decide (b.1<32))then Ta else(bif (b.1==65533)then(b.2==1)else Tc))=Tc->R (b.1,b.2))))):
  PC Tp gl 403 [Arg.mk .str c] [.int .i32,.int .i64] R:=
 PF ⟨[],[],[],[]⟩ [.tmp 2,.tmp 3] 30 Tryz.func403 H
theorem N7(gl:Fr)(c:Bt)(R:(Int×Int)->Prop) (H:(decide ((c.size:Int)<2)=Ta->R (0,0))/\(decide ((c.size:Int)<2)=Tc->(0<=(1:Int)/\(1:Int)<(c.size:Int))/\PC Tp gl 408 [Arg.mk (.int .u8) (ze c (1:Int).toNat)] [.int .i32,.bool] (λa:Int×Bool=>(a.2=Ta->R (a.1,2))/\(a.2=Tc->(0<=(1:Int)/\(1:Int)<(c.size:Int))/\(((ze c (1:Int).toNat:Int)==117)=Ta->PC Tp gl 409 [Arg.mk .str c] [.int .i32,.int .i64] (λb:Int×Int=>R (b.1,b.2)))/\(((ze c (1:Int).toNat:Int)==117)=Tc->R (0,0)))))):
  PC Tp gl 407 [Arg.mk .str c] [.int .i32,.int .i64] R:=
 PF ⟨[],[],[],[]⟩ [.tmp 2,.tmp 3] 24 Tryz.func407 H
theorem SV(gl:Fr)(c0:Int)(R:(Int×Bool)->Prop) (H:∀a:Bool->Prop,(∀b:Bool,((b=Ta->R (T9 .i32 c0,Ta))/\(b=Tc->((c0==98)=Ta->R (8,Ta))/\((c0==98)=Tc->((c0==102)=Ta->R (12,Ta))/\((c0==102)=Tc->((c0==110)=Ta->R (10,Ta))/\((c0==110)=Tc->((c0==114)=Ta->R (13,Ta))/\((c0==114)=Tc->((c0==116)=Ta->R (9,Ta))/\((c0==116)=Tc->R (0,Tc))))))))->a b)->((c0==34)=Ta->a (c0==34))/\((c0==34)=Tc->((c0==92)=Ta->a (c0==92))/\((c0==92)=Tc->a (c0==47)))):
  PC Tp gl 408 [Arg.mk (.int .u8) c0] [.int .i32,.bool] R:=
 PF ⟨[],[],[],[(5,⟨[(5,.one (.dat .bool))],[],[],[100320]⟩)]⟩ [.tmp 2,.tmp 3] 21 Tryz.func408 H
theorem Kj(gl:Fr)(f:Bt)(R:(Int×Int)->Prop) (H:(0<=(2:Int)/\(2:Int)<=(f.size:Int)/\(f.size:Int)<=(f.size:Int))/\PC Tp gl 410 [Arg.mk .str (f.extract (2:Int).toNat (f.size:Int).toNat)] [.int .i32,.bool] (λa:Int×Bool=>∀b:Bool->Prop,(∀c:Bool,((c=Ta->R (0,0))/\(c=Tc->((bif (decide (a.1<55296))then Ta else(decide (a.1>=57344)))=Ta->R (a.1,6))/\((bif (decide (a.1<55296))then Ta else(decide (a.1>=57344)))=Tc->(0<=(6:Int)/\(6:Int)<=(f.size:Int)/\(f.size:Int)<=(f.size:Int))/\PC Tp gl 251 [Arg.mk .str (f.extract (6:Int).toNat (f.size:Int).toNat),Arg.mk .str (⟨#[92,117]⟩:Bt)] [.bool] (λd:Bool=>((!d)=Ta->R (0,0))/\((!d)=Tc->(0<=(8:Int)/\(8:Int)<=(f.size:Int)/\(f.size:Int)<=(f.size:Int))/\PC Tp gl 410 [Arg.mk .str (f.extract (8:Int).toNat (f.size:Int).toNat)] [.int .i32,.bool] (λe:Int×Bool=>((bif (bif (!e.2)then Ta else(decide (e.1<56320)))then Ta else(decide (e.1>=57344)))=Ta->R (0,0))/\((bif (bif (!e.2)then Ta else(decide (e.1<56320)))then Ta else(decide (e.1>=57344)))=Tc->R (T9 .i32 ((T9 .i32 ((T9 .i32 (65536+(T9 .i32 ((T9 .i32 (a.1-55296))*1024))))+e.1))-56320),12))))))))->b c)->((!a.2)=Ta->b (!a.2))/\((!a.2)=Tc->b (bif (decide (a.1>=56320))then(decide (a.1<57344))else Tc)))):
  PC Tp gl 409 [Arg.mk .str f] [.int .i32,.int .i64] R:=
 PF ⟨[],[],[],[(4,⟨[(13,.one (.dat .bool))],[],[],[100832]⟩)]⟩ [.tmp 2,.tmp 3] 58 Tryz.func409 H
theorem Iq(gl:Fr)(e:Bt)(R:(Int×Bool)->Prop) (H:((!(decide ((e.size:Int)<4)))=Ta->(0<=(0:Int)/\(0:Int)<=4/\(4:Int)<=(e.size:Int)))/\∃a:Bool->Prop,((!(decide ((e.size:Int)<4)))=Ta->PC Tp gl 365 [Arg.mk .str (e.extract (0:Int).toNat (4:Int).toNat),Arg.mk .str (⟨#[43,45,95]⟩:Bt)] [.bool] a)/\∀b:Bool,((!(decide ((e.size:Int)<4)))=Ta->a b)->((bif (decide ((e.size:Int)<4))then Ta else b)=Ta->R (0,Tc))/\((bif (decide ((e.size:Int)<4))then Ta else b)=Tc->(0<=(0:Int)/\(0:Int)<=4/\(4:Int)<=(e.size:Int))/\PC Tp gl 411 [Arg.mk .str (e.extract (0:Int).toNat (4:Int).toNat),Arg.mk p3 16,Arg.mk p3 32] [.int .u64,.err] (λc:Int×Bool=>R (T9 .i32 c.1,c.2)))):
  PC Tp gl 410 [Arg.mk .str e] [.int .i32,.bool] R:=
 PF ⟨[],[],[],[]⟩ [.tmp 2,.tmp 3] 24 Tryz.func410 H
end
section
open Go.Lib
variable {l:Bs} {n r:Nat}
theorem ON(l:Bs):decodeL l=dec l:=by rw[decodeL_N,dec]
theorem u7(h:l≠[])(b:dD (dec l)=Tc):encodeRune ((dec l).1:Int)=l.take (dec l).2:=by rw[<-ON]at b ⊢;refine encode_decode l h λ⟨h1,h2⟩=>?_;unfold dD at b;rw[h1,h2]at b;cases b
def dK(c:UInt8):Option Nat:=
 if 48<=c.toNat/\c.toNat<=57 then Td (c.toNat-48)
 else if 97<=c.toNat/\c.toNat<=102 then Td (c.toNat-87)
 else if 65<=c.toNat/\c.toNat<=70 then Td (c.toNat-55)
 else Te
theorem F7{c:UInt8}(h:dK c=Td n):n<16:=by unfold dK at h;split at h;cases h;omega;split at h;cases h;omega;split at h;cases h;omega;cases h
def dL:Nat->Bs->Option Nat
 |n,[]=>Td n
 |n,c::l=>match dK c with
  |some d=>dL (16*n+d) l
  |none=>Te
def dH(l:Bs):Option Nat:=if 4<=l.length then dL 0 (l.take 4)else Te
theorem vu:∀{l:Bs} {n m:Nat},dL n l=Td m->m<(n+1)*16 ^ l.length
 |[],n,m,h=>by cases h;simp
 |c::l,n,m,h=>by
  unfold dL at h;cases e:dK c with
  |none=>rw[e]at h;cases h
  |some d=>
   rw[e]at h;have h1:=vu h;have h2:=F7 e;have b:(16*n+d+1)*16 ^ l.length<=(16*(n+1))*16 ^ l.length:=UC _ (by omega);have f:(16*(n+1))*16 ^ l.length=(n+1)*16 ^ (l.length+1):=by rw[YI,XJ 16,Nat.mul_assoc,XJ 16]
   simp only[Uk];omega
theorem jN(h:dH l=Td n):n<65536:=by unfold dH at h;split at h;have:=vu h;simp only[UQ]at this;rename_i b;rw[V9 b]at this;omega;cases h
def gP(c:UInt8):Option Nat:=
 if c=34\/c=92\/c=47 then Td c.toNat else if c=98 then Td 8 else if c=102 then Td 12 else if c=110 then Td 10 else if c=114 then Td 13 else if c=116 then Td 9 else Te
def iG(t:Bs):Option (Nat×Nat):=match dH t with
 |none=>Te
 |some n=>if 56320<=n/\n<57344 then Te else if n<55296\/57344<=n then Td (n,6)else
  if(t.drop 4).take 2=[92,117]then match dH (t.drop 6)with
   |some m=>if 56320<=m/\m<57344 then Td (65536+(n-55296)*1024+(m-56320),12)else Te
   |none=>Te
  else Te
def i9(l:Bs):Option (Nat×Nat):=match l with
 |_::c::t=>match gP c with
  |some r=>Td (r,2)
  |none=>if c=117 then iG t else Te
 |_=>Te
def d9(l:Bs):Option (Nat×Nat):=if l.head?=Td 92 then i9 l else if(dec l).1<32\/dD (dec l)=Ta then Te else Td (dec l)
def iD:Nat->Bs->Bs×Nat×Bool
 |0,_=>([],0,Tc)
 |f+1,l=>if l=[]then([],0,Tc)else if l.head?=Td 34 then([],1,Ta)else match d9 l with
  |none=>([],0,Tc)
  |some (r,n)=>let q:=iD f (l.drop n);(encodeRune (r:Int)++q.1,n+q.2.1,q.2.2)
def eY(l:Bs):Bs×Nat×Bool:=iD l.length l
theorem Gk{t:Bs}(h:iG t=Td (r,n)):(n=6\/n=12)/\n<=t.length+2/\r<=1114111:=by
 unfold iG at h;cases e:dH t with
 |none=>rw[e]at h;cases h
 |some m=>
  have c:=jN e;have f:4<=t.length:=by unfold dH at e;split at e;assumption;cases e
  rw[e]at h;dsimp only at h;split at h;cases h;split at h;simp only[Ud,Vg]at h;obtain⟨rfl,rfl⟩:=h;exact⟨.inl rfl,by omega,by omega⟩;split at h;cases e2:dH (t.drop 6)with
  |none=>rw[e2]at h;cases h
  |some k=>
   have b:4<=(t.drop 6).length:=by unfold dH at e2;split at e2;assumption;cases e2
   rw[UD]at b;rw[e2]at h;dsimp only at h;split at h;simp only[Ud,Vg]at h;obtain⟨rfl,rfl⟩:=h;exact⟨.inr rfl,by omega,by omega⟩;cases h
  cases h
theorem Ds{c:UInt8}(h:gP c=Td r):r<=255:=by
 have:=c.toNat_lt;unfold gP at h;repeat' split at h
 all_goals first|(cases h;omega)|cases h
theorem Tm(h:i9 l=Td (r,n)):2<=n/\n<=12/\n<=l.length/\r<=1114111:=by
 match l,h with
 |a::c::t,h=>
  unfold i9 at h;dsimp only at h;cases e:gP c with
  |some k=>rw[e]at h;cases h;have:=Ds e;exact⟨by omega,by omega,by simp,by omega⟩
  |none=>rw[e]at h;dsimp only at h;split at h;obtain⟨h1,h2,b⟩:=Gk h;refine⟨by omega,by omega,?_,b⟩;simp only[Uk];omega;cases h
theorem Ai(l:Bs):(dec l).1<=1114111:=by
 have h0:=(l.getD 0 0).toNat_lt;have h1:=(l.getD 1 0).toNat_lt;have h2:=(l.getD 2 0).toNat_lt;have b:=(l.getD 3 0).toNat_lt;unfold dec decodeN;repeat' split
 all_goals (simp only;omega)
theorem Yc(c:l≠[])(h:d9 l=Td (r,n)):1<=n/\n<=12/\n<=l.length/\r<=1114111:=by
 unfold d9 at h;split at h;obtain⟨h1,h2,b,e⟩:=Tm h;exact⟨by omega,h2,b,e⟩;split at h;cases h;have h:=UO h;obtain⟨rfl,rfl⟩:r=(dec l).1/\n=(dec l).2:=by rw[h];exact⟨rfl,rfl⟩
 have h1:=j6 l;have h2:=mN c;exact⟨h1.1,by omega,h2,Ai l⟩
theorem yX:∀(f:Nat) (l:Bs),l.length<=f->∀g,l.length<=g->iD f l=iD g l
 |0,l,h,g,_=>by have:l=[]:=Vk.1 (by omega);subst this;cases g <;> simp[iD]
 |f+1,l,h,0,hg=>by have:l=[]:=Vk.1 (by omega);subst this;simp[iD]
 |f+1,l,h,g+1,hg=>by
  unfold iD;by_cases h1:l=[];rw[zA h1,zA h1];rw[za h1,za h1];by_cases h2:l.head?=Td 34;rw[zA h2,zA h2];rw[za h2,za h2];cases e:d9 l with
  |none=>rfl
  |some x=>obtain⟨r,n⟩:=x;obtain⟨b,_,c,_⟩:=Yc h1 e;have:=yX f (l.drop n) (by rw[UD];omega) g (by rw[UD];omega);dsimp only;rw[this]
theorem G6:eY []=([],0,Tc):=rfl
theorem Jy(h:l≠[]):eY l=if l.head?=Td 34 then([],1,Ta)else match d9 l with
  |none=>([],0,Tc)
  |some (r,n)=>(encodeRune (r:Int)++(eY (l.drop n)).1,n+(eY (l.drop n)).2.1,(eY (l.drop n)).2.2):=by
 have c:=U5.2 h;obtain⟨f,b⟩:∃f,l.length=f+1:=⟨l.length-1,by omega⟩;rw[eY,b,iD,za h];by_cases h2:l.head?=Td 34;rw[zA h2,zA h2];rw[za h2,za h2];cases e:d9 l with
 |none=>rfl
 |some x=>obtain⟨r,n⟩:=x;obtain⟨i,_,k,_⟩:=Yc h e;dsimp only;rw[eY,yX f (l.drop n) (by rw[UD];omega) (l.drop n).length (Uc _)]
theorem yC:∀(k:Nat) (l:Bs),l.length=k->(eY l).2.1<=l.length/\(eY l).1.length<=4*l.length:=by
 intro k;induction k using YD with
 |_ k c=>
  intro l i;by_cases h:l=[];subst h;exact⟨Uc _,Uc _⟩;have b:=U5.2 h;rw[Jy h];split;exact⟨b,by simp⟩;cases e:d9 l with
  |none=>exact⟨by simp,by simp⟩
  |some x=>
   obtain⟨r,n⟩:=x;obtain⟨m,_,p,_⟩:=Yc h e;have f:(l.drop n).length=l.length-n:=UD;have:=c (l.drop n).length (by omega) _ rfl;have o:(encodeRune (r:Int)).length<=4:=by have:=(encodeRuneZ_length (r:Int)).2;rw[encodeRune,Um];exact this
   dsimp only;rw[Uf];omega
def y8(t:Bs)(a:Nat):Bs×Nat×Int:=
 if(t.drop a).head?=Td 34 then(let q:=eY (t.drop (a+1));if q.2.2 then(q.1,a+1+q.2.1,0)else([],a+1+q.2.1,2))else([],a,2)
def Xp(t:Bs):Bs×Nat×Int:=let r:=y8 t 0;if r.2.2=0/\r.2.1<t.length then([],r.2.1,2)else r
def eR(c:UInt8):Bs:=
 if c=34\/c=92 then [92,c]else if c=8 then [92,98]else if c=12 then [92,102]else if c=10 then [92,110]else if c=13 then [92,114]else if c=9 then [92,116]
 else if c.toNat<32 then [92,117,48,48,UL (48+c.toNat / 16),UL (if c.toNat % 16<10 then 48+c.toNat % 16 else 87+c.toNat % 16)]else [c]
def Yp(l:Bs):Bs:=l.flatMap eR
def dv(l:Bs):Bs×Int:=if xd l then(34::Yp l++[34],0)else([],2)
end
section
open Go.RowKit
section
variable {h:zb} {b:Nat} {l:Bs} {r:Int} {K:Value -> zb -> Prop}
theorem FC(H:Bld h b l)(h0:0<=r)(h1:r<=1114111)(hl:l.length+4<=140737488355328)(N:∀h' n,Bld h' b (l++Lib.encodeRune r)->Keep b h h'->Itk h h'->K (.tuple #[.int .i64 n,.nilIface]) h'):
  XC Tp 198 #[.pointer (Td ⟨b,0,Te⟩),.int .i32 r] h K:=by
 apply Qs;refine q7 H λh2 C k2 z2 F=>⟨rfl,_,rfl,?_⟩;have t:=C.lt;obtain⟨p,s,e,U,w⟩:=C;have u:=w.1;rw[Lib.byteCells_length,Vz]at u;have c1:=Blk.cellAdd (o:=0) (k:=1) (v:=aK s) (cs:=#[.pointer p,aK s]) ⟨_,e⟩ rfl;refine⟨s,c1,_,rfl,s,c1,?_⟩;refine XC.of_calls λB d=>(Wx (b+1) (aK s) s.len (Lib.byteCells l) r (by omega) (by omega) (mk B d h2) w (by omega) (show b+1<=h2.size by omega)).mono ?_;rintro e' w' ⟨D,rfl,q,o,f⟩;obtain⟨m,rfl,hn⟩:∃m:Sl,D=aK m/\m.len=s.len+(Lib.runeCells r).length:=by rcases q.2 with⟨rfl,S⟩|⟨g,cap,V,rfl,_⟩;exact⟨⟨Te,0,0⟩,rfl,S.symm⟩;exact⟨⟨_,_,_⟩,rfl,rfl⟩
 have E:Owns w'.heap (b+1) 5 1 m (Lib.byteCells (l++Lib.encodeRune r)):=by
  have e1:Lib.byteCells (l++Lib.encodeRune r)=Lib.byteCells l++Lib.runeCells r:=by rw[<-Lib.byteCells_encodeRune];unfold Lib.byteCells;rw[U7]
  rw[e1];rw[<-hn]at q;exact q
 have I:w'.heap[b]?=Td (.cells #[.pointer p,aK s] 89 (0,0)):=by
  have x:=f.block b (by show b<(h2.push o).size;rw[Ur];omega) (by
   intro c;cases ha:s.a with
   |none=>rw[aK,ha]at c;cases c
   |some a=>have:=w.base_le a ha;rw[aK,ha]at c;simp only[Value.ownBlock,Ud]at c;omega)
  rw[x];show(h2.push o)[b]?=_;rw[Array.getElem?_push_lt t,<-e];simp[t]
 have J:Keep b h w'.heap:=by
  refine k2.trans ⟨?_,λi hi=>?_⟩ (Uc _);have:=f.size;have Z:(h2.push o).size<=w'.heap.size:=this;rw[Ur]at Z;omega;have x:=f.block i (by show i<(h2.push o).size;rw[Ur];omega) (by
   intro c;cases ha:s.a with
   |none=>rw[aK,ha]at c;cases c
   |some a=>have:=w.base_le a ha;rw[aK,ha]at c;simp only[Value.ownBlock,Ud]at c;omega)
  rw[x];show(h2.push o)[i]?=_;rw[Array.getElem?_push_lt (by omega)];simp[show i<h2.size by omega]
 have P:Itk h2 w'.heap:=Itk.own w λi hi y=>by
  have x:=f.block i (by show i<(h2.push o).size;rw[Ur];omega) (by
   intro c;cases ha:s.a with
   |none=>rw[aK,ha]at c;cases c
   |some a=>have:=y a ha;rw[aK,ha]at c;simp only[Value.ownBlock,Ud]at c;exact this c)
  rw[x];show(h2.push o)[i]?=_;rw[Array.getElem?_push_lt hi];simp[hi]
 refine⟨_,rfl,f.os,f.tape,f.output,m,rfl,_,rfl,?_⟩;refine vf I U E λM A G z7 L=>?_;have O:=A;obtain⟨Q,z,Y,_,_⟩:=O;exact⟨_,rfl,z,Blk.cellAdd (o:=0) (k:=1) (v:=aK z) (cs:=#[.pointer Q,aK z]) ⟨_,Y⟩ rfl,N M _ A (J.trans G (Uc _)) (F.trans (P.trans L))⟩
theorem Ie(H:Bld h b l)(h0:0<=r)(h1:r<=1114111)(c:l.length+4<=140737488355328)(e:∀h' n,Bld h' b (l++Lib.encodeRune r)->Keep b h h'->K (.tuple #[.int .i64 n,.nilIface]) h'):
  XC Tp 198 #[.pointer (Td ⟨b,0,Te⟩),.int .i32 r] h K:=
 FC H h0 h1 c λh' n a b _=>e h' n a b
def sY(c:Int):Option Nat:=let lo:=bits .or .u8 c 32
 if 97<=lo/\lo<=122 then(let d:=T9 .u8 ((T9 .u8 (lo-97))+10);if d>=16 then Te else Td d.toNat)else Te
theorem Ic:(U8 256).all (λc=>decide (48<=c/\c<=57)||(sY (c:Int)==dK (UL c)))=Ta:=by kernel_rfl
theorem Ks{c:UInt8}(h:¬(48<=c.toNat/\c.toNat<=57)):sY (c.toNat:Int)=dK c:=by have:=Us.1 Ic c.toNat (UY.2 c.toNat_lt);rw[Vq,zB]at this;rcases this with h1|h1;exact absurd h1 h;rw[beq_iff_eq]at h1;rw[h1];congr 1;rw[UInt8.ofNat_toNat]
theorem Pq:(U8 256).all (λc=>decide (0<=T9 .u8 ((T9 .u8 ((bits .or .u8 (c:Int) 32)-97))+10)))=Ta:=by kernel_rfl
theorem uX{c:Int}(b:K (.int .u8 (bits .or .u8 c 32)) h):XC Tp 387 #[.int .u8 c] h K:=by refine XC.of_calls λB d=>(Jw c (mk B d h)).mono ?_;rintro e w' ⟨rfl,rfl⟩;exact⟨_,rfl,rfl,rfl,rfl,b⟩
theorem sR:∀(a b:Bs) (n:Nat),dL n (a++b)=(dL n a).bind λm=>dL m b
 |[],b,n=>rfl
 |c::a,b,n=>by
  show(match dK c with|some d=>dL (16*n+d) (a++b)|none=>Te)=(match dK c with|some d=>dL (16*n+d) a|none=>Te).bind _;cases dK c with
  |none=>rfl
  |some d=>exact sR a b _
theorem RE(n:Nat)(c:UInt8):dL n [c]=(dK c).map λd=>16*n+d:=by show(match dK c with|some d=>dL (16*n+d) []|none=>Te)=_;cases dK c <;> rfl
theorem Rf{s:Bs}(c:∀(x:Sl) h',Keep h.size h h'->x.len=s.length->x.a=Td ⟨h.size,0,Te⟩->(∀j (b:j<s.length),zc h' ⟨h.size,j,Te⟩=Td (.int .u8 (s[j].toNat:Int)))->K (aK x) h'):
  XRun Tp (convert 9 87 (.string (bl s))) h K:=by
 intro B d;refine⟨_,_,_,Lib.run_convert_string_bytes (P:=Tp) (mk B d h) 9 87 5 (bl s) oN elemU8.slice (by kernel_rfl),?_⟩;refine c ⟨Td ⟨h.size,0,Te⟩,(bl s).size,_⟩ _ ⟨?_,λi hi=>?_⟩ (zh s) rfl λj b=>?_;show h.size<=(Lib.bytesWorld (mk B d h) 5 (bl s)).heap.size;rw[Lib.bytesWorld_size];exact Nat.le_succ _;exact Lib.bytesWorld_at_old (mk B d h) 5 (bl s) i hi;have:=Lib.bytesWorld_cell (mk B d h) 5 (bl s) j (by rw[zh];exact b);have e:(bl s).data.toList=s:=ym s;rw[e,U0,Ul b]at this;exact this
set_option maxHeartbeats 4000000 in
theorem Kf(E:l.length=4)(h1:∀n h',dL 0 l=Td n->Keep h.size h h'->K (.tuple #[.int .u64 (n:Int),.nilIface]) h') (h2:∀h',dL 0 l=Te->Keep h.size h h'->K (.tuple #[.int .u64 0,.iface 351 (.int .i64 2)]) h'):
  XC Tp 360 #[.string (bl l),.int .i64 16,.int .i64 32] h K:=by
 apply Qf;have he:((bl l:Bt).toList==((⟨#[]⟩:Bt):Bt).toList)=Tc:=by have:((bl l:Bt).toList==((⟨#[]⟩:Bt):Bt).toList)=decide (l=[]):=eB l [];rw[this,decide_eq_false_iff_not];intro e;rw[e]at E;simp at E
 refine⟨λe=>(by rw[he]at e;cases e),λ_=>?_⟩;intro K4 U;refine⟨λ_=>U _ _ _ ?_,λe=>by simp at e⟩;intro K7 N;refine⟨λe=>by simp at e,λ_=>⟨λe=>by simp at e,λ_=>N _ _ ?_⟩⟩;intro aa C;refine⟨λe=>by simp at e,λ_=>⟨λ_=>C _ _ ?_,λe=>by simp at e⟩⟩;have A:(T9 .u64 32:Int)=32:=by decide
 refine⟨by rw[A];omega,?_⟩;refine Rf λx h3 L xl xa xc=>⟨x,rfl,?_⟩;refine⟨λu n i g=>u=Tc/\g=h3/\∃(k m:Nat),k<=4/\i=(k:Int)/\n=(m:Int)/\dL 0 (l.take k)=Td m,λu n i g=>4-i.toNat,⟨rfl,rfl,0,0,by omega,rfl,rfl,rfl⟩,?_⟩;rintro u n i g ⟨rfl,rfl,k,m,hk,rfl,rfl,F⟩;have ab:m<65536:=by
  have:=vu F;have hp:(l.take k).length<=4:=by rw[UQ];omega
  have:16 ^ (l.take k).length<=16 ^ 4:=Nat.pow_le_pow_right (by omega) hp;omega
 refine⟨λD=>?_,λD=>?_⟩;have y:k<4:=by rw[zB,xl,E]at D;omega
 have t:k<l.length:=by omega
 refine⟨⟨h.size,0,Te⟩,⟨xa,by omega,by rw[zB]at D;exact D⟩,(l[k].toNat:Int),?_,?_⟩;rw[qh,Ue,Vz,UI];exact xc k t;generalize J:l[k]=c;have f:dL 0 (l.take (k+1))=(dK c).map λd=>16*m+d:=by rw[Uh t,sR,F,J];exact RE m c
 have o:dK c=Te->dL 0 l=Te:=by intro e;rw[e]at f;rw[<-Vw (k+1) l,sR,f];rfl
 have cl:=c.toNat_lt;intro M s;have fin:∀d:Int,0<=d->(d<16->dK c=Td d.toNat)->(16<=d->dK c=Te)->M Tc d g:=by
  intro d Y P G;apply s;have H:(T9 .u8 16:Int)=16:=by decide
  have q:(T9 .u64 16:Int)=16:=by decide
  rw[H,q,A];refine⟨λe=>h2 _ (o (G (by simpa using e))) L,λe=>?_⟩;have r:d<16:=by simpa using e
  have hv:=P r;rw[hv]at f;have Q:∀z:Int,0<=z->z<18446744073709551616->T9 .u64 z=z:=by
   intro z z0 z1;((try unfold hZ);unfold T9);have p:(2:Int) ^ U4 .u64=18446744073709551616:=by decide
   have O:XT .u64=Tc:=rfl;simp only[p,O,XU,UR,if_false];exact Int.emod_eq_of_lt z0 z1
  have p:T9 .u64 ((m:Int)*16)=(m:Int)*16:=Q _ (by omega) (by omega);have O:T9 .u64 d=d:=Q _ Y (by omega);have e3:T9 .u64 ((m:Int)*16+d)=(m:Int)*16+d:=Q _ (by omega) (by omega);have e4:(T9 .u64 ((T9 .u64 (1*2 ^ (min (32:Int).toNat 64)))-1):Int)=4294967295:=by decide
  rw[p,O,e3,e4];refine⟨λe=>?_,λ_=>⟨λe=>?_,λ_=>?_⟩⟩;rw[zB]at e;omega;simp only[Bool.cond_eq_ite,Bool.if_true_left,Vq,zB]at e;omega;rw[qn (n:=4) y (by omega)];refine⟨⟨rfl,rfl,k+1,16*m+d.toNat,by omega,rfl,by omega,f⟩,?_⟩;show 4-((k+1:Nat):Int).toNat<4-((k:Nat):Int).toNat;omega
 have w:(bif ((c.toNat:Int)==95)then((16:Int)==0)else Tc)=Tc:=by cases((c.toNat:Int)==95) <;> rfl
 refine⟨λe=>(by rw[w]at e;cases e),λ_=>⟨λe=>?_,λe=>?_⟩⟩;have r:48<=c.toNat/\c.toNat<=57:=by simp only[Bool.cond_eq_ite,Bool.if_false_right,Ui,zB]at e;omega
 rw[tG (by omega) (by omega)];refine fin _ (by omega) (λ_=>?_) (λZ=>by omega);unfold dK;rw[zA r];congr 1;omega;have r:¬(48<=c.toNat/\c.toNat<=57):=by simp only[Bool.cond_eq_ite,Bool.if_false_right,VW,decide_eq_false_iff_not,zB]at e;omega
 have b:=Ks r;have V:=Us.1 Pq c.toNat (UY.2 cl);rw[zB]at V;unfold sY at b;dsimp only at b;refine uX ?_;generalize B:bits .or .u8 (c.toNat:Int) 32=lo at b V ⊢;refine⟨lo,rfl,λv g'=>v=.int .u8 lo/\g'=g,λ_=>uX ?_,λ_=>⟨lo,rfl,rfl⟩,?_,?_⟩;rw[B];exact⟨lo,rfl,rfl,rfl⟩;rintro _ v g' ⟨rfl,_⟩;exact⟨lo,rfl⟩;rintro x g' ⟨p,rfl⟩;injection p with _ p;subst p;refine⟨λI=>uX ?_,λI=>?_⟩;rw[B];refine⟨x,rfl,?_⟩;have S:97<=x/\x<=122:=by simp only[Bool.cond_eq_ite,Bool.if_false_right,Ui,zB]at I;omega
 rw[zA S]at b;refine fin _ V (λZ=>?_) (λZ=>?_);rw[za (by omega)]at b;exact b.symm;rw[zA (by omega)]at b;exact b.symm;have S:¬(97<=x/\x<=122):=by simp only[Bool.cond_eq_ite,Bool.if_false_right,VW,decide_eq_false_iff_not,zB]at I;omega
 rw[za S]at b;exact h2 _ (o b.symm) L;have y:k=4:=by rw[decide_eq_false_iff_not,xl,E]at D;omega
 refine⟨λv g'=>g'=g,(λe=>by cases e),(λ_=>⟨Ta,rfl⟩),(λe=>by cases e),?_⟩;rintro x g' rfl;refine⟨λe=>(by cases e),λ_=>h1 _ _ ?_ L⟩;rw[Vi (by omega)]at F;exact F
end
section
theorem Nb{z:UInt8}(h:128<=z.toNat):Lib.indexByte [95] z=-1:=by
 have:z≠95:=by rintro rfl;revert h;decide
 unfold Lib.indexByte;simp[Lib.indexByte,this.symm]
theorem QH{z:UInt8}:Lib.indexByte [] z=-1:=by simp[Lib.indexByte]
def VR(r:Int)(e:Ending):Prop:=∃b,e=.returned (.bool b)/\(b=Ta->(0<=r/\r<55296)\/(57343<r/\r<=1114111))
set_option maxHeartbeats 4000000 in
set_option maxRecDepth 1000000 in
theorem QQ(r:Int)(w:World):Calls Tp 394 #[.int .i32 r] w λe w'=>VR r e/\w'=w:=by
 have mixed:=Tryz.mixed
 go_enter Tryz.func394,Tryz.ntmps394
 by_cases h1:0<=r <;> by_cases h2:r<55296 <;> by_cases c:57343<r <;> by_cases b:r<=1114111 <;> (go_wp2;go_ret;exact⟨⟨_,rfl,λh=>by first|omega|cases h⟩,rfl⟩)
theorem Ra(r:Int)(h:128<=r):(∃a z:UInt8,YN r=⟨#[a,z]⟩/\128<=z.toNat)\/(∃a b z:UInt8,YN r=⟨#[a,b,z]⟩/\128<=z.toNat)\/(∃a b c z:UInt8,YN r=⟨#[a,b,c,z]⟩/\128<=z.toNat):=by
 have f:∀n:Nat,128<=(UL (128+n % 64)).toNat:=λn=>by have:(UL (128+n % 64)).toNat=(128+n % 64) % 256:=UInt8.toNat_ofNat;rw[this,Nat.mod_eq_of_lt (by omega)];omega
 have i:∃c:Nat,128<=c/\(if Utf8.valid r then r.toNat else Utf8.runeError)=c:=by refine⟨_,?_,rfl⟩;split;omega;decide
 obtain⟨c,k,e⟩:=i;unfold YN;simp only[e];rw[za (by omega)];by_cases h1:c<2048;rw[zA h1];exact .inl ⟨_,_,rfl,f _⟩;rw[za h1];by_cases h2:c<65536;rw[zA h2];exact .inr (.inl ⟨_,_,_,rfl,f _⟩);rw[za h2];exact .inr (.inr ⟨_,_,_,_,rfl,f _⟩)
def IR(e:Ending):Prop:=∃n,e=.returned (.int .i64 n)
set_option maxHeartbeats 4000000 in
set_option maxRecDepth 1000000 in
theorem Tj(r:Int)(w:World)(h1:128<=r)(h2:r≠65533):Calls Tp 369 #[.string ⟨#[43,45,95]⟩,.int .i32 r] w λe w'=>IR e/\Below w.heap.size w w':=by
 have mixed:=Tryz.mixed;have m:∀args w,(callFunc 319 args).run Tp w=.ok (.enter 319 args) w:=enters_of Tryz.func319 (by kernel_rfl) rfl;have n:∀args w,(callFunc 394 args).run Tp w=.ok (.enter 394 args) w:=enters_of Tryz.func394 (by kernel_rfl) rfl;have p:¬r<128:=by omega
 go_enter Tryz.func369,Tryz.ntmps369
 go_wp2_with (go_at_fn 394;refine(QQ _ _).mono ?_;rintro e w' ⟨⟨b,rfl,q⟩,o⟩;rw[o];cases b)
 go_ret
 exact⟨⟨_,rfl⟩,Below.refl _ _⟩
 ·rcases Ra r h1 with⟨a,z,k,l⟩|⟨a,b,z,k,l⟩|⟨a,b,c,z,k,l⟩
  ·have f:=λ(w:World)=>run_convert_int_string (P:=Tp) w 21 9 .i32 r (by kernel_rfl) (by kernel_rfl);rw[k]at f;refine wp_scope_straight ?_
   go_wp2
   go_loop [9] (λv=>v=.int .i64 1) (λ_=>0)
   case atStart=>rfl
   case round=>
    subst hrel
    go_wp2
    refine wp_scope_straight ?_;have i:((45:Int) != (z.toNat:Int))=Ta:=bne_iff_ne.2 (by omega)
    go_wp2
    go_region
    simp only[show ∀h,((⟨#[43,45,95]⟩:Bt)[1]'h)=45 from λ_=>rfl,show ∀h,((⟨#[a,z]⟩:Bt)[1]'h)=z from λ_=>rfl,show((45:UInt8).toNat:Int)=45 from rfl,i];all_goals go_wp2
    all_goals go_region_with (go_at_call 319;refine(jv _ _ _).mono ?_;rintro e w' ⟨rfl,rfl⟩)
    all_goals simp only[show ∀h,((⟨#[a,z]⟩:Bt)[1]'h)=z from λ_=>rfl,Nb l]
    all_goals go_wp2
    all_goals simp only[Exit.noGoto,Exit.inBlock]
    all_goals go_wp2
    all_goals simp only[Exit.noGoto,Exit.inBlock]
    all_goals go_wp2
    all_goals go_ret
    all_goals exact⟨⟨_,rfl⟩,BN w 2⟩
  ·have f:=λ(w:World)=>run_convert_int_string (P:=Tp) w 21 9 .i32 r (by kernel_rfl) (by kernel_rfl);rw[k]at f;refine wp_scope_straight ?_
   go_wp2
   go_loop [9] (λv=>v=.int .i64 2) (λ_=>0)
   case atStart=>rfl
   case round=>
    subst hrel
    go_wp2
    refine wp_scope_straight ?_;have i:((95:Int) != (z.toNat:Int))=Ta:=bne_iff_ne.2 (by omega)
    go_wp2
    go_region
    simp only[show ∀h,((⟨#[43,45,95]⟩:Bt)[2]'h)=95 from λ_=>rfl,show ∀h,((⟨#[a,b,z]⟩:Bt)[2]'h)=z from λ_=>rfl,show((95:UInt8).toNat:Int)=95 from rfl,i];all_goals go_wp2
    all_goals go_region_with (go_at_call 319;refine(jv _ _ _).mono ?_;rintro e w' ⟨rfl,rfl⟩)
    all_goals simp only[show ∀h,((⟨#[a,b,z]⟩:Bt)[2]'h)=z from λ_=>rfl,QH]
    all_goals go_wp2
    all_goals simp only[Exit.noGoto,Exit.inBlock]
    all_goals go_wp2
    all_goals simp only[Exit.noGoto,Exit.inBlock]
    all_goals go_wp2
    all_goals go_ret
    all_goals exact⟨⟨_,rfl⟩,BN w 2⟩
  ·have f:=λ(w:World)=>run_convert_int_string (P:=Tp) w 21 9 .i32 r (by kernel_rfl) (by kernel_rfl);rw[k]at f;refine wp_scope_straight ?_
   go_wp2
   go_loop [9] (λv=>v=.int .i64 3) (λ_=>0)
   case atStart=>rfl
   case round=>
    subst hrel
    go_wp2
    go_ret
    exact⟨⟨_,rfl⟩,Below.refl _ _⟩
end
end
section
open Go.Lib
def vp(l:Bs):Prop:=∀c∈l,c.toNat<128
theorem yK(cs:Bs):∀l:Bs,containsAny l cs=l.any λc=>cs.contains c
 |[]=>by simp[containsAny,indexAny]
 |c::l=>by
  have h:=yK cs l;have f:=indexAny_ge cs l;rw[List.any_cons,<-h];unfold containsAny;rw[indexAny];by_cases b:cs.contains c=Ta;rw[zA b,b];simp;have e:cs.contains c=Tc:=by simpa using b
  rw[za b,e,XN];by_cases h1:indexAny l cs=-1;simp[h1];have i:(indexAny l cs==-1)=Tc:=by rw[beq_eq_false_iff_ne];exact h1
  rw[i,za (by simp),Uy,zB,zB];omega
end
section
theorem Xv(gl:Fr)(c:Bt)(b:Bt)(R:Bool->Prop) (H:PC Tp gl 391 [Arg.mk .str c,Arg.mk .str b] [.int .i64] (λa:Int=>R (decide (a>=0)))):
  PC Tp gl 365 [Arg.mk .str c,Arg.mk .str b] [.bool] R:=
 PF ⟨[],[],[],[]⟩ [.tmp 4] 9 Tryz.func365 H
theorem MD(gl:Fr)(l:Bt)(k:Bt)(R:Int->Prop) (H:((k.toList==(⟨#[]⟩:Bt).toList)=Ta->R (-1))/\((k.toList==(⟨#[]⟩:Bt).toList)=Tc->(((k.size:Int)==1)=Ta->(0<=(0:Int)/\(0:Int)<(k.size:Int))/\∀a:Int->Prop,(∀b:Int,(PC Tp gl 369 [Arg.mk .str l,Arg.mk (.int .i32) b] [.int .i64] (λc:Int=>R c))->a b)->((decide ((T9 .i32 (ze k (0:Int).toNat))>=128))=Ta->a 65533)/\((decide ((T9 .i32 (ze k (0:Int).toNat))>=128))=Tc->a (T9 .i32 (ze k (0:Int).toNat))))/\(((k.size:Int)==1)=Tc->∀d:Prop,((∃(e:(Bt×Nat)->Prop) (f:(Bt×Nat)->Nat),e (l,0)/\∀h:Bt×Nat,e h->(((dy h.1 h.2)=Ta->(dy h.1 h.2)=Ta/\(dy h.1 h.2)=Ta/\PC Tp gl 369 [Arg.mk .str k,Arg.mk (.int .i32) (eA h.1 h.2)] [.int .i64] (λg:Int=>(decide (g>=0)=Ta->R (h.2:Int))/\(decide (g>=0)=Tc->(e (h.1,dE h.1 h.2)/\f (h.1,dE h.1 h.2)<f h))))/\((dy h.1 h.2)=Tc->R (-1))))->d)->PC Tp gl 404 [Arg.mk p3 (l.size:Int)] [.bool] (λi:Bool=>(i=Ta->False)/\(i=Tc->d))))):
  PC Tp gl 391 [Arg.mk .str l,Arg.mk .str k] [.int .i64] R:=
 PF ⟨[],[],[(18,⟨[],[(45,[.dat .iter])],[],[1002880]⟩)],[(7,⟨[(5,.one (.dat (.int .i32)))],[],[],[100320]⟩),(17,⟨[],[],[],[]⟩)]⟩ [.tmp 4] 55 Tryz.func391 H
theorem Ql(gl:Fr)(h:Bt)(f:Int)(R:Int->Prop) (H:((bif (decide ((0:Int)<=f))then(decide (f<128))else Tc)=Ta->PC Tp gl 319 [Arg.mk .str h,Arg.mk (.int .u8) (T9 .u8 f)] [.int .i64] (λa:Int=>R a))/\((bif (decide ((0:Int)<=f))then(decide (f<128))else Tc)=Tc->((f==65533)=Ta->∃(b:(Bt×Nat)->Prop) (c:(Bt×Nat)->Nat),b (h,0)/\∀e:Bt×Nat,b e->(((dy e.1 e.2)=Ta->(dy e.1 e.2)=Ta/\(dy e.1 e.2)=Ta/\(((eA e.1 e.2:Int)==65533)=Ta->R (e.2:Int))/\(((eA e.1 e.2:Int)==65533)=Tc->(b (e.1,dE e.1 e.2)/\c (e.1,dE e.1 e.2)<c e)))/\((dy e.1 e.2)=Tc->R (-1))))/\((f==65533)=Tc->PC Tp gl 394 [Arg.mk (.int .i32) f] [.bool] (λd:Bool=>((!d)=Ta->R (-1))/\((!d)=Tc->False))))):
  PC Tp gl 369 [Arg.mk .str h,Arg.mk (.int .i32) f] [.int .i64] R:=
 PF ⟨[],[],[(38,⟨[],[(175,[.dat .iter])],[],[1011200]⟩)],[]⟩ [.tmp 4] 187 Tryz.func369 H
theorem Qt(gl:Fr)(b:Int)(R:Bool->Prop) (H:R (decide (b>8))):
  PC Tp gl 404 [Arg.mk p3 b] [.bool] R:=
 PF ⟨[],[],[],[]⟩ [.tmp 2] 5 Tryz.func404 H
end
section
open Go.RowKit
section
variable {gl:Fr} {R:Int -> Prop}
theorem zV{f:FuncId}{args:List Arg}{us:List Value}(c:il args=Td us)(l:∀n,R n)
  (H:∀w:World,Calls Tp f us.toArray w λe w'=>IR e/\Below w.heap.size w w'):PC Tp gl f args [.int .i64] R:=by
 intro h M vs m ag i;rw[oT c i];refine XC.of_calls λB d=>(H (mk B d h)).mono ?_;rintro e w' ⟨⟨n,rfl⟩,b⟩;have k:Keep h.size h w'.heap:=⟨b.size,b.block⟩;exact⟨_,rfl,b.os,b.tape,b.output,k,M,n,Fr.le.refl _,λ_ _=>rfl,ag.keep k,ER _ _,l n⟩
theorem Mh{r:Int}(k:0<=r)(b:∀n,R n):PC Tp gl 369 [Arg.mk .str (bl [43,45,95]),Arg.mk (.int .i32) r] [.int .i64] R:=by
 by_cases h1:r<128;apply Ql;have e:(bif decide ((0:Int)<=r)then decide (r<128)else Tc)=Ta:=by simp[k,h1]
 rw[e];exact⟨λ_=>tP (b _),λc=>by cases c⟩;by_cases h2:r=65533;subst h2;apply Ql;refine⟨λ_=>tP (b _),λ_=>⟨λ_=>?_,λc=>by cases c⟩⟩;refine⟨λq=>∃p:Nat,q=(bl [43,45,95],p),λq=>3-q.2,⟨0,rfl⟩,?_⟩;rintro q ⟨p,rfl⟩;simp only[mc];refine⟨λf=>⟨f,f,λ_=>b _,λ_=>⟨⟨_,rfl⟩,?_⟩⟩,λ_=>b _⟩;have h:p < [43,45,95].length:=by simpa using f
 have i:p<3:=h;rw[iH _ _ h];have:=(j6 (([43,45,95]:Bs).drop p)).1;omega;exact zV (us:=[.string ⟨#[43,45,95]⟩,.int .i32 r]) rfl b λw=>Tj r w (by omega) h2
theorem K0(w:World)(b c:Obj):Below w.heap.size w ((w.alloc b).alloc c):=((Below.refl _ w).alloc (Uc _) b).alloc (by show w.heap.size<=(w.heap.push b).size;simp) c
theorem KR(l:Bs):(0:Int)<=((dec l).1:Int):=Int.natCast_nonneg _
theorem TP{l:Bs}(B:l.length<=9){R:Bool->Prop}(h1:vp l->R (l.any λc=>[43,45,95].contains c))(h2:¬vp l->∀b,R b):PC Tp gl 365 [Arg.mk .str (bl l),Arg.mk .str (bl [43,45,95])] [.bool] R:=by
 have i:∀(j:Nat) (b:UInt8),([43,45,95]:Bs)[j]?=Td b->b.toNat<128:=by intro j b f;have:b∈([43,45,95]:Bs):=Vf f;simp at this;rcases this with rfl|rfl|rfl <;> decide
 by_cases m:vp l;refine Rq (s:=bl l) (c:=bl [43,45,95]) (by rw[zh];omega) (by rw[zh];decide) ?_ ?_ ?_;rw[ym];exact λj b f=>m b (Vf f);rw[ym];exact i;rw[ym,ym,yK];exact h1 m;have f:=h2 m;apply Xv;by_cases A:l.length<=8;apply MD;have y:((bl [43,45,95]).toList==(⟨#[]⟩:Bt).toList)=Tc:=by rw[QA,ym];rfl
 have r:((((bl [43,45,95]).size:Int))==1)=Tc:=by rw[zh];rfl
 rw[y,r];refine⟨λh=>(by cases h),λ_=>⟨λh=>(by cases h),λ_ K o=>?_⟩⟩;apply Qt;have z:decide (((bl l).size:Int)>8)=Tc:=by rw[zh];simp;omega
 rw[z];refine⟨λh=>(by cases h),λ_=>o ?_⟩;refine⟨λq=>∃p:Nat,q=(bl l,p),λq=>l.length-q.2,⟨0,rfl⟩,?_⟩;rintro q ⟨p,rfl⟩;simp only[mc];refine⟨λk=>⟨k,k,?_⟩,λ_=>f _⟩;have x:p<l.length:=by simpa using k
 refine Mh (by rw[k0];exact KR _) λn=>⟨λ_=>f _,λ_=>⟨⟨_,rfl⟩,?_⟩⟩;rw[iH _ _ x];have:=(j6 (l.drop p)).1;omega;refine zV (us:=[.string (bl l),.string (bl [43,45,95])]) rfl (λn=>f _) λw=>?_;have u:=(zero_of_info (P:=Tp) (t:=280) (v:=.agg (VL 256 (.bool Tc))) (n:=256) (by kernel_rfl)).1;refine(Xa u (bl l) (bl [43,45,95]) w (by rw[zh];decide) (by rw[zh];omega) (by rw[zh];omega) (by rw[zh];decide) i).mono ?_;rintro e w' ⟨rfl,rfl⟩;exact⟨⟨_,rfl⟩,K0 w _ _⟩
end
section
variable {gl:Fr} {l:Bs}
theorem Nx{gl M:Fr}(k:qM gl)(f:Fr.le gl M){h:zb}(ag:AgM M h){fn s:Bt}(i:s.size<=281474976710656){b n:Int}{K:Value->zb->Prop}(p:∀t u h',Keep h.size h h'->K (.iface t u) h'):
  XC Tp 314 #[.string fn,.string s,.int .i64 b,.int .i64 n,.iface 351 (.int .i64 2)] h K:=by
 obtain⟨⟨cs,l,m,q,o⟩,_⟩:=k;refine XC.of_calls λB d=>(Ju fn s b n l (mk B d h) i (AgM.glob (w:=mk B d h) ag (f _ _ m) q) o).mono ?_;rintro e w' ⟨N,rfl,h1,h2,c⟩;exact⟨_,rfl,c.os,c.tape,c.output,p _ _ _ ⟨c.size,c.block⟩⟩
theorem uS:∀{l:Bs} {c:UInt8} (n:Nat),c∈l->dK c=Te->dL n l=Te
 |x::l,c,n,b,hv=>by
  show(match dK x with|some d=>dL (16*n+d) l|none=>Te)=Te;rcases Uj.1 b with rfl|b;rw[hv];cases dK x with
  |none=>rfl
  |some d=>exact uS _ b hv
theorem Az{c:UInt8}(h:c.toNat<48\/c=95\/128<=c.toNat):dK c=Te:=by
 have h':c.toNat<48\/c.toNat=95\/128<=c.toNat:=by rcases h with h|rfl|h <;> simp[*]
 unfold dK;rw[za (by omega),za (by omega),za (by omega)]
theorem JX(i:GL gl)(c:l.length=4){R:Int×Bool->Prop}(h1:∀n:Nat,dL 0 l=Td n->R ((n:Int),Ta))(h2:dL 0 l=Te->R (0,Tc)):
  PC Tp gl 411 [Arg.mk .str (bl l),Arg.mk p3 16,Arg.mk p3 32] [.int .u64,.err] R:=by
 intro h M vs f ag o
 match vs,o with
 |[u1,u2,u3],⟨a1,a2,a3,_⟩=>obtain rfl:=ju a1;obtain rfl:=qz a2;obtain rfl:=qz a3;apply PX.of;apply Ti;refine Kf c (λn h' e k=>?_) (λh' e k=>?_);exact⟨(n:Int),.nilIface,rfl,rfl,λb=>(by cases b),λ_=>⟨M,((n:Int),Ta),Later.same ag k,yI _ _,h1 n e⟩⟩;refine⟨0,.iface _ _,rfl,rfl,λ_=>?_,λb=>(by cases b)⟩;refine Nx i.err f (ag.keep k) (by rw[zh];omega) λt u p m=>⟨_,rfl,M,(0,Tc),Later.same ag (k.trans m k.size),vj _ _ _ _,h2 e⟩
theorem Ci(t:GL gl)(y:l.length<=1152921504606846976){R:Int×Bool->Prop}(h1:∀n:Nat,dH l=Td n->R ((n:Int),Ta))(h2:dH l=Te->∀v,R (v,Tc)):
  PC Tp gl 410 [Arg.mk .str (bl l)] [.int .i32,.bool] R:=by
 apply Iq;simp only[zh,qe,show(0:Int).toNat=0 from rfl,show(4:Int).toNat=4 from rfl,VD,Nat.sub_zero];by_cases x:l.length<4;have e:decide (((l.length:Nat):Int)<4)=Ta:=by rw[zB];omega
 have u:dH l=Te:=by unfold dH;rw[za (by omega)]
 simp only[e];exact⟨λi=>(by cases i),λ_=>True,λi=>(by cases i),λr _=>⟨λ_=>h2 u 0,λi=>(by cases i)⟩⟩;have e:decide (((l.length:Nat):Int)<4)=Tc:=by rw[decide_eq_false_iff_not];omega
 simp only[e];have f:dH l=dL 0 (l.take 4):=by unfold dH;rw[zA (by omega)]
 have s:(l.take 4).length=4:=by rw[UQ];omega
 refine⟨λ_=>⟨by omega,by omega,by omega⟩,λr=>r=Ta->dH l=Te,λ_=>?_,λr w=>⟨λi=>h2 (w rfl i) 0,λi=>⟨⟨by omega,by omega,by omega⟩,?_⟩⟩⟩;refine TP (l:=l.take 4) (by omega) (λq o=>?_) (λq b o=>?_);obtain⟨c,k,h⟩:=List.any_eq_true.1 o;rw[f];refine uS 0 k (Az ?_);simp at h;rcases h with rfl|rfl|rfl;left;decide;left;decide;right;left;rfl;rw[f];have:∃c∈l.take 4,128<=c.toNat:=by refine WB λp=>q λc k=>?_;refine WB λz=>p ⟨c,k,by omega⟩
 obtain⟨c,k,h⟩:=this;exact uS 0 k (Az (.inr (.inr h)));refine JX t s (λn m=>?_) (λm=>h2 (f.trans m) _);have p:=jN (f.trans m);have:=h1 n (f.trans m);rw[Qd (by omega) (by omega)];exact this
end
section
variable {M:Fr} {h:zb} {K:Value -> zb -> Prop} {b o c:Nat}
def Brn(gl:Fr):Prop:=∃cs:Array Value,gl 7=Td cs/\cs[15]?=Td (.int .u8 4)
theorem Brn.mono{gl M:Fr}(h:Brn gl)(le:Fr.le gl M):Brn M:=by obtain⟨cs,e,h⟩:=h;exact⟨cs,le _ _ e,h⟩
theorem Io(c:K (.bool Ta) h):XC Tp 354 #[.int .i64 16] h K:=by apply Zo;exact Eq.mpr (congrArg (λb=>K (.bool b) h) (by kernel_rfl)) c
theorem GK(f:Brn M)(ag:AgM M h)(c:K (.int .i64 4) h):XC Tp 355 #[.int .u64 16] h K:=by
 obtain⟨cs,e,i⟩:=f;apply Yo;refine⟨λb=>(by cases b),λ_=>?_⟩;apply Qr;refine⟨λb=>(by cases b),λ_=>⟨_,⟨rfl,by decide +kernel,by decide +kernel⟩,4,?_,4,rfl,c⟩⟩;have key:∀n:Nat,n=15->zc h (Ua ⟨7,0,Te⟩ n)=Td (.int .u8 4):=by rintro n rfl;exact ag.cell e i
 exact key _ (by kernel_rfl)
def BD:Bs:=[48,49,50,51,52,53,54,55,56,57,97,98,99,100,101,102,103,104,105,106,107,108,109,110,111,112,113,114,115,116,117,118,119,120,121,122]
def gG(k:Nat):UInt8:=BD[k]?.getD 0
theorem EB(k:Nat):ze (⟨#[48,49,50,51,52,53,54,55,56,57,97,98,99,100,101,102,103,104,105,106,107,108,109,110,111,112,113,114,115,116,117,118,119,120,121,122]⟩:Bt) k=((gG k).toNat:Int):=qc BD k
def cZ(c:Nat):Bs:=if c<16 then [gG c]else [gG 1,gG (c % 16)]
def z65:Array Value:=g8
theorem RV:qj Tp 5=Ta:=by kernel_rfl
theorem Sf:jg Tp 5=1:=by kernel_rfl
theorem wG{l:Bs}{cap:Nat}(f:∀j (c:j<l.length),zc h ⟨b,o+j,Te⟩=Td (.int .u8 (l[j].toNat:Int)))(e:K (.string (bl l)) h):
  XRun Tp (convert 87 9 (.slice (Td ⟨b,o,Te⟩) l.length cap)) h K:=by
 intro B d;refine⟨_,d,h,run_convert_bytes_back (P:=Tp) (mk B d h) 87 9 5 ⟨b,o,Te⟩ cap l Tryz.underlying87 Tryz.underlying5 Tryz.underlying9 λj c=>?_,e⟩;rw[tY,zj];exact f j c
theorem KC(b:c<18446744073709551616):T9 .u64 (((Vs (U4 .u64) (c:Int)) &&& (Vs (U4 .u64) (15:Int))).toNat:Int)=((c % 16:Nat):Int):=by rw[show(15:Int)=((15:Nat):Int)from rfl,Gi b (by decide)];congr 1;exact Nat.and_two_pow_sub_one_eq_mod c 4
theorem sS{k:Nat}(h:k<36):0<=(k:Int)/\(k:Int)<(((⟨#[48,49,50,51,52,53,54,55,56,57,97,98,99,100,101,102,103,104,105,106,107,108,109,110,111,112,113,114,115,116,117,118,119,120,121,122]⟩:Bt)).size:Int):=by have:(((⟨#[48,49,50,51,52,53,54,55,56,57,97,98,99,100,101,102,103,104,105,106,107,108,109,110,111,112,113,114,115,116,117,118,119,120,121,122]⟩:Bt)).size:Int)=36:=rfl;rw[this];omega
theorem AM{g:zb}{cs:Array Value}(B:Blk g b cs)(c:o<cs.size){x:Int}{K:zb->Prop}(e:∀g',Blk g' b (cs.setIfInBounds o (.int .u8 x))->g'.size=g.size->(∀i,i≠b->g'[i]?=g[i]?)->K g'):XRunU Tp (Ub 5 (.pointer (Td ⟨b,o,Te⟩)) (.int .u8 x)) g K:= qo RV Sf B c rfl e
set_option maxRecDepth 100000 in
set_option maxHeartbeats 4000000 in
theorem Gv(hc:c<32)(U:Brn M)(ag:AgM M h)(Y:∀h',Keep h.size h h'->K (.tuple #[.slice Te 0 0,.string (bl (cZ c))]) h'):
  XC Tp 303 #[.slice Te 0 0,.int .u64 (c:Int),.int .i64 16,.bool Tc,.bool Tc] h K:=by
 refine Z9 ⟨Te,0,0⟩ (c:Int) 16 Tc Tc h K ?_;intro K2 F;refine⟨λb=>(by simp at b),λ_=>F _ ?_⟩;intro Q;obtain⟨P,z3,Z⟩:=jf (g:=Q) rfl;clear_value Q;have H:=ag.keep P;intro K6 C;refine⟨λb=>(by cases b),λ_=>C _ _ ?_⟩;intro K9 G;have B:T9 .u64 16=16:=by decide
 have I:T9 .u64 (16-1)=15:=by decide
 rw[B,I];refine Io ⟨Ta,rfl,λ_=>?_,λb=>(by cases b)⟩;refine GK U H ⟨_,rfl,?_⟩;have p:z65.size=65:=rfl;have fin:∀(g:zb) (cs:Array Value) (u i:Nat),Keep h.size h g->Blk g h.size cs->cs.size=65->u<16->1<=i->i<=65->(∀j,j<65-i->∃x:UInt8,(cZ c)[j+1]?=Td x/\cs[i+j]?=Td (.int .u8 (x.toNat:Int)))->(cZ c).length=66-i->(cZ c)[0]?=Td (gG u) ->
   XRunU Tp (Ub 5 (.pointer (Td (Ua ⟨h.size,0,Te⟩ (((i-1:Nat):Int).toNat*1)))) (.int .u8 (ze (⟨#[48,49,50,51,52,53,54,55,56,57,97,98,99,100,101,102,103,104,105,106,107,108,109,110,111,112,113,114,115,116,117,118,119,120,121,122]⟩:Bt) ((u:Int)).toNat))) g (λz=>K9 (((i-1:Nat):Int)) z):=by
  intro g cs u i m r y hu S hi2 n t e;rw[Ue,Ue,Vz,EB];rw[zj,UI];refine AM r (by rw[y];omega) λO N z2 J=>G _ _ ?_;intro V s;refine⟨λb=>(by cases b),λ_=>s _ _ ?_⟩;refine⟨λb=>(by cases b),λ_=>⟨⟨by omega,by omega,by omega⟩,?_⟩⟩;have E:Keep h.size h O:=⟨by have:=m.size;omega,λj l=>(J j (by omega)).trans (m.get j l)⟩;have D:VV (de (Td ⟨h.size,0,Te⟩) 1 ((i-1:Nat):Int).toNat 65) ((65:Int).toNat-((i-1:Nat):Int).toNat) (65-((i-1:Nat):Int).toNat)=.slice (Td ⟨h.size,i-1,Te⟩) (cZ c).length (65-(i-1)):=by rw[Ue,t,show(65:Int).toNat-(i-1)=66-i from by have:(65:Int).toNat=65:=rfl;omega];congr 1;unfold de;rw[za (by omega)];simp only[XK,zj,UI,Vz]
  rw[D];refine wG (λj l=>?_) ⟨_,rfl,Y _ E⟩;refine N.cell ?_;rw[Array.getElem?_setIfInBounds];cases j with
  |zero=>rw[WP,zA rfl,zA (by rw[y];omega)];rw[Ul l]at e;rw[UO e]
  |succ j=>rw[za (by omega)];obtain⟨x,w,A⟩:=n j (by omega);rw[show i-1+(j+1)=i+j from by omega,A];rw[Ul l]at w;rw[UO w]
 refine⟨λu i g=>Keep h.size h g/\((u=(c:Int)/\i=65/\Blk g h.size z65)\/(16<=c/\u=1/\i=64/\Blk g h.size (z65.setIfInBounds 64 (.int .u8 ((gG (c % 16)).toNat:Int))))),λu _ _=>u.toNat,⟨P,.inl ⟨rfl,rfl,Z⟩⟩,?_⟩;rintro u i g ⟨m,⟨rfl,rfl,r⟩|⟨f,rfl,rfl,r⟩⟩;refine⟨λb=>?_,λb=>?_⟩;have f:16<=c:=by have:=zC b;omega
 rw[KC (by omega)];have cK:hZ ((65:Int)-1)=64:=by decide
 rw[cK];refine⟨sS (by omega),_,⟨rfl,by decide,by decide⟩,?_⟩;rw[Ue,EB,zj];refine AM (o:=64) r (by rw[p];omega) λO N z2 J=>⟨by decide,⟨⟨by have:=m.size;omega,λj l=>(J j (by omega)).trans (m.get j l)⟩,.inr ⟨f,?_,rfl,N⟩⟩,?_⟩;have:(min (T9 .u64 4).toNat 64)=4:=by decide
 rw[this];show(c:Int).fdiv 16=1;rw[Int.fdiv_eq_ediv_of_nonneg _ (by decide)];omega;have:(min (T9 .u64 4).toNat 64)=4:=by decide
 rw[this];show((c:Int).fdiv 16).toNat<(c:Int).toNat;rw[Int.fdiv_eq_ediv_of_nonneg _ (by decide)];omega;have f:c<16:=by have:=zD b;omega
 have cK:hZ ((65:Int)-1)=((65-1:Nat):Int):=by decide
 rw[cK];refine⟨sS (by omega),_,⟨rfl,by decide,by decide⟩,?_⟩;have q:cZ c=[gG c]:=by unfold cZ;rw[zA f]
 exact fin g z65 c 65 m r rfl f (by omega) (by omega) (λj l=>by omega) (by rw[q];rfl) (by rw[q];rfl);refine⟨λb=>?_,λb=>?_⟩;exact absurd (zC b) (by omega);have L:hZ ((64:Int)-1)=((64-1:Nat):Int):=by decide
 rw[L];refine⟨sS (k:=1) (by omega),_,⟨rfl,by decide,by decide⟩,?_⟩;have q:cZ c=[gG 1,gG (c % 16)]:=by unfold cZ;rw[za (by omega)]
 refine fin g _ 1 64 m r (by simp[p]) (by omega) (by omega) (by omega) (λj l=>?_) (by rw[q];rfl) (by rw[q];rfl);have:j=0:=by omega
 subst this;exact⟨_,by rw[q];rfl,by rw[Array.getElem?_setIfInBounds,zA rfl,zA (by rw[p];omega)]⟩
theorem G9(i:c<32)(f:Brn M)(ag:AgM M h)(e:∀h',Keep h.size h h'->K (.string (bl (cZ c))) h'):XC Tp 199 #[.int .i64 (c:Int),.int .i64 16] h K:=by apply LO;apply Qg;refine⟨λm=>(by simp at m),λ_=>?_⟩;have b:T9 .u64 (c:Int)=(c:Int):=SC (by omega) (by omega);have l:decide ((c:Int)<0)=Tc:=zF (by omega);rw[b,l];exact Gv i f ag λh' k=>⟨⟨Te,0,0⟩,_,rfl,_,rfl,e h' k⟩
end
end
end Go.X
namespace Go.Proofs.YtplilfikcimcbaaGreatDoor
section
open Go.ChangeShapes Go.WideShapes Go.ChangeAt Go.RowKit Go.Lib
set_option linter.unusedVariables false
section
theorem LZ{W:World}(h:laidMetH UN fX W):Brn (Fz W):=by
 have hl:laidMet UN fX W:=by rw[MakeChecks.laidMetH_plain _ _ _ (by kernel_rfl)]at h;exact h
 have hv : VarReads Tryz.prog W "math/bits.deBruijn64tab" (tabData .u8 [0, 1, 56, 2, 57, 49, 28, 3, 61, 58, 42, 50, 38, 29, 17, 4, 62, 47, 59, 36, 45, 43, 51, 22, 53, 39, 33, 30, 24, 18, 12, 5, 63, 55, 48, 27, 60, 41, 37, 16, 46, 35, 44, 21, 52, 32, 23, 11, 54, 26, 40, 15, 34, 20, 31, 10, 25, 14, 19, 9, 13, 8, 7, 6]) := by
  have := Go.Lib.laidMet.reads hl (List.mem_of_getElem? (show fX[1]? = some ("math/bits.deBruijn64tab", Rows.laid_math_bits_deBruijn64tab) from rfl));have e:(Rows.laid_math_bits_deBruijn64tab:DataW Unit)=tabData .u8 [0,1,56,2,57,49,28,3,61,58,42,50,38,29,17,4,62,47,59,36,45,43,51,22,53,39,33,30,24,18,12,5,63,55,48,27,60,41,37,16,46,35,44,21,52,32,23,11,54,26,40,15,34,20,31,10,25,14,19,9,13,8,7,6]:=by kernel_rfl
  rw[<-e];exact this
 obtain⟨cs,h1,h2⟩:=uP (g:=7) (t:=385) (e:=5) (m:=64) (by kernel_rfl) (by kernel_rfl) (by kernel_rfl) (by kernel_rfl) (by kernel_rfl) (by kernel_rfl) hv;exact⟨cs,h1,by rw[<-VF,h2];rfl⟩
end
end
end Go.Proofs.YtplilfikcimcbaaGreatDoor
namespace Go.X
section
open Go.RowKit
variable {b:Nat} {h h':zb} {s:Sl} {ln:Bool} {nd:Int} {l:Bs} {K:Value -> zb -> Prop}
def nU(o:Obj):Bool:=match o with
 |.cells _ T _=>!(Nat.beq T 5) && !(Nat.beq T 207)
 |_=>Ta
def Otk(h h':zb):Prop:=∀(i:Nat) (o:Obj),h[i]?=Td o->nU o=Ta->h'[i]?=Td o
theorem Otk.trans{a b c:zb}(x:Otk a b)(y:Otk b c):Otk a c:=λi o e n=>y i o (x i o e n) n
theorem Otk.keep(k:Keep h.size h h'):Otk h h':=λi o e _=>by have hi:i<h.size:=(Ut.1 e).1;rw[k.get i hi];exact e
theorem Otk.ne{cs:Array Value}{m:Nat×Nat}(e:h[b]?=Td (.cells cs 207 m))(f:∀i,i≠b->h'[i]?=h[i]?):Otk h h':=λi o c n=>by by_cases hi:i=b;subst hi;rw[e]at c;cases c;cases n;rw[f i hi];exact c
theorem Otk.own{base:Nat}{sz:Nat}{xs:List Value}(H:Owns h base 5 sz s xs)(f:∀i,i<h.size->(∀p,s.a=Td p->i≠p.block)->h'[i]?=h[i]?):Otk h h':=λi o c n=>by have hi:i<h.size:=(Ut.1 c).1;rw[f i hi λq m l=>?_];exact c;rcases H.2 with⟨b,_⟩|⟨g,cap,e,b,_,k,_⟩;rw[m]at b;cases b;have k:h[g]?=Td (.cells e 5 (0,0)):=k;rw[m]at b;injection b with e1 _ _;injection e1 with e1;rw[l,e1]at c;rw[k]at c;cases c;cases n
theorem GD:liesAt Tp UN.depth 207 (4 / UN.cellsOf 207) 0 89 1=Ta:=by kernel_rfl
def Prn(h:zb)(b:Nat)(ln:Bool)(nd:Int)(l:Bs):Prop:=∃(p:Option Addr) (s:Sl),h[b]?=Td (.cells #[.pointer p,aK s,.bool ln,.int .i64 nd] 207 (0,0))/\(p=Te\/p=Td ⟨b,0,Te⟩)/\Owns h (b+1) 5 1 s (Lib.byteCells l)
theorem Prn.lt(H:Prn h b ln nd l):b<h.size:=by obtain⟨p,s,e,_⟩:=H;rcases U1 b h.size with q|q;exact q;rw[Array.getElem?_eq_none q]at e;cases e
theorem Prn.keep(H:Prn h b ln nd l)(k:Keep h.size h h'):Prn h' b ln nd l:=by have c:=H.lt;obtain⟨p,s,e,f,i⟩:=H;exact⟨p,s,by rw[k.get b c];exact e,f,i.keepN k⟩
theorem Prn.new(h:zb)(ln:Bool)(nd:Int):Prn (h.push (.cells #[.pointer Te,.slice Te 0 0,.bool ln,.int .i64 nd] 207)) h.size ln nd []:= ⟨Te,⟨Te,0,0⟩,yx _ _,.inl rfl,Owns.nil _ _ _ _⟩
set_option maxHeartbeats 1000000 in
set_option maxRecDepth 100000 in
theorem MX(b:Nat)(w:World)(h0:w.cell? ⟨b,0,Te⟩=Td (.pointer Te))(c:w.shape? b=Td (207,4))(i:w.frozen? ⟨b,0,Te⟩=Tc):
  Calls Tp 123 #[.pointer (Td ⟨b,0,Te⟩)] w λe w'=>e=.returned (.tuple #[])/\w'=w.setCell ⟨b,0,Te⟩ (.pointer (Td ⟨b,0,Te⟩)):=by
 obtain⟨j,h,f⟩:=VN.1 qT;have mixed:=Tryz.mixed
 go_enter Tryz.func123,Tryz.ntmps123
 go_wp2
 rw[Lib.run_to_unsafe w ⟨b,0,Te⟩ mW p6 h (by rw[f];decide) c (Nat.zero_lt_succ 3)];simp only[Result.andThen];rw[Oper.upon_value]
 go_wp2
 rw[run_callFunc_extern Tryz.func195 (by kernel_rfl) (by kernel_rfl) (by kernel_rfl) (e:=YV) (by kernel_rfl)];rw[Lib.run_noEscape];simp only[Result.andThen];rw[Oper.upon_value]
 go_wp2
 rw[Lib.run_from_unsafe w ⟨b,0,Te⟩ p6 mW h c GD];simp only[Result.andThen];rw[Oper.upon_value]
 go_wp2
 go_end0
 exact⟨rfl,rfl⟩
theorem EN(H:Prn h b ln nd l)(m:∀h',Prn h' b ln nd l->Keep b h h'->h'.size=h.size->Otk h h'->K (.tuple #[]) h'):XC Tp 123 #[.pointer (Td ⟨b,0,Te⟩)] h K:=by
 have k:=H.lt;obtain⟨p,s,e,n,f⟩:=H;have c:∀B d,(mk B d h).cell? ⟨b,0,Te⟩=Td (.pointer p):=λB d=>by have:(mk B d h).heap[b]?=Td (.cells #[.pointer p,aK s,.bool ln,.int .i64 nd] 207 (0,0)):=e;simp[World.cell?,this]
 rcases n with rfl|rfl;refine XC.of_calls λB d=>(MX b (mk B d h) (c B d) ?_ ?_).mono ?_
 have:(mk B d h).heap[b]?=Td (.cells #[.pointer Te,aK s,.bool ln,.int .i64 nd] 207 (0,0)):=e;simp[World.shape?,this];exact qW ⟨_,e⟩ B d;rintro e' w' ⟨rfl,rfl⟩;rw[xO e];refine⟨_,rfl,rfl,rfl,rfl,?_⟩;show K _ (h.setIfInBounds b _);refine m _ ⟨_,s,?_,.inr rfl,?_⟩ ?_ (by simp) (Otk.ne e λi hi=>Vy (Ne.symm hi));rw[Array.getElem?_setIfInBounds_self_of_lt k];rfl;refine f.keep λq o=>?_;have:=f.base_le q o;rw[Vy (by omega)];exact Keep.setBlk _ (Uc _);refine XC.of_calls λB d=>(EI b (mk B d h) (c B d)).mono ?_;rintro e' w' ⟨rfl,rfl⟩;exact⟨_,rfl,rfl,rfl,rfl,m _ ⟨_,s,e,.inr rfl,f⟩ (Keep.refl _ _) rfl (Otk.keep (Keep.refl _ _))⟩
theorem yG{p:Option Addr}{s u:Sl}(e:h[b]?=Td (.cells #[.pointer p,aK u,.bool ln,.int .i64 nd] 207 (0,0)))(m:p=Te\/p=Td ⟨b,0,Te⟩)(i:Owns h (b+1) 5 1 s (Lib.byteCells l)){K:zb->Prop}
  (t:∀h',Prn h' b ln nd l->Keep b h h'->h'.size=h.size->Otk h h'->K h'):XRunU Tp (Ub 87 (.pointer (Td ⟨b,1,Te⟩)) (.slice s.a s.len s.cap)) h K:=by
 intro B d;obtain⟨h',r,k,f,c⟩:=Q8 (P:=Tp) Ej Ei e (o:=1) (v:=aK s) rfl (by simp) (by simp[aK,Value.cells,Value.oneCell']) B d;refine⟨d,h',r,t h' ⟨p,s,?_,m,?_⟩ (Keep.ne f c) f (Otk.ne e c)⟩;rw[k];rfl;refine i.keep λq n=>?_;have:=i.base_le q n;exact c _ (by omega)
theorem Q0(H:Prn h b ln nd l)(U:l.length<140737488355328)(c:UInt8)(P:∀h',Prn h' b ln nd (l++[c])->Keep b h h'->Otk h h'->K .nilIface h'):
  XC Tp 133 #[.pointer (Td ⟨b,0,Te⟩),.int .u8 (c.toNat:Int)] h K:=by
 apply wb;refine EN H λh2 B k2 z2 F=>⟨rfl,_,rfl,?_⟩;have x:=B.lt;obtain⟨p,s,e,Q,r⟩:=B;have f:=r.1;rw[Lib.byteCells_length,Vz]at f;refine⟨s,Blk.cellAdd (o:=0) (k:=1) (cs:=#[.pointer p,aK s,.bool ln,.int .i64 nd]) ⟨_,e⟩ rfl,?_⟩;intro t;obtain⟨m,V,b5⟩:=jf (g:=t) rfl;have D:t[b]?=Td (.cells #[.pointer p,aK s,.bool ln,.int .i64 nd] 207 (0,0)):=by rw[m.get b x];exact e
 have A:=r.keepN m;clear_value t;refine Jj elemU8 A (src:=⟨Td ⟨h2.size,0,Te⟩,1,1⟩) (news:=[.int .u8 (c.toNat:Int)]) (n:=t.size) ?_ rfl (by simp[Value.oneCell']) (by simp only;omega) (by simp only;omega) (by omega) λC z Z I u q4 S=>⟨C,rfl,_,rfl,?_⟩;refine .inr ⟨h2.size,0,rfl,by omega,λi v w=>?_⟩
 match i,w with
 |0,w=>cases w;exact b5.cell rfl
 have M:z[b]?=Td (.cells #[.pointer p,aK s,.bool ln,.int .i64 nd] 207 (0,0)):=by rw[u b (by omega) λq y=>by have:=r.base_le q y;omega];exact D
 have E:Owns z (b+1) 5 1 C (Lib.byteCells (l++[c])):=by
  have:Lib.byteCells (l++[c])=Lib.byteCells l++[.int .u8 (c.toNat:Int)]:=by unfold Lib.byteCells;rw[U7];rfl
  rw[this];exact I
 have G:Keep b h z:=k2.trans ⟨by omega,λi hi=>by rw[u i (by omega) λq y=>by have:=r.base_le q y;omega];exact m.get i (by omega)⟩ (Uc _);refine yG M Q E λO J L Y N=>P O J (G.trans L (Uc _)) (F.trans ((Otk.keep m).trans ((Otk.own A u).trans N)))
theorem Yz(H:Prn h b ln nd l)(t:Bs)(hl:l.length+t.length<=140737488355328)(N:∀h',Prn h' b ln nd (l++t)->Keep b h h'->Otk h h'->K (.tuple #[.int .i64 (t.length:Int),.nilIface]) h'):
  XC Tp 68 #[.pointer (Td ⟨b,0,Te⟩),.string (bl t)] h K:=by
 apply jo;refine EN H λh2 A k2 z2 F=>⟨rfl,_,rfl,?_⟩;have C:=A.lt;obtain⟨p,s,e,Q,n⟩:=A;have f:=n.1;rw[Lib.byteCells_length,Vz]at f;refine⟨s,Blk.cellAdd (o:=0) (k:=1) (cs:=#[.pointer p,aK s,.bool ln,.int .i64 nd]) ⟨_,e⟩ rfl,?_⟩;have c:=zh t;refine Jr elemU8 n (x:=.string (bl t)) (m:=(bl t).size) (news:=Lib.byteCells t) (λB d=>?_) (by rw[c];omega) (by rw[c];omega) (by omega) λz y V S u Z Y=>⟨z,rfl,_,rfl,?_⟩;have:=Src.ofString (P:=Tp) (w:=mk B d h2) oN (bl t);have O:byteCells (bl t)=Lib.byteCells t:=by unfold byteCells Lib.byteCells;have:(bl t).data.toList=t:=ym t;rw[this]
 rw[O]at this;exact this;have I:y[b]?=Td (.cells #[.pointer p,aK s,.bool ln,.int .i64 nd] 207 (0,0)):=by rw[u b (by omega) λq r=>by have:=n.base_le q r;omega];exact e
 have D:Owns y (b+1) 5 1 z (Lib.byteCells (l++t)):=by
  have:Lib.byteCells (l++t)=Lib.byteCells l++Lib.byteCells t:=by unfold Lib.byteCells;rw[U7]
  rw[this];exact S
 have J:Keep b h y:=k2.trans ⟨by omega,λi hi=>u i (by omega) λq r=>by have:=n.base_le q r;omega⟩ (Uc _);refine yG I Q D λM E G U L=>?_;rw[c];exact N M E (J.trans G (Uc _)) (F.trans ((Otk.own n u).trans L))
theorem GV(b:Nat)(p:Value)(ln:Bool)(nd:Int)(v:Value)(l:Bs)(w:World)(n:w.heap[b]?=Td (.cells #[p,v,.bool ln,.int .i64 nd] 207 (0,0)))(f:w.ownsRow (b+1) 5 1 v l.length (Lib.byteCells l))(h0:l≠[]):
  Calls Tp 70 #[.pointer (Td ⟨b,0,Te⟩)] w λe w'=>e=.returned (.string ⟨l.toArray⟩)/\Below (b+1) w w':=by
 have h:l.length≠0:=by simpa using h0
 obtain⟨g,cap,c,rfl,k,s,y,q,z,m⟩:∃g cap c,v=.slice (Td ⟨g,0,Te⟩) l.length cap/\b+1<=g/\w.heap[g]?=Td (.cells c 5 (0,0))/\_:=by rcases f.2 with⟨_,u⟩|⟨g,cap,c,B,r⟩;exact absurd u h;exact⟨g,cap,c,B,r⟩
 have c1:w.drew.cell? ⟨b,1,Te⟩=Td (.slice (Td ⟨g,0,Te⟩) l.length cap):=by have:w.drew.heap[b]?=Td (.cells #[p,.slice (Td ⟨g,0,Te⟩) l.length cap,.bool ln,.int .i64 nd] 207 (0,0)):=n;rw[Lib.cell_of_heap this];rfl
 have t:(Builtin.unsafeSliceData_ #[87] 133 #[.slice (Td ⟨g,0,Te⟩) l.length cap]).run Tp w.drew=.ok (.pointer (Td ⟨g,0,Te⟩)) w.drew:= Lib.run_unsafeSliceData_row _ _ _ _ _ _ (by omega);have o:(Builtin.unsafeString_ #[133,3] 9 #[.pointer (Td ⟨g,0,Te⟩),.int .i64 l.length]).run Tp w.drew=.ok (.string ⟨l.toArray⟩) (w.drew.freeze ⟨g,0,Te⟩ l.length):=by refine Lib.run_unsafeString_row w.drew 133 3 9 5 Tryz.underlying133 (by kernel_rfl) g c.size (by have i:w.drew.heap[g]?=Td (.cells c 5 (0,0)):=s;simp[World.shape?,i]) l h0 (by omega) (by have:maxLen=9223372036854775807:=rfl;omega) ?_;intro j x A;have:=f.cells (g:=g) rfl j (.int .u8 x.toNat) (by simp[Lib.byteCells,A]);exact this
 have mixed:=Tryz.mixed
 go_enter Tryz.func70,Tryz.ntmps70
 go_wp2
 go_region_o
 all_goals (go_wp2;go_ret;exact⟨rfl,Lib.below_freeze (Below.drew (Below.refl (b+1) w)) (p:=⟨g,0,Te⟩) k _⟩)
theorem H9(H:Prn h b ln nd l)(h0:l≠[])(m:∀h',Keep b h h'->K (.string (bl l)) h'):XC Tp 70 #[.pointer (Td ⟨b,0,Te⟩)] h K:=by obtain⟨p,s,e,n,k⟩:=H;have f:=k.1;rw[Lib.byteCells_length,Vz]at f;refine XC.of_calls λB d=>(GV b (.pointer p) ln nd (aK s) l (mk B d h) e (by rw[f];exact k) h0).mono ?_;rintro e' w' ⟨rfl,c⟩;exact⟨_,rfl,c.os,c.tape,c.output,m _ ⟨c.size,λi hi=>c.block i (by omega)⟩⟩
end
end Go.X
