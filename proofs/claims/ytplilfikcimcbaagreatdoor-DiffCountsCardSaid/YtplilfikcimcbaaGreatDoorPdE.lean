/- A part of the proof: nothing is stated here for its own sake. -/
import Derived.Test.YtplilfikcimcbaaGreatDoorPdD
import Derived.Sort.KeysCollected
import Derived.Sort.OwnSortedInts
open _root_.Go.Addr renaming add->XT
open _root_.Array renaming getElem?_eq_some_iff->YE,getElem?_push->zau,getElem?_setIfInBounds_ne->YV,getElem?_toList->ZZ,push->zbx,size->YZ,size_push->XY,size_setIfInBounds->ZL,toList->zcn
open _root_.Bool renaming and_comm->zdp,and_eq_true->YH,cond_false_right->zak,eq_iff_iff->YW,not_eq_true'->zb8,or_eq_true->zbt,true_and->zal
open _root_.Go.Builtin renaming append_->YO,firstCells->zbv
open _root_.Go.Instr renaming entry->zc3,findNow->zbr,keyThatStays->zch,makeSlice->ZW,mapUpdate->zbc,next->zcg,range->zdg,sameNow->zde,storeAt->YG
open _root_.Int renaming toNat_natCast->XW
open _root_.Go.IntKind renaming i64->zbh,wrap->XS
open _root_.List renaming all_eq_true->ZH,any_eq_true->zc8,append_assoc->YS,append_eq_nil_iff->zcd,append_nil->ZO,cons_append->ZU,drop_eq_getElem_cons->zaf,drop_eq_nil_of_le->zaw,eq_nil_of_length_eq_zero->YU,ext_getElem?->zab,filter_cons->zb3,flatMap_cons->za1,getD_eq_getElem?_getD->YN,getElem?_eq_getElem->YA,getElem?_eq_none->ZQ,getElem?_eq_some_iff->ZV,getElem?_map->zap,getElem?_take->ZJ,getElem_append_left->za8,getElem_append_right->zbm,getElem_map->zbl,getElem_mem->YI,length->ZM,length_append->XX,length_cons->YL,length_eq_zero_iff->zba,length_map->YF,length_nil->zag,length_pos_iff->zav,length_replicate->zbq,length_singleton->ZF,length_take->ZP,map_append->ZT,map_congr_left->zbp,map_cons->ZE,map_map->ZY,mem_append->YK,mem_append_left->YM,mem_append_right->ZD,mem_cons->YB,mem_cons_of_mem->XZ,mem_cons_self->YJ,mem_filter->zaq,mem_flatMap->zcf,mem_iff_getElem->zb7,mem_map->ZI,mem_of_getElem?->zbb,mem_range->ZR,mem_singleton->YY,nil_append->za6,nodup_append->za7,nodup_cons->zaj,nodup_nil->zb6,nodup_range->zc9,pairwise_cons->zam,range->ZN,replicate->za9,size_toArray->zcl,take_append_drop->zan,take_append_of_le_length->zb5,take_length->YR,take_of_length_le->ZS,take_succ_cons->zct,take_succ_eq_append_getElem->YD,take_take->zdj,take_zero->zdm,zip_cons_cons->zbw
open _root_.List.cons renaming injEq->zbs
open _root_.Nat renaming add_mul->za4,add_zero->zco,le_of_lt->zdc,le_refl->XV,le_trans->zay,lt_of_lt_of_le->zbu,lt_or_ge->ZX,min_eq_left->zck,mul_comm->zcm,mul_le_mul->zci,mul_le_mul_right->ZK,mul_one->zac,not_lt_zero->zao,succ_mul->zcz,zero_add->YP,zero_le->YT
open _root_.Option.some renaming inj->ZA
open _root_.Prod.mk renaming injEq->zar
open _root_.Go.Proofs.Tryz renaming prog->ZB
open _root_.UInt8 renaming ofNat->zat,toNat_inj->zbi
open _root_.Go.Value renaming int->zax,slice->zdx,string->ZC
open _root_.Go.Value.slice renaming injEq->ZG
set_option linter.unusedVariables false
set_option maxRecDepth 100000
namespace Go.X
end Go.X
namespace Go.Proofs
end Go.Proofs
open Go Go.X Go.Proofs
open _root_.Bool renaming true->Ta,false->Tc
open _root_.Option renaming some->Td,none->Te
section
namespace Go.X
section
theorem Oc(gl:Fr)(b:Bt)(R:Tr->Prop) (H:R (Tr.mk 4 b [] [])):
  PC Tp gl 98 [Arg.mk .str b] [.tree] R:=
 PF ⟨[],[],[],[]⟩ [.cell 2 25] 5 Tryz.func98 H
end
end Go.X
end
section
namespace Go.X
open Go Go.X Go.Proofs Go.RowKit
section
def mi(k:Int)(s:Bt)(a b:Sl):Value:=.agg #[.int .i64 k,.string s,aK a,aK b]
section
variable {gl : Fr} {b2 b29 : Nat} {k2 k29 : Int} {s2 : Bt} {a2 c2 a29 c29 : Sl} {h : zc} {M : Fr}
end
end
section
variable {v:Tr} {sk si:Sl} {lv i:Nat}
section
variable {gl M : Fr} {b N : Nat} {ln : Bool}
def ni(gl M:Fr)(b N:Nat)(ln:Bool)(F:FuncId)(args:Array Value)(p:Bs):Prop:=
 ∀(l:Bs) (g:zc) (K:Value->zc->Prop),Prn g b ln (N:Int) l->Low gl M b g->l.length+p.length<=140737488355328->(∀g',Prn g' b ln (N:Int) (l++p)->FrP b g g'->K (.tuple #[]) g')->XC Tp F args g K
set_option maxRecDepth 100000 in
set_option maxHeartbeats 4000000 in
theorem Gb{F:FuncId}(hF:zm Tp F=Ta)(hi:Rd M (.row .tree) v.items [aK si])(hN:N<=8)(hv:lv<=90){o c:UInt8}{ps:List Bs}(Q:ps.length=v.items.length)(U:v.items.length<=1000000) (hE:∀(i:Nat) (h:i<ps.length),ni gl M b N ln F (#[.pointer (Td ⟨b,0,Te⟩)]++#[mi v.kind v.text sk si,.int .i64 (i:Int),.int .i64 ((lv+1:Nat):Int)]++#[]) ps[i]):
  ni gl M b N ln 254 #[.pointer (Td ⟨b,0,Te⟩),mi v.kind v.text sk si,.int .i64 (lv:Int),.string (bl [o,c]),.func (.func F) #[.pointer (Td ⟨b,0,Te⟩)] #[]] (o::jE ln N lv ps++[c]):=by
 intro l g K H L V hK;have ab:=(rowLen hi).1;have J:=H.lt;have e1:(o::jE ln N lv ps++[c]).length=2+(w7 ln N (lv+1) ps).length+(if ps=[]then []else Zf ln N lv:Bs).length:=by unfold jE;simp only[YL,XX,zag];omega
 rw[e1]at V;apply Xh;intro h1;have Z:Keep g.size g h1:=Keep.push _ _ (XV _);have B1:h1[g.size]?=Td (.cells #[.int .i64 v.kind,.string v.text,aK sk,aK si] 25 (0,0)):=qm _ _;clear_value h1;have f1:=FrP.ofKeep Z (zdc J);have H1:=H.keep Z;refine⟨_,rfl,⟨by decide,by rw[zk];simp⟩,?_⟩;rw[add0];have eo:ze (bl [o,c]) (0:Int).toNat=(o.toNat:Int):=by rw[qt];rfl
 have ec:ze (bl [o,c]) (1:Int).toNat=(c.toNat:Int):=by rw[qt];rfl
 rw[eo];refine Qu H1 (by omega) o λu H4 Y o4=>⟨_,rfl,?_⟩;have O:FrP b g u:=f1.trans ⟨Y,o4⟩;have box:∀g',FrP b u g'->Blk g' g.size #[.int .i64 v.kind,.string v.text,aK sk,aK si]:=λg' f=>⟨_,f.blk ((⟨Y,o4⟩:FrP b h1 u).blk B1)⟩;refine⟨si,Blk.cellAdd (o:=0) (k:=3) (box u (FrP.refl _ _)) rfl,?_⟩;refine⟨λi g'=>∃n:Nat,i=(n:Int)/\n<=ps.length/\Prn g' b ln (N:Int) (l++[o]++w7 ln N (lv+1) (ps.take n))/\FrP b u g',λi _=>ps.length-i.toNat,⟨0,rfl,by omega,by simpa[w7]using H4,FrP.refl _ _⟩,?_⟩;rintro i g' ⟨n,rfl,hn,B,z⟩;have P:=O.trans z;have L':=L.frp P;have aa:=uf ln N (lv+1) hn;have r:(l++[o]++w7 ln N (lv+1) (ps.take n)).length=l.length+1+(w7 ln N (lv+1) (ps.take n)).length:=by rw[XX,XX];rfl
 refine⟨λp=>?_,λy=>?_⟩;have p:n<ps.length:=by have:=zA p;omega
 have t:=uf ln N (lv+1) (ps:=ps) (n:=n+1) p;have C:=uv ln N (lv+1) p;rw[C]at t;simp only[XX]at t;intro E D;have m:∀g2,Prn g2 b ln (N:Int) (l++[o]++w7 ln N (lv+1) (ps.take n)++(if n=0 then []else [44]))->FrP b u g2->E g2:=λg2 x w=>D _ (by have L2:=L.frp (O.trans w);rw[eK (by omega),show(lv:Int)+1=((lv+1:Nat):Int)from by omega];refine D5 x L2 hN (by omega) (by rw[XX,r];omega) λT G S=>⟨rfl,v.kind,v.text,sk,si,(box T (w.trans S)).ld (cs:=[_,_,aK sk,aK si]),hF,?_⟩;refine hE n p _ _ _ G (L2.frp S) (by rw[XX,XX,r];omega) λg5 H5 f5=>⟨rfl,⟨n+1,by rw[eK (by omega)];omega,p,?_,w.trans (S.trans f5)⟩,?_⟩;rw[C];simpa[YS]using H5;show ps.length-(XS .i64 ((n:Int)+1)).toNat<ps.length-(n:Int).toNat;rw[eK (by omega)];omega);refine⟨λj=>?_,λj=>?_⟩;have h0:n≠0:=by have:=zA j;omega
 refine⟨_,rfl,?_⟩;rw[add0];refine Qu B (by rw[r];rw[za h0]at t;simp only[YL,zag]at t;omega) 44 λg2 x k2 o2=>⟨_,rfl,m g2 ?_ (z.trans ⟨k2,o2⟩)⟩;rw[za h0];exact x;have h0:n=0:=by have:=zG j;omega
 refine m g' ?_ z;rw[zb h0,ZO];exact B;have y:n=ps.length:=by have:=zG y;omega
 subst y;rw[YR]at B r;intro I A;have m:∀g2,Prn g2 b ln (N:Int) (l++[o]++w7 ln N (lv+1) ps++(if ps=[]then []else Zf ln N lv))->FrP b u g2->I g2:=λg2 x w=>A _ (by refine⟨_,rfl,⟨by decide,by rw[zk];simp⟩,?_⟩;rw[add0,ec];refine Qu x (by rw[XX,r];omega) c λT G k3 o3=>⟨_,rfl,hK T ?_ (O.trans (w.trans ⟨k3,o3⟩))⟩;unfold jE;simpa[YS]using G);refine⟨si,Blk.cellAdd (o:=0) (k:=3) (box g' z) rfl,λj=>?_,λj=>?_⟩;have h0:ps≠[]:=λe=>by
  have:=zA j;have ac:v.items.length=0:=by rw[<-Q,e];rfl
  omega
 rw[za h0]at V;refine D5 B L' hN (by omega) (by rw[r];omega) λg2 x w=>⟨rfl,m g2 ?_ (z.trans w)⟩;rw[za h0];exact x;have h0:ps=[]:=by have:=zG j;apply YU;omega
 refine m g' ?_ z;rw[zb h0,ZO];exact B
theorem Rz:zm Tp 255=Ta:=by kernel_rfl
theorem OA:zm Tp 256=Ta:=by kernel_rfl
set_option maxRecDepth 100000 in
theorem XK(hi:Rd M (.row .tree) v.items [aK si])(h:i<v.items.length){p:Bs}(n:∀(c e:Sl),Rd M (.row .str) v.items[i].keys [aK c]->Rd M (.row .tree) v.items[i].items [aK e]->ni gl M b N ln 201 #[.pointer (Td ⟨b,0,Te⟩),mi v.items[i].kind v.items[i].text c e,.int .i64 (lv:Int)] p):
  ni gl M b N ln 255 #[.pointer (Td ⟨b,0,Te⟩),mi v.kind v.text sk si,.int .i64 (i:Int),.int .i64 (lv:Int)] p:=by
 intro l g K H L r A;have y:=(rowLen hi).1;apply Tu;intro h1;have f:Keep g.size g h1:=Keep.push _ _ (XV _);have u:Blk h1 g.size #[.int .i64 v.kind,.string v.text,aK sk,aK si]:=Blk.new _ _ _;clear_value h1;have j:=FrP.ofKeep f (zdc H.lt);have m:=L.frp j;obtain⟨a,c,e,w,C,x,z⟩:=Jn m.ag hi h;refine⟨si,Blk.cellAdd (o:=0) (k:=3) u rfl,a,⟨w,by omega,by omega⟩,_,_,c,e,by rw[XW];exact C,?_⟩;exact n c e x z l h1 _ (H.keep f) m r λg' B t=>⟨rfl,A g' B (j.trans t)⟩
set_option maxRecDepth 100000 in
theorem Nn(hg:GL gl)(Z:Brn gl)(G:Rd M (.row .str) v.keys [aK sk])(hi:Rd M (.row .tree) v.items [aK si])(h:i<v.items.length)(Y:i<v.keys.length)(u:(lb v.keys[i]).length<=1048576){p:Bs}(hE:∀(c e:Sl),Rd M (.row .str) v.items[i].keys [aK c]->Rd M (.row .tree) v.items[i].items [aK e]->ni gl M b N ln 201 #[.pointer (Td ⟨b,0,Te⟩),mi v.items[i].kind v.items[i].text c e,.int .i64 (lv:Int)] p):
  ni gl M b N ln 256 #[.pointer (Td ⟨b,0,Te⟩),mi v.kind v.text sk si,.int .i64 (i:Int),.int .i64 (lv:Int)] (jp ln v.keys[i] p):=by
 intro l g K H L z J;unfold jp at z J;simp only[XX,YL]at z;have aa:=(rowLen hi).1;have F:=(rowLen G).1;apply Wv;intro h1;have E:Keep g.size g h1:=Keep.push _ _ (XV _);have O:h1[g.size]?=Td (.cells #[.int .i64 v.kind,.string v.text,aK sk,aK si] 25 (0,0)):=qm _ _;clear_value h1;have I:=FrP.ofKeep E (zdc H.lt);have D:=L.frp I;obtain⟨a,y,x,r,n⟩:=l8 D.ag G Y (i:=(i:Int)) rfl (L:=sk.len) rfl (Q:=λx=>x=v.keys[i]) rfl;subst n;refine⟨sk,Blk.cellAdd (o:=0) (k:=2) ⟨_,O⟩ rfl,a,y,v.keys[i],r,?_⟩;refine Gz hg Z (H.keep E) D u (by omega) λh6 U f6=>⟨rfl,_,rfl,?_⟩;rw[add0];refine Qu U (by simp only[XX];omega) 58 λP A k9 o9=>⟨_,rfl,?_⟩;have T:FrP b h1 P:=f6.trans ⟨k9,o9⟩;intro t m;have f:∀g2,Prn g2 b ln (N:Int) (l++(ik (lb v.keys[i])).1++[58]++(if ln then [32]else []))->FrP b h1 g2->t g2:=λg2 C B=>m _ (by have S:=D.frp B;obtain⟨a',c,e,e1,e2,e3,e4⟩:=Jn S.ag hi h;refine⟨si,Blk.cellAdd (o:=0) (k:=3) ⟨_,B.blk O⟩ rfl,a',⟨e1,by omega,by omega⟩,_,_,c,e,by rw[XW];exact e2,?_⟩;refine hE c e e3 e4 _ g2 _ C S (by simp only[XX,YL,zag];omega) λg' H' f'=>⟨rfl,J g' ?_ (I.trans (B.trans f'))⟩;simpa[YS]using H');have w:=A;obtain⟨p9,s9,e9,ab,V⟩:=w;refine⟨_,rfl,ln,Blk.cellAdd (o:=0) (k:=2) (cs:=#[.pointer p9,aK s9,.bool ln,.int .i64 (N:Int)]) ⟨_,e9⟩ rfl,λj=>?_,λj=>?_⟩;subst j;refine⟨_,rfl,?_⟩;rw[add0];refine Qu A (by simp only[if_true,YL,zag]at z;simp only[XX,YL,zag];omega) 32 λg2 C k2 o2=>⟨_,rfl,f g2 C (T.trans ⟨k2,o2⟩)⟩;subst j;refine f P ?_ T;simpa using A
end
end
section
section
variable {gl M : Fr} {b N : Nat} {ln : Bool}
theorem VM{g:zc}{l:Bs}(H:Prn g b ln (N:Int) l)(s:Bt)(c:l.length+(lb s).length<=140737488355328){K:Value->zc->Prop}(e:∀g',Prn g' b ln (N:Int) (l++lb s)->Keep b g g'->Otk g g'->K (.tuple #[.int .i64 ((lb s).length:Int),.nilIface]) g'):
  XC Tp 68 #[.pointer (Td ⟨b,0,Te⟩),.string s] g K:=by
 have:=Yy H (lb s) c e;rw[Qj]at this;exact this
set_option maxRecDepth 100000 in
set_option maxHeartbeats 2000000 in
theorem Hf(U:GL gl)(P:Brn gl)(Y:N<=8):∀(n:Nat) (v:Tr) (lv:Nat) (sk si:Sl),n<=1000000->bR v<=n->Zk zl v=Ta->Sm v->lv+iq v<=90->Rd M (.row .str) v.keys [aK sk]->Rd M (.row .tree) v.items [aK si] ->
  ni gl M b N ln 201 #[.pointer (Td ⟨b,0,Te⟩),mi v.kind v.text sk si,.int .i64 (lv:Int)] (Qv ln N v lv)
 |0,v,lv,sk,si,_,h,_,_,_,_,_=>by have:=Ye v;omega
 |n+1,v,lv,sk,si,hn,hz,hok,hsm,hd,hk,hi=>by
  intro l g K H L r u;have f:=hok;rw[Zb,YH]at f;have t:∀(i:Nat) (h:i<v.items.length) (j m:Sl),Rd M (.row .str) v.items[i].keys [aK j]->Rd M (.row .tree) v.items[i].items [aK m]->ni gl M b N ln 201 #[.pointer (Td ⟨b,0,Te⟩),mi v.items[i].kind v.items[i].text j m,.int .i64 ((lv+1:Nat):Int)] (Qv ln N v.items[i] (lv+1)):=λi h j m h1 h2=>by
   have O:=YI h;have hs:=qp O;have aa:=yK O;have I:Zk zl v.items[i]=Ta:=by rw[jw,ZH]at f;exact f.2 _ O
   exact Hf U P Y n v.items[i] (lv+1) j m (by omega) (by omega) I (hsm.item O) (by omega) h1 h2
  have J:v.items.length<=1000000:=by have:=Zc v.items;rw[wy]at hz;omega
  rw[Yg]at r u;apply Xg;intro h1;have Z:Keep g.size g h1:=Keep.push _ _ (XV _);have F:Blk h1 g.size #[.int .i64 v.kind,.string v.text,aK sk,aK si]:=Blk.new _ _ _;clear_value h1;have C:=FrP.ofKeep Z (zdc H.lt);have D:=H.keep Z;have S:=L.frp C;refine⟨v.kind,Blk.cellAdd (o:=0) (k:=0) F rfl,λp=>?_,λp=>⟨λw=>?_,λw=>⟨λz=>?_,λz=>⟨λA=>?_,λA=>?_⟩⟩⟩⟩;have p:v.kind=1:=eq_of_beq p;rw[zb p]at r u;refine⟨_,rfl,?_⟩;rw[add0];exact Yy D [110,117,108,108] r λg' y Q V=>⟨_,_,rfl,u g' y (C.trans ⟨Q,V⟩)⟩;have B:v.kind≠1:=λe=>by rw[e]at p;cases p
  have w:v.kind=4:=eq_of_beq w;rw[za B,zb w]at r u;exact⟨v.text,Blk.cellAdd (o:=0) (k:=1) F rfl,Gz U P D S hsm.text r λg' y E=>⟨rfl,u g' y (C.trans E)⟩⟩;have B:v.kind≠1:=λe=>by rw[e]at p;cases p
  have G:v.kind≠4:=λe=>by rw[e]at w;cases w
  have z:v.kind=5:=eq_of_beq z;rw[za B,za G,zb z]at r u;refine⟨v.kind,v.text,sk,si,F.ld (cs:=[_,_,aK sk,aK si]),?_⟩;refine Gb (o:=91) (c:=93) (ps:=v.items.map λx=>Qv ln N x (lv+1)) Rz hi Y (by omega) (YF _) J (λi h=>?_) l h1 _ D S r λg' y E=>⟨rfl,u g' y (C.trans E)⟩;rw[YF]at h;rw[zbl];exact XK hi h λj m a1 a2=>t i h j m a1 a2;have B:v.kind≠1:=λe=>by rw[e]at p;cases p
  have G:v.kind≠4:=λe=>by rw[e]at w;cases w
  have T:v.kind≠5:=λe=>by rw[e]at z;cases z
  have A:v.kind=6:=eq_of_beq A;rw[za B,za G,za T,zb A]at r u;have ab:v.keys.length=v.items.length:=by have:=f.1;unfold zl at this;simp[A]at this;exact this.1.2
  refine⟨v.kind,v.text,sk,si,F.ld (cs:=[_,_,aK sk,aK si]),?_⟩;refine Gb (o:=123) (c:=125) (ps:=List.zipWith (jp ln) v.keys (v.items.map λx=>Qv ln N x (lv+1))) OA hi Y (by omega) (by rw[List.length_zipWith,YF];omega) J (λi h=>?_) l h1 _ D S r λg' y E=>⟨rfl,u g' y (C.trans E)⟩;rw[List.length_zipWith,YF]at h;rw[List.getElem_zipWith,zbl];exact Nn U P hk hi (by omega) (by omega) (hsm.key (YI _)) λj m a1 a2=>t i (by omega) j m a1 a2;have B:v.kind≠1:=λe=>by rw[e]at p;cases p
  have G:v.kind≠4:=λe=>by rw[e]at w;cases w
  have T:v.kind≠5:=λe=>by rw[e]at z;cases z
  have n6:v.kind≠6:=λe=>by rw[e]at A;cases A
  rw[za B,za G,za T,za n6]at r u;refine⟨_,rfl,v.text,Blk.cellAdd (o:=0) (k:=1) F rfl,?_⟩;rw[add0];exact VM D v.text r λg' y Q V=>⟨_,_,rfl,u g' y (C.trans ⟨Q,V⟩)⟩
end
end
end Go.X
end
section
namespace Go.X
open Go Go.Lib
section
variable {ln:Bool} {lv:Nat}
theorem XP(ln:Bool)(nd lv:Nat)(ps:List Bs):(w7 ln nd lv ps).length<=(ps.map λp=>p.length+(1+(Zf ln nd lv).length)).sum:=by
 cases ps with
 |nil=>exact XV _
 |cons p ps=>
  have:∀b:List Bs,(b.flatMap λq=>44::(Zf ln nd lv++q)).length=(b.map λp=>p.length+(1+(Zf ln nd lv).length)).sum:=by
   intro b;induction b with
   |nil=>rfl
   |cons q b c=>rw[za1,XX,c,ZE,List.sum_cons];simp;omega
  rw[w7,XX,XX,this,ZE,List.sum_cons];omega
theorem HG{nd lv:Nat}(h:nd<=8)(b:lv<=100):(Zf ln nd lv).length<=801:=by unfold Zf;have:nd*lv<=800:=zay (zci h b) (by omega);split;rw[YL,zbq];omega;simp
theorem r8(t:Bs):(ik t).1.length<=6*t.length+2:=by unfold ik;have:=tT t;split;simp;omega;simp
theorem sY{ln:Bool}{N:Nat}(t:N<=8):∀(n:Nat) (v:Tr) (lv:Nat),bR v<=n->Sm v->lv+iq v<=90->(Qv ln N v lv).length+10000000<=bR v*20000000
 |0,v,lv,h,_,_=>by have:=Ye v;omega
 |n+1,v,lv,hz,hsm,hd=>by
  have D:=hsm.text;have w:=Ye v;have e:∀x∈v.items,(Qv ln N x (lv+1)).length+10000000<=bR x*20000000:=λx r=>by have h1:=qp r;have u:=yK r;exact sY t n x (lv+1) (by omega) (hsm.item r) (by omega)
  have C:=HG (ln:=ln) (lv:=lv) t (by omega);have A:=HG (ln:=ln) (lv:=lv+1) t (by omega);have f:∀l:List Tr,(∀x∈l,(Qv ln N x (lv+1)).length+10000000<=bR x*20000000)->(l.map λx=>(Qv ln N x (lv+1)).length+10000000).sum<=Zz l*20000000:=by
   intro l;induction l with
   |nil=>intro _;exact YT _
   |cons x l j=>intro h;have h1:=h x YJ;have u:=j λy m=>h y (XZ _ m);rw[ZE,List.sum_cons,Zz,za4];omega
  have z:=f v.items e;have b:∀ps:List Bs,(ps.map λp=>p.length+(1+(Zf ln N (lv+1)).length)).sum<=Zz v.items*20000000->∀o c:UInt8,(o::jE ln N lv ps++[c]).length+10000000<=bR v*20000000:=λps B o c=>by
   have G:=XP ln N (lv+1) ps;have:(o::jE ln N lv ps++[c]).length<=2+(w7 ln N (lv+1) ps).length+(Zf ln N lv).length:=by unfold jE;simp only[YL,XX,zag];split <;> simp <;> omega
   rw[wy,za4];omega
  rw[Yg];split;simp only[YL,zag];omega;split;have:=r8 (lb v.text);omega;split;refine b _ (zay ?_ z) 91 93;rw[ZY];have:∀l:List Tr,(l.map ((λp:Bs=>p.length+(1+(Zf ln N (lv+1)).length)) ∘ λx=>Qv ln N x (lv+1))).sum<=(l.map λx=>(Qv ln N x (lv+1)).length+10000000).sum:=by
   intro l;induction l with
   |nil=>exact XV _
   |cons x l j=>simp only[ZE,List.sum_cons,Function.comp];omega
  exact this _;split;refine b _ (zay ?_ z) 123 125;have:∀(ks:List Bt) (l:List Tr),(∀k∈ks,(lb k).length<=1048576)->((List.zipWith (jp ln) ks (l.map λx=>Qv ln N x (lv+1))).map λp:Bs=>p.length+(1+(Zf ln N (lv+1)).length)).sum<=(l.map λx=>(Qv ln N x (lv+1)).length+10000000).sum:=by
   intro ks;induction ks with
   |nil=>intro l _;simp
   |cons k ks j=>
    intro l i;cases l with
    |nil=>simp
    |cons x l=>
     have h1:=j l λy m=>i y (XZ _ m);have u:=i k YJ;have F:=r8 (lb k);have E:(jp ln k (Qv ln N x (lv+1))).length<=(ik (lb k)).1.length+2+(Qv ln N x (lv+1)).length:=by unfold jp;rw[XX,YL,XX];split <;> simp <;> omega
     simp only[ZE,List.zipWith_cons_cons,List.sum_cons];omega
  exact this v.keys v.items λk i=>hsm.key i;omega
theorem Pw{N:Nat}{v:Tr}(h:iB v=Ta):Qv ln N v lv≠[]:=by unfold iB at h;rw[YH]at h;obtain⟨k,h⟩:=h;unfold zl at h;rw[Yg];by_cases h1:v.kind=1;rw[zb h1];simp;rw[za h1]at h ⊢;by_cases b:v.kind=4;rw[zb b];rw[b]at h;simp at h;unfold ik;rw[zb h.1.1];simp;rw[za b];by_cases f:v.kind=5;rw[zb f];simp;rw[za f];by_cases c:v.kind=6;rw[zb c];simp;rw[za c];by_cases i:v.kind=2;rw[zb i]at h;simp at h;rcases h.1.1 with e|e <;> (rw[e];simp);rw[za i]at h;by_cases j:v.kind=3;rw[zb j]at h;simp only[YH]at h;have:=h.1.1;unfold iX at this;simp only[YH,beq_iff_eq]at this;intro e;rw[e]at this;exact absurd this.1 (by decide);rw[za j,za b,za f,za c]at h;split at h;rename_i e;simp[e]at k;cases h
end
end Go.X
end
section
namespace Go.X
open Go Go.X Go.Proofs Go.RowKit
section
variable {v:Tr} {ln:Bool} {N lv:Nat} {gl M:Fr}
def Y7(v:Tr):Bt×Int:=if zn v=Ta then(bl (Qv Tc 0 v 0),0)else(⟨#[]⟩,1)
theorem xj(h:zn v=Ta):bR v<=4096/\iq v<=32/\Zk iB v=Ta/\Zk zl v=Ta:=by unfold zn Zd at h;simp only[YH,zv]at h;refine⟨h.1.1,h.1.2,h.2,?_⟩;exact BF (λx b=>by rw[YH]at b;exact b.2) v h.2
theorem OH(h:zn v=Ta):Qv ln N v lv≠[]:=by have:=(xj h).2.2.1;rw[Zb,YH]at this;exact Pw this.1
theorem Sn(o:GL gl)(n:Brn gl)(h:Sm v)(e:zn v=Ta)(f:N<=8)(y:lv<=32){g:zc}{b:Nat}(m:Fr.le gl M)(ag:AgM M g)(low:∀c cs,M c=Td cs->c<b)(H:Prn g b ln (N:Int) []) {sk si:Sl} (w:Rd M (.row .str) v.keys [aK sk]) (r:Rd M (.row .tree) v.items [aK si]) {K:Value->zc->Prop} (u:∀h',Keep b g h'->K (.string (bl (Qv ln N v lv))) h'):
  XC Tp 201 #[.pointer (Td ⟨b,0,Te⟩),mi v.kind v.text sk si,.int .i64 (lv:Int)] g λt h1=>t=.tuple #[]/\XC Tp 70 #[.pointer (Td (XT ⟨b,0,Te⟩ 0))] h1 K:=by
 obtain⟨z,A,x,p⟩:=xj e;have j:=sY (ln:=ln) f (bR v) v lv (XV _) h (by omega);refine Hf o n f 1000000 v lv sk si (XV _) (by omega) p h (by omega) w r [] g _ H ⟨m,ag,low⟩ (by simp only[zag];omega) λg' i l=>⟨rfl,?_⟩;rw[add0];rw[za6]at i;exact QO i (OH e) λh' k=>u h' (l.keep.trans k (XV _))
theorem Et(s:Bt)(e:Int):ig M [.str,.int .i64] (s,e) (.tuple #[.string s,.int .i64 e]):=⟨[_,_],⟨_,_,rfl,rdStr _,_,rfl,jJ _ _⟩,rfl⟩
set_option maxRecDepth 100000 in
theorem FZ(A:GL gl)(C:Brn gl)(B:Sm v){R:Bt×Int->Prop}(l:R (Y7 v)):PC Tp gl 126 [Arg.mk .tree v] [.str,.int .i64] R:=by
 intro h M vs z ag I
 match vs,I with
 |[u],⟨p,_⟩=>
  have p:RdV M .tree v u:=p;have y:=p;obtain⟨sk,si,rfl,F,H⟩:=qn p;apply PX.of;apply UI v.kind v.text sk si;intro h1;have f:Later h M h1 M:=Later.push ag _;have s1:h1.size=h.size+1:=XY _;have i:∀h':zc,Keep h1.size h1 h'->zf h' ⟨h.size,0,Te⟩ 0 [.int .i64 v.kind,.string v.text,aK sk,aK si]:=λh' k=>pY (h':=h') (by rw[s1]at k;exact k);clear_value h1;refine⟨v.kind,v.text,sk,si,i h1 (Keep.refl _ _),?_⟩;refine(Jq A B (R:=λr=>r=zn v) rfl).go (vs:=[.agg #[.int .i64 v.kind,.string v.text,aK sk,aK si]]) (z.trans f.le) f.ag (qk (RdV.mono f.le y) ym) λw o x r b m G=>?_;subst G;refine⟨_,ib m,λj=>?_,λj=>?_⟩;have j:zn v=Tc:=by simpa using j
  unfold Y7 at l;rw[za (by rw[j];simp)]at l;exact⟨x,_,f.trans b,Et _ _,l⟩;have j:zn v=Ta:=by simpa using j
  unfold Y7 at l;rw[zb j]at l;intro n;have D:Prn n o.size Tc ((0:Nat):Int) []:=Prn.new o Tc 0;have t:Keep o.size o n:=Keep.push _ _ (XV _);clear_value n;have E:Later h M n x:=(f.trans b).trans (Later.same b.ag t);refine⟨v.kind,v.text,sk,si,i n (b.keep.trans t b.keep.size),?_⟩;refine Sn A C B j (N:=0) (lv:=0) (by omega) (by omega) (z.trans (f.trans b).le) E.ag (λc cs e=>b.ag.lt e) D (F.mono (f.trans b).le) (H.mono (f.trans b).le) λL J=>⟨_,rfl,x,_,?_,Et _ _,l⟩;exact(f.trans b).trans (Later.same b.ag (t.trans J (XV _)))
end
end Go.X
end
section
namespace Go.X
section
theorem yo(b:Nat)(c1:Addr)(h:zc)(R:Value->zc->Prop) (H:∃t:Option Nat,zd h c1=Td (.map t)/\yp Tp (zdg 144 (.map t)) h (λI G=>∃j:Option Addr,I=.pointer j/\∃(m:zc->Prop) (o:zc->Nat),m G/\∀l:zc,m l->(yp Tp (zcg (.pointer j) Tc 0) l (λA k=>(A=.tuple #[.bool Tc]/\(Tc=Ta->yp Tp (zc3 (.pointer j)) k (λz C=>∃r w:Value,z=.tuple #[r,w]/\YX Tp b #[r] C (λy f=>∃e:Bool,y=.bool e/\((!e)=Ta->R (.tuple #[]) f)/\((!e)=Tc->(m f/\o f<o l)))))/\(Tc=Tc->R (.tuple #[]) k))\/∃D B:Value,A=.tuple #[.bool Ta,D,B]/\(Ta=Ta->yp Tp (zc3 (.pointer j)) k (λE F=>∃p x:Value,E=.tuple #[p,x]/\YX Tp b #[p] F (λu i=>∃c:Bool,u=.bool c/\((!c)=Ta->R (.tuple #[]) i)/\((!c)=Tc->(m i/\o i<o l)))))/\(Ta=Tc->R (.tuple #[]) k))))):
  mc Tp 222 #[.func (.yield b) #[] #[],.pointer (Td c1)] h R:=
 y6 Tryz.mixed ⟨[],[(1,[])],[]⟩ [.func (.yield b) #[] #[],.pointer (Td c1)] (rs:=[]) (n:=14) Tryz.func222 (by kernel_rfl) (by kernel_rfl) (by kernel_rfl) (by kernel_rfl) (Eq.mp (by kernel_rfl) H)
theorem yx(j:Sl)(f:Value)(h:zc)(R:Value->zc->Prop) (H:let c:zc:=zbx h (.cells #[.slice j.a j.len j.cap] 22);∃(m:FuncId) (k:Array Value),f=.func (.func m) #[] k/\zm Tp m=Ta/\∀e:i3,(∀{p:Value} {l:zc} {o:Value->zc->Prop},l[(YZ c+1)]?=Td (.loop (e .ready Te))->lM Tp 13 (l6 (codeOf Tryz.f277)) (lK (codeOf Tryz.f277)) e (YZ c+1) o (putO [(0,[],.slice j.a j.len j.cap),(1,[],f),(2,[],.pointer (Td ⟨YZ h,0,Te⟩)),(4,[],.slice Te 0 0),(6,[],f)] (Td 7) [] p) l->YX Tp (YZ c+1) #[p] l o)->mc Tp m (#[.func (.yield (YZ c+1)) #[] #[]]++k) (zbx (zbx c (.deferred (Td []))) (.loop (e .ready Te))) λ_ r=>rX e (YZ c+1) (λi=>∃b:Sl,zd i ⟨YZ h,0,Te⟩=Td (.slice b.a b.len b.cap)/\(i)[YZ c]?=Td (.deferred (Td []))/\R (.slice b.a b.len b.cap) (Array.setIfInBounds i (YZ c) (.deferred Te))) (λi=>(i)[YZ c]?=Td (.deferred (Td []))/\R (.slice Te 0 0) (Array.setIfInBounds i (YZ c) (.deferred Te))) r):
  XC Tp 277 #[.slice j.a j.len j.cap,f] h R:=
 D8 Tryz.mixed [.slice j.a j.len j.cap,f] (rs:=[.tmp 4]) (n:=13) Tryz.func277 (by kernel_rfl) (by kernel_rfl) (by kernel_rfl) (by kernel_rfl) H (pl:=[]) (by kernel_rfl)
theorem yy(o:Value)(t:Value)(m:Addr)(p:Value)(r:Value)(n:Bt)(rec:i3)(l:Nat)(K:Value->zc->Prop)(h:zc) (H:(h)[l]?=Td (.loop (rec .ready Te))/\let e:zc:=Array.setIfInBounds h l (.loop (rec .busy Te));∃c:Sl,zd e m=Td (.slice c.a c.len c.cap)/\let i:zc:=zbx e (.cells #[.string n] 9);yp Tp (YO #[22,22] 22 #[.slice c.a c.len c.cap,.slice (Td ⟨YZ e,0,Te⟩) 1 1]) i (λj k=>∃b:Sl,j=.slice b.a b.len b.cap/\XRunU Tp (YG 22 (.pointer (Td m)) (.slice b.a b.len b.cap)) k (λf=>(f)[l]?=Td (.loop (rec .busy Te))/\K (.bool Ta) (Array.setIfInBounds f l (.loop (rec .ready Te)))))):
  lM Tp 13 (l6 (codeOf Tryz.f277)) (lK (codeOf Tryz.f277)) rec l K [(7,[],.string n),(0,[],o),(1,[],t),(2,[],.pointer (Td m)),(4,[],p),(6,[],r)] h:=
 Eq.mp (by kernel_rfl) H
end
section
theorem Zh(j:FuncId)(i:Array Value)(k:Array Value)(h:zc)(R:Value->zc->Prop) (H:XC Tp 220 #[.func (.func j) i k] h (λb c=>∃d,b=aK d/\XC Tp 221 #[aK d] c (λe f=>e=.tuple #[]/\R (aK d) f))):
  XC Tp 161 #[.func (.func j) i k] h R:=
 XF ⟨[],[],[]⟩ [.tmp 2] 9 Tryz.func161 H
theorem yr(b:Option Nat)(h:zc)(R:Value->zc->Prop) (H:let a:=h.push (.cells #[.map b] 144);R (.func (.func 222) #[] #[.pointer (Td ⟨h.size,0,Te⟩)]) a):
  XC Tp 162 #[.map b] h R:=
 XF ⟨[],[],[]⟩ [.tmp 2] 4 Tryz.func162 H
theorem xu(f:FuncId)(e:Array Value)(i:Array Value)(h:zc)(R:Value->zc->Prop) (H:XC Tp 277 #[.slice Te 0 0,.func (.func f) e i] h (λb c=>∃d,b=aK d/\R (aK d) c)):
  XC Tp 220 #[.func (.func f) e i] h R:=
 XF ⟨[],[],[]⟩ [.tmp 2] 5 Tryz.func220 H
end
end Go.X
end
section
namespace Go.X
open Go Go.Proofs Go.Shelf Go.RowKit
section
def QC:Go.Shelf.Ren:=⟨fun|190=>221|125=>114|258=>278|128=>177|129=>178|302=>324|303=>325|304=>326|305=>327|306=>328|307=>329|308=>330|309=>331|310=>332|333=>371|329=>236|330=>237|334=>372|335=>373|336=>207|344=>395|n=>n,fun|31=>22|9=>9|3=>3|46=>123|0=>0|51=>176|53=>178|4=>4|183=>168|182=>167|131=>173|5=>5|218=>245|222=>249|228=>299|229=>300|n=>n,fun|n=>n⟩
theorem Fo:Go.Proofs.Lays.n190 Tp QC:=by constructor <;> intros <;> kernel_rfl
open Go.Sort Go.RowKit in
theorem SD(blk off cap:Nat)(ss:List (List UInt8))(w:World)(f:Holds encStr w blk off ss.toArray)(b:blk<w.heap.size)(c:ss.length<4611686018427387904):
  Calls Tp 221 #[.slice (Td ⟨blk,off,Te⟩) ss.length cap] w λe w'=>
   e=.returned (.tuple #[])/\∃n os,w'=grow (putRow encStr (Sort.ahead w n) blk off (ss.mergeSort λx y=>decide (x<=y)).toArray) os:=Any.slices_Sort_string Fo blk off cap ss w f b c
open Go.RowKit Go.Sort in
theorem Y8(p:Option Addr)(cap:Nat)(w:World): Calls Tp 221 #[.slice p 0 cap] w λe w'=>e=.returned (.tuple #[])/\w'=w:=Any.slices_Sort_string_none Fo p cap w
end
end Go.X
end
section
namespace Go.X
open Go Go.Lib
section
def zq(xs:List Bt):List Bt:=((xs.map lb).mergeSort λx y=>decide (x<=y)).map bl
theorem Pu{xs ys:List Bt}(h:xs.Perm ys):zq xs=zq ys:=by unfold zq;rw[mergeSort_of_perm (h.map lb)]
theorem qy(xs:List Bt):(zq xs).Perm xs:=by
 have h:=(List.mergeSort_perm (xs.map lb) λx y=>decide (x<=y)).map bl;rw[ZY]at h;have e:bl ∘ lb=id:=by funext x;exact Qj x
 rw[e,List.map_id]at h;exact h
theorem Np(xs:List Bt):(zq xs).length=xs.length:=(qy xs).length_eq
end
end Go.X
end
section
namespace Go.X
open Go Go.X Go.Proofs Go.RowKit Go.Sort Go.Shelf
section
variable {h:zc} {xs:List Bt} {K:Value -> zc -> Prop} {c m:Nat}
theorem XC.of_below{P:Program}{f:FuncId}{args:Array Value}{R:Value->zc->Prop}(H:∀B d,Calls P f args (mk B d h) λe w'=>∃v,e=.returned v/\w'.os=B.os/\w'.tape=B.tape/\w'.output=B.output/\R v w'.heap):XC P f args h R:=by intro B d;refine(H B d).mono ?_;rintro e w' ⟨v,rfl,h1,b,i,c⟩;refine⟨v,w'.drawn,w'.heap,rfl,?_,c⟩;cases w';simp only[mk]at *;subst h1;subst b;subst i;rfl
theorem nP{base:Nat}{s:Sl}(H:Owns h base 9 1 s (xs.map ZC)):s.len=xs.length:=by have:=H.length;simp at this;omega
theorem VI(xs:List Bt):(xs.map lb).map encStr=xs.map ZC:=by rw[ZY];refine zbp λx _=>?_;show ZC _=_;exact congrArg ZC (Qj x)
theorem Hu{base:Nat}{s:Sl}(H:Owns h base 9 1 s (xs.map ZC))(u:xs.length<=1000000):
  XC Tp 221 #[.slice s.a s.len s.cap] h λv h'=>v=.tuple #[]/\Owns h' base 9 1 s ((zq xs).map ZC)/\h.size<=h'.size/\∀i,i<h.size->(∀p,s.a=Td p->i≠p.block)->h'[i]?=h[i]?:=by
 refine XC.of_below λB d=>?_;have k:s.len=xs.length:=nP H;have b:(xs.map lb).length=xs.length:=by simp
 have f:(zq xs).map ZC=((xs.map lb).mergeSort λx y=>decide (x<=y)).map encStr:=by unfold zq;rw[ZY];rfl
 rcases H.2 with⟨r,h0⟩|⟨g,cap,m,r,o,G,F,L,D,I⟩;have E:xs=[]:=YU (by omega);subst E;rw[h0];refine(Y8 s.a s.cap (mk B d h)).mono ?_;rintro e w' ⟨rfl,rfl⟩;exact⟨_,rfl,rfl,rfl,rfl,rfl,by rw[show zq []=[]from List.Perm.eq_nil (qy [])];exact H,XV _,λ_ _ _=>rfl⟩;simp only[ZG]at r;obtain⟨A,_,rfl⟩:=r;have j:(mk B d h).heap[g]?=Td (.cells m 9 (0,0)):=G;have t:g<(mk B d h).heap.size:=(YE.1 j).1;have J:Holds encStr (mk B d h) g 0 (xs.map lb).toArray:=holds_of_block j (by rw[b,VI,<-k];simpa using I);have C:=SD g 0 s.cap (xs.map lb) (mk B d h) J t (by rw[b];omega);rw[b,<-k]at C;rw[A];refine C.mono ?_;rintro e w' ⟨rfl,n,os,rfl⟩;have c:=grownBy_sorted (w:=mk B d h) (g:=g) (n:=n) (os:=os) ((xs.map lb).mergeSort λx y=>decide (x<=y)).toArray;refine⟨_,rfl,c.os,c.tape,c.output,rfl,?_,c.size,λi hi l=>c.block i hi λe=>l _ rfl (by simpa using e)⟩;have z:=ownsRow_sorted (w:=mk B d h) (base:=base) (n:=n) (os:=os) (ss:=xs.map lb) (ts:=(xs.map lb).mergeSort λx y=>decide (x<=y)) (by simp) o j (by rw[b,<-k];exact F) L (by simpa using D);rw[<-f,b,<-k]at z;show World.ownsRow _ base _ 1 (.slice s.a s.len s.cap) s.len _;rw[A];exact z
theorem LJ:ZB.underlying 144=Td (.map 9 25):=by kernel_rfl
theorem VD:zm Tp 222=Ta:=by kernel_rfl
theorem w3:∀{xs ys:List Bt},xs.Nodup->(∀x∈xs,x∈ys)->xs.length<=ys.length
 |[],_,_,_=>YT _
 |x::xs,ys,hn,hs=>by
  rw[zaj]at hn;have e:=hs x YJ;obtain⟨a,b,rfl⟩:=List.append_of_mem e;have:=w3 (ys:=a++b) hn.2 λy c=>by have:=hs y (XZ _ c);rw[YK,YB]at this;rw[YK];rcases this with h|rfl|h;exact .inl h;exact absurd c hn.1;exact .inr h
  simp only[XX,YL]at this ⊢;omega
structure KyS (h:zc) (m:Nat) (rec:i3) (ps:List (Bt×Value)) (g:zc) (xs:List Bt) (sl:Sl):Prop where
 keep:Keep h.size h g
 d:g[h.size+1]?=Td (.deferred (Td []))
 rc:g[h.size+2]?=Td (.loop (rec .ready Te))
 box:Blk g h.size #[aK sl]
 o:Owns g (h.size+4) 9 1 sl (xs.map ZC)
 it:MapIt g (h.size+3) m (Yx ps) (xs.reverse.map ZC)
 nd:xs.Nodup
 sub:∀x∈xs,x∈ps.map (·.1)
 gz:h.size+4<=g.size
theorem LA(ps:List (Bt×Value)):(Yx ps).map (·.1)=(ps.map (·.1)).map ZC:=by unfold Yx;rw[ZY,ZY];rfl
theorem Lr{ks:List Bt}(h:ks.Nodup):(ks.map ZC).Nodup:=by
 induction ks with
 |nil=>exact zb6
 |cons k ks b=>rw[zaj]at h;rw[ZE,zaj];refine⟨λc=>?_,b h.2⟩;obtain⟨x,f,e⟩:=ZI.1 c;injection e with e;exact h.1 (e ▸ f)
section
variable {h : zc} {m : Nat} {rec : i3} {ps : List (Bt × Value)} {g : zc} {xs : List Bt} {sl : Sl}
set_option maxRecDepth 100000 in
theorem KyS.round(S:KyS h m rec ps g xs sl)(hm:m<h.size)(w:xs.length<=1000000){g1:zc}{k:Bt}(D:MapIt g1 (h.size+3) m (Yx ps) ((k::xs.reverse).map ZC))(z1:g1.size=g.size)(I:∀j,j≠h.size+3->g1[j]?=g[j]?)(hk:k∉xs)(C:k∈ps.map (·.1)) {x6 Y V U:Value} (hK:∀g' F,KyS h m rec ps g' (xs++[k]) F->g'[h.size+3]?=g1[h.size+3]?->g'[m]?=g1[m]?->K (.bool Ta) g'):
  lM Tp 13 (l6 (codeOf Tryz.f277)) (lK (codeOf Tryz.f277)) rec (h.size+2) K [(7,[],.string k),(0,[],V),(1,[],U),(2,[],.pointer (Td ⟨h.size,0,Te⟩)),(4,[],Y),(6,[],x6)] g1:=by
 apply yy;have gz:=S.gz;have ky:=S.keep.size;refine⟨by rw[I _ (by omega)];exact S.rc,?_⟩;intro c;have t:∀j,j≠h.size+2->c[j]?=g1[j]?:=λj y=>zo y;have l2:c[h.size+2]?=Td (.loop (rec .busy Te)):=set_self (by omega);have z2:c.size=g1.size:=ZL;clear_value c;have l:∀j,j≠h.size+2->j≠h.size+3->c[j]?=g[j]?:=λj a b=>(t j a).trans (I j b);have L:Blk c h.size #[aK sl]:=S.box.keep (l _ (by omega) (by omega));refine⟨sl,L.cell rfl,?_⟩;intro u;have H:Keep c.size c u:=Keep.push _ _ (XV _);have z3:u.size=c.size+1:=XY _;have S3:Blk u c.size #[.string k]:=Blk.new _ _ _;clear_value u;have o2:Owns c (h.size+4) 9 1 sl (xs.map ZC):=S.o.keep λp r=>by have:=S.o.base_le p r;exact l _ (by omega) (by omega)
 have J:=o2.keepN H;have hl:=nP S.o;refine Zs pp J (src:=⟨Td ⟨c.size,0,Te⟩,1,1⟩) (news:=[.string k]) (n:=u.size) ?_ rfl (by simp[Value.oneCell']) (by simp only;omega) (by simp only;omega) (by omega) λB O q1 M P q4 q5=>⟨B,rfl,?_⟩;refine .inr ⟨c.size,0,rfl,by omega,λi v A=>?_⟩
 match i,A with
 |0,A=>cases A;exact S3.cell rfl
 have z:∀j,j<h.size+4->O[j]?=c[j]?:=λj y=>by rw[P j (by omega) λp r=>by have:=J.base_le p r;omega];exact H.get j (by omega)
 refine Q5 Av xT (L.keep (z _ (by omega))) (by show 0<1;omega) rfl λE Q u3 N=>?_;have f:∀j,j<h.size+4->j≠h.size->E[j]?=c[j]?:=λj y h0=>(N j h0).trans (z j y);have Z:E[h.size+2]?=Td (.loop (rec .busy Te)):=by rw[f _ (by omega) (by omega)];exact l2
 refine⟨Z,hK _ B ⟨?_,?_,set_self (by omega),?_,?_,?_,?_,?_,?_⟩ ?_ ?_⟩;refine S.keep.trans ⟨by rw[ZL];omega,λj y=>?_⟩ (XV _);rw[zo (by omega),f j (by omega) (by omega),l j (by omega) (by omega)];rw[zo (by omega),f _ (by omega) (by omega),l _ (by omega) (by omega)];exact S.d;exact Blk.keep Q (zo (by omega));have:Owns E (h.size+4) 9 1 B ((xs++[k]).map ZC):=by rw[ZT];exact M.keep λp r=>by have:=M.base_le p r;exact N _ (by omega)
 exact this.keep λp r=>by have:=this.base_le p r;exact zo (by omega)
 rw[List.reverse_append];refine D.keep ?_ ?_;rw[zo (by omega),f _ (by omega) (by omega),t _ (by omega)];rw[zo (by omega),f _ (by omega) (by omega),t _ (by omega)];rw[za7];exact⟨S.nd,by simp,λa T b G e=>by rw[YY]at G;subst G;subst e;exact hk T⟩;intro x w;rw[YK,YY]at w;rcases w with w|rfl;exact S.sub x w;exact C;rw[ZL];omega;rw[zo (by omega),f _ (by omega) (by omega),t _ (by omega)];rw[zo (by omega),f _ (by omega) (by omega),t _ (by omega)]
end
set_option maxRecDepth 100000 in
theorem LX{ps:List (Bt×Value)}(C:Blk h c #[.map (Td m)])(W:MapW h m (Yx ps))(P:(ps.map (·.1)).Nodup)(hl:ps.length<=1000000) (hK:∀(h':zc) (sl:Sl) (xs:List Bt),Keep h.size h h'->Owns h' h.size 9 1 sl (xs.map ZC)->xs.Perm (ps.map (·.1))->K (.slice sl.a sl.len sl.cap) h'):
  XC Tp 277 #[.slice Te 0 0,.func (.func 222) #[] #[.pointer (Td ⟨c,0,Te⟩)]] h K:=by
 apply yx ⟨Te,0,0⟩;intro h1;have U:Keep h.size h h1:=Keep.push _ _ (XV _);have Z:h1.size=h.size+1:=XY _;have B1:Blk h1 h.size #[aK ⟨Te,0,0⟩]:=Blk.new _ _ _;clear_value h1;have Q:=W.lt;have hc:=C.lt;refine⟨_,_,rfl,VD,λrec M=>?_⟩;obtain⟨f,b⟩:∃f:zc,f=((h1.push (.deferred (Td []))).push (.loop (rec .ready Te))):=⟨_,rfl⟩;have T:Keep h1.size h1 f:=by rw[b];exact(Keep.push _ _ (XV _)).trans (Keep.push _ _ (by rw[XY];omega)) (XV _)
 have z4:f.size=h1.size+2:=by rw[b,XY,XY]
 have O:f[h1.size]?=Td (.deferred (Td [])):=by rw[b,zau,za (by rw[XY];omega)];exact qm _ _
 have N:f[h1.size+1]?=Td (.loop (rec .ready Te)):=by rw[b];have:=qm (h1.push (.deferred (Td []))) (.loop (rec .ready Te));rw[XY]at this;exact this
 rw[<-b];clear b;have l:Keep h.size h f:=U.trans T (by omega);have G:h1.size=h.size+1:=Z;rw[G]at O N M ⊢;apply yo;refine⟨Td m,(C.keep (l.get c hc)).cell rfl,?_⟩;have W4:MapW f m (Yx ps):=W.keep (l.get m Q);refine A1 LJ W4 λh5 z5 w t=>⟨Td ⟨f.size,0,Te⟩,rfl,λg=>∃xs sl,KyS h m rec ps g xs sl,λg=>leftN g (h.size+3) m,⟨[],⟨Te,0,0⟩,?_⟩,?_⟩;have H:f.size=h.size+3:=by omega
 rw[H]at t;exact⟨l.trans w (by omega),(w.get _ (by omega)).trans O,(w.get _ (by omega)).trans N,(B1.ofKeep T).keep (w.get _ (by omega)),Owns.nil _ _ _ _,t,zb6,λx i=>(by cases i),by omega⟩;have H:f.size=h.size+3:=by omega
 rw[H];rintro g ⟨xs,sl,S⟩;have y:((Yx ps).map (·.1)).Nodup:=by rw[LA];exact Lr P
 have z:xs.length<=1000000:=by have h1:=w3 S.nd S.sub;rw[YF]at h1;omega
 refine xX S.it y (by omega) (λn=>.inl ⟨rfl,(λi=>by cases i),λ_=>.inl ⟨S.rc,?_⟩⟩) λk v F V g1 A u B J rF=>.inr ⟨k,v,rfl,λ_=>?_,λi=>by cases i⟩;have aa:=S.gz;refine⟨sl,?_,?_,hK _ sl xs ?_ ?_ ?_⟩;exact(S.box.keep (zo (by omega))).cell rfl;rw[zo (by omega)];exact S.d;refine S.keep.trans ⟨by rw[ZL,ZL];exact XV _,λj hj=>?_⟩ (XV _);rw[zo (by omega),zo (by omega)];refine(S.o.keep λp E=>?_).base (by omega);have:=S.o.base_le p E;rw[zo (by omega),zo (by omega)];refine(List.perm_ext_iff_of_nodup S.nd P).2 λa=>⟨S.sub a,λha=>?_⟩;obtain⟨p,E,rfl⟩:=ZI.1 ha;have:=n (.string p.1,p.2) (ZI.2 ⟨p,E,rfl⟩);obtain⟨x,i,e⟩:=ZI.1 this;injection e with e;subst e;exact List.mem_reverse.1 i;obtain⟨⟨L,vv⟩,r,e⟩:=ZI.1 F;injection e with G e2;subst G;subst e2;have D:L∉xs:=λi=>V (ZI.2 ⟨L,List.mem_reverse.2 i,rfl⟩);refine zZ u ⟨_,_,rfl,M ?_ ?_⟩;rw[J _ (by omega)];exact S.rc;refine S.round Q z A B J D (ZI.2 ⟨_,r,rfl⟩) λg' I S' Y q2=>⟨Ta,rfl,(λi=>by cases i),λ_=>⟨⟨_,I,S'⟩,?_⟩⟩;show leftN g' (h.size+3) m<_;rw[leftN.keep Y q2];exact rF
theorem Oa{ps:List (Bt×Value)}(C:Blk h c #[.map (Td m)])(W:MapW h m (Yx ps))(l:(ps.map (·.1)).Nodup)(j:ps.length<=1000000) (r:∀h' sl,Keep h.size h h'->Owns h' h.size 9 1 sl ((zq (ps.map (·.1))).map ZC)->K (.slice sl.a sl.len sl.cap) h'):
  XC Tp 161 #[.func (.func 222) #[] #[.pointer (Td ⟨c,0,Te⟩)]] h K:=by
 apply Zh;apply xu;refine LX C W l j λh1 sl xs e k b=>⟨sl,rfl,sl,rfl,?_⟩;have f:xs.length<=1000000:=by rw[b.length_eq,YF];exact j
 refine XC.mono (Hu k f) ?_;rintro v h2 ⟨rfl,t,o,n⟩;refine⟨rfl,r h2 sl ⟨zay e.size o,λi hi=>?_⟩ (by rw[<-Pu b];exact t)⟩;refine(n i (zbu hi e.size) λp b=>?_).trans (e.get i hi);have:=(k.base_le p b).1;omega
end
end Go.X
end
section
namespace Go.X
open Go Go.Lib
section
def jQ:List (Bt×Tr)->Bt->Tr
 |[],_=>.mk 0 (bl []) [] []
 |p::l,k=>if p.1=k then p.2 else jQ l k
mutual
def zt:Tr->Tr
 |.mk k s ks xs=>if k=6 then .mk k s (zq ks) ((zq ks).map λq=>jQ (ks.zip (qS xs)) q)else .mk k s [] (qS xs)
def qS:List Tr->List Tr
 |[]=>[]
 |x::l=>zt x::qS l
end
def Zw(v:Tr):Tr:=if xx v=Ta then zt v else .mk 0 (bl []) [] []
theorem EF:∀l:List Tr,qS l=l.map zt
 |[]=>rfl
 |x::l=>by rw[qS,EF l];rfl
theorem AT(v:Tr):zt v=if v.kind=6 then .mk v.kind v.text (zq v.keys) ((zq v.keys).map λq=>jQ (v.keys.zip (v.items.map zt)) q)else .mk v.kind v.text [] (v.items.map zt):=by
 cases v with
 |mk k s ks xs=>rw[zt,EF]
theorem Aq(k:Bt):∀(ks:List Bt) (ys:List Tr),ks.length=ys.length->k∈ks->∃(j:Nat) (h1:j<ks.length) (l:j<ys.length),ks[j]=k/\jQ (ks.zip ys) k=ys[j]/\∀us:List Value,us.length=ks.length->hX (ks.zip us) k=us[j]?
 |[],_,_,h=>by cases h
 |z::ks,[],h,_=>by simp at h
 |z::ks,y::ys,h,hk=>by
  by_cases hz:z=k;refine⟨0,by simp,by simp,hz,?_,λus b=>?_⟩;rw[zbw,jQ,zb hz];rfl
  match us,b with
  |u::us,_=>rw[zbw,hX,zb hz];rfl
  have c:k∈ks:=by rcases YB.1 hk with e|e;exact absurd e.symm hz;exact e
  obtain⟨j,h1,l,f,m,i⟩:=Aq k ks ys (by simpa using h) c;refine⟨j+1,by simp;omega,by simp;omega,by simpa using f,?_,λus b=>?_⟩;rw[zbw,jQ,za hz,m];rfl
  match us,b with
  |u::us,b=>rw[zbw,hX,za hz,i us (by simpa using b)];rfl
end
end Go.X
end
section
namespace Go.X
open Go Go.X Go.Proofs Go.RowKit
section
variable {ks:List Bt}
theorem Owns.frz{h g:zc}{M M':Fr}(L:Later h M g M'){s:Sl}{base:Nat}(o:Owns g base 9 1 s (ks.map ZC))(B:h.size<=base)(D:ks.length<=1000000):
  ∃k,Later h M g k/\(∀c,c<base->k c=M' c)/\Rd k (.row .str) ks [aK s]:=by
 have p:=nP o;rcases o.2 with⟨j,h0⟩|⟨b,cap,f,j,n,r,A,C,z,t⟩;have l:ks=[]:=YU (by omega);subst l;simp only[ZG]at j;refine⟨M',L,λ_ _=>rfl,⟨_,rfl,s.a,s.cap,?_,⟨by simp,by simp⟩,.inl rfl⟩⟩;show aK s=_;unfold aK;rw[h0];rfl;simp only[ZG]at j;obtain⟨u,_,y⟩:=j;have w:Blk g b f:=⟨_,r⟩;refine⟨MxL M' g [b],⟨L.keep,L.le.trans (qD L.ag _),λx l=>?_,MxL.ag L.ag _⟩,λc y=>?_,⟨_,rfl,s.a,s.cap,?_,⟨by omega,by omega⟩,.inr ⟨b,0,f,u,MxL.at (by simp) w,λi hi=>?_⟩⟩⟩;unfold MxL;rw[za (by simp;omega)];exact L.old x l;unfold MxL;rw[za (by simp;omega)];show aK s=_;unfold aK;rw[p];show cut f (0+i*1) 1=[.string ks[i]];apply zab;intro q;rw[qj];by_cases m:q<1;have:q=0:=by omega
 subst this;rw[zb m];have e:(f.toList.take (s.len*1))[i]?=(ks.map ZC)[i]?:=by rw[t]
 rw[ZJ,zb (by omega)]at e;rw[show 0+i*1+0=i from by omega,e];simp[hi];rw[za m,ZQ (by simp;omega)]
structure SrS (h:zc) (M:Fr) (r o lo:Nat) (k:Int) (s:Bt) (sk:Sl) (xs:List Tr) (g:zc) (M':Fr) (so:Sl) (bs:List Nat):Prop where
 L:Later h M g M'
 res:Blk g r #[.int .i64 0,.string ⟨#[]⟩,.slice Te 0 0,.slice Te 0 0]
 out:Blk g o #[.int .i64 k,.string s,aK sk,aK so]
 row:ORow lo g M' .tree xs so bs
 nO:M' o=Te
 nR:M' r=Te
 hr:h.size<=r
 ro:r<o
 ol:o<lo
 lg:lo<=g.size
section
variable {h : zc} {M : Fr} {r o lo : Nat} {k : Int} {s : Bt} {sk : Sl} {xs : List Tr} {g : zc} {M' : Fr} {so : Sl} {bs : List Nat}
theorem SrS.add(S:SrS h M r o lo k s sk xs g M' so bs)(hn:xs.length<=1000000){g1:zc}{y:Fr}(m:Later g M' g1 y){x:Tr}{H E:Sl}(T:RdV y .tree x (.agg #[.int .i64 x.kind,.string x.text,aK H,aK E])){K:zc->Prop}
  (hK:∀g' so' bs',SrS h M r o lo k s sk (xs++[x]) g' y so' bs'->(∀j,j<lo->j≠o->g'[j]?=g[j]?)->K g'):
  let f:=g1.push (.cells #[.int .i64 x.kind,.string x.text,aK H,aK E] 25)
  yp Tp (YO #[23,23] 23 #[aK so,.slice (Td ⟨g1.size,0,Te⟩) 1 1]) f (λv n=>∃z:Sl,v=aK z/\XRunU Tp (YG 23 (.pointer (Td (XT ⟨o,0,Te⟩ 3))) (aK z)) n K):=by
 intro f;have F:Keep g1.size g1 f:=Keep.push _ _ (XV _);have ac:f.size=g1.size+1:=XY _;have V:Blk f g1.size [.int .i64 x.kind,.string x.text,aK H,aK E].toArray:=Blk.new _ _ _;clear_value f;have z1:=m.keep.size;have Q:=S.hr;have O:=S.ro;have D:=S.ol;have ae:=S.lg;have p:Later g M' f y:=m.trans (Later.same m.ag F);have w:=S.row.call p;have rd:Rd y .tree x [.int .i64 x.kind,.string x.text,aK H,aK E]:=by
  unfold RdV at T;simp only[iu,if_true]at T;obtain⟨cs,e,Q⟩:=T;injection e with e;have:cs=[.int .i64 x.kind,.string x.text,aK H,aK E]:=by have:=congrArg zcn e;simpa using this.symm
  rw[<-this];exact Q
 refine ORow.app D7 (by omega) p.ag w (by omega) V rd hn λY n bs' l aa ab G=>⟨Y,rfl,?_⟩;have A:∀c∈bs,lo<=c/\c<g.size/\M' c=Te:=S.row.own;have t:∀j,j<lo->n[j]?=g[j]?:=λj I=>by rw[G j (by omega) (λU=>by have:=(A j U).1;omega),F.get j (by omega)];exact m.keep.get j (by omega)
 rw[zh];refine Q5 O8 OM (S.out.keep (t o D)) (by show 3<4;omega) rfl λC u1 u3 P=>?_;have i:∀j,j<lo->j≠o->C[j]?=g[j]?:=λj I h0=>(P j h0).trans (t j I);have u:∀c∈bs',lo<=c/\c<n.size/\y c=Te:=l.own;have hg:=S.L.keep.size;refine hK C Y bs' ⟨⟨⟨by omega,λj I=>?_⟩,S.L.le.trans m.le,λb hb=>?_,?_⟩,?_,u1,?_,?_,?_,Q,O,D,by omega⟩ i;rw[i j (by omega) (by omega)];exact S.L.keep.get j I;rw[m.old b (by omega)];exact S.L.old b hb;intro c cs e;have B:=p.ag.lt e;have N:c∉bs:=λU=>by obtain⟨_,h1,Z⟩:=A c U;rw[m.old c h1,Z]at e;cases e
 have J:c≠o:=λh=>by subst h;rw[m.old c (by omega),S.nO]at e;cases e
 rw[P c J,G c B N];exact p.ag c cs e;exact S.res.keep (i r (by omega) (by omega));exact l.frame (λc B=>P c (by have:=(u c B).1;omega)) (Fr.le.refl _) λc B=>(u c B).2.2;rw[m.old o (by omega)];exact S.nO;rw[m.old r (by omega)];exact S.nR
theorem SrS.fin(S:SrS h M r o lo k s sk xs g M' so bs)(O:xs.length<=1000000)(I:Rd M' (.row .str) ks [aK sk]){w:Tr}(N:Tr.mk k s ks xs=w):
  ∃(D:Int) (A:Bt) (u t:Sl),zf g ⟨o,0,Te⟩ 0 [.int .i64 D,.string A,aK u,aK t]/\XRunU Tp (YG 25 (.pointer (Td ⟨r,0,Te⟩)) (.agg #[.int .i64 D,.string A,aK u,aK t])) g λl=>
   ∃(x:Int) (E:Bt) (y B:Sl),zf l ⟨r,0,Te⟩ 0 [.int .i64 x,.string E,aK y,aK B]/\∃z q,Later h M l z/\ig z [.tree] q (.agg #[.int .i64 x,.string E,aK y,aK B])/\q=w:=by
 refine⟨k,s,sk,so,S.out.ld (cs:=[_,_,aK sk,aK so]),?_⟩;refine mS S.res λg2 p U T=>⟨k,s,sk,so,T.ld (cs:=[_,_,aK sk,aK so]),?_⟩;have V:=S.hr;have H:=S.ro;have F:=S.ol;have J:=S.lg;have i:∀c∈bs,lo<=c/\c<g.size/\M' c=Te:=S.row.own;have f:AgM M' g2:=λc cs e=>by rw[p c (λh=>by subst h;rw[S.nR]at e;cases e)];exact S.L.ag c cs e
 have m:ORow lo g2 M' .tree xs so bs:=S.row.frame (λc n=>p c (by have:=(i c n).1;omega)) (Fr.le.refl _) λc n=>(i c n).2.2;have C:Later h M g2 M':=⟨⟨by have:=S.L.keep.size;omega,λj Q=>by rw[p j (by omega)];exact S.L.keep.get j Q⟩,S.L.le,S.L.old,f⟩;refine⟨MxL M' g2 bs,_,⟨C.keep,C.le.trans (qD f bs),λb G=>?_,MxL.ag f bs⟩,Y2.2 (qe (v:=.mk k s ks xs) (I.mono (qD f bs)) (m.rd f (λc n=>n) O)),N⟩;unfold MxL;rw[za (λP=>by have:=(i b P).1;omega)];exact S.L.old b G
end
set_option maxRecDepth 100000 in
set_option maxHeartbeats 2000000 in
theorem Hm:∀(n:Nat) (v:Tr),n<=1000000->bR v<=n->Zk zl v=Ta->Sm v->∀(h:zc) (M:Fr) (u:Value),AgM M h->RdV M .tree v u->PX Tp 101 #[u] h M [.tree] (λq=>q=zt v)
 |0,v,_,hz,_,_=>by have:=Ye v;omega
 |n+1,v,hn,hz,hok,hsm=>by
  intro h M u ag hu;have aP:=hu;obtain⟨sk,si,rfl,rk,ri⟩:=qn hu;have l:=hok;rw[Zb,YH]at l;have aJ:v.items.length<=1000000:=by have:=Zc v.items;rw[wy]at hz;omega
  have ih:∀(i:Nat) (hi:i<v.items.length) (h:zc) (M:Fr) (u:Value),AgM M h->RdV M .tree v.items[i] u->PX Tp 101 #[u] h M [.tree] (λq=>q=zt v.items[i]):=λi hi=>by
   have hm:=YI hi;have hs:=qp hm;have am:Zk zl v.items[i]=Ta:=by rw[jw,ZH]at l;exact l.2 _ hm
   exact Hm n v.items[i] (by omega) (by omega) am (hsm.item hm)
  obtain⟨li,_,_⟩:=rowLen ri;apply PX.of;apply RA v.kind v.text sk si;intro h1;have k1:Keep h.size h h1:=Keep.push _ _ (XV _);have z1:h1.size=h.size+1:=XY _;have B1:Blk h1 h.size #[.int .i64 v.kind,.string v.text,aK sk,aK si]:=Blk.new _ _ _;clear_value h1;intro f;have k2:Keep h1.size h1 f:=Keep.push _ _ (XV _);have z2:f.size=h1.size+1:=XY _;have R2:Blk f h1.size #[.int .i64 0,.string ⟨#[]⟩,.slice Te 0 0,.slice Te 0 0]:=Blk.new _ _ _;clear_value f;have B2:=B1.ofKeep k2;refine⟨v.kind,B2.cellAdd (o:=0) (k:=0) rfl,v.text,B2.cellAdd (o:=0) (k:=1) rfl,?_⟩;intro h5;have k5:Keep f.size f h5:=Keep.push _ _ (XV _);have z5:h5.size=f.size+1:=XY _;have O5:Blk h5 f.size #[.int .i64 0,.string ⟨#[]⟩,.slice Te 0 0,.slice Te 0 0]:=Blk.new _ _ _;clear_value h5;refine mS (sk:=⟨Te,0,0⟩) (si:=⟨Te,0,0⟩) O5 λh6 f6 z6 O6=>?_;have k6:Keep f.size f h6:=⟨by omega,λj H=>by rw[f6 j (by omega)];exact k5.get j H⟩;have N:Keep h.size h h6:=(k1.trans k2 (by omega)).trans k6 (by omega);have B6:=B2.ofKeep k6;have R6:=R2.ofKeep k6;have aE:=ag.keep N;refine⟨v.kind,B6.cellAdd (o:=0) (k:=0) rfl,λhx=>?_,λhx=>?_⟩;have h6:v.kind≠6:=by simpa using hx
  have hS:zt v=.mk v.kind v.text [] (v.items.map zt):=by rw[AT,za h6]
  refine⟨si,B6.cellAdd (o:=0) (k:=3) rfl,λi g=>∃(m:Nat) (M':Fr) (so:Sl) (bs:List Nat),i=(m:Int)/\m<=v.items.length/\SrS h M h1.size f.size (f.size+1) v.kind v.text ⟨Te,0,0⟩ ((v.items.take m).map zt) g M' so bs,λi _=>v.items.length-i.toNat,⟨0,M,⟨Te,0,0⟩,[],rfl,YT _,⟨Later.same ag N,R6,O6,ORow.nil,ag.none (by omega),ag.none (by omega),by omega,by omega,by omega,by omega⟩⟩,?_⟩;rintro i g ⟨m,M',so,bs,rfl,hm,S⟩;have t:=S.L.ag;refine⟨λP=>?_,λP=>?_⟩;have b:m<v.items.length:=by have:=zA P;omega
  obtain⟨a,ck,ci,ea,aN,t1,t2⟩:=Jn t (ri.mono S.L.le) b;refine⟨a,⟨ea,by omega,by omega⟩,v.items[m].kind,v.items[m].text,ck,ci,by rw[XW];exact aN,?_⟩;intro D;have aH:Keep g.size g D:=Keep.push _ _ (XV _);have aZ:D.size=g.size+1:=XY _;have aF:Blk D g.size #[.int .i64 0,.string ⟨#[]⟩,.slice Te 0 0,.slice Te 0 0]:=Blk.new _ _ _;clear_value D;refine mS aF λZ aG aV aL=>?_;have aA:Keep g.size g Z:=⟨by omega,λj H=>by rw[aG j (by omega)];exact aH.get j H⟩;have a7:=S.out.lt;refine⟨so,(S.out.ofKeep aA).cellAdd (o:=0) (k:=3) rfl,v.items[m].kind,v.items[m].text,ck,ci,aL.ld (cs:=[_,_,aK ck,aK ci]),?_⟩;have az:Later g M' Z M':=Later.same t aA;refine(ih m b _ _ _ az.ag (qe t1 t2)).go λw ax O q F y hq=>?_;subst hq;obtain⟨xk,xi,rfl,y1,y2⟩:=qn (Y2.1 y);have aY:=F.keep.size;have ho:ax[f.size]?=Z[f.size]?:=F.keep.get _ (by omega);refine⟨_,_,xk,xi,rfl,by rw[zh];exact ho,?_⟩;intro ba;refine⟨by rw[zh];exact((Keep.push ax _ (XV _)).get f.size (by omega)).trans ho,S.add (by rw[YF,ZP];omega) (az.trans F) (qe y1 y2) λg' so' bs' S' _=>⟨⟨m+1,O,so',bs',by rw[qz b (by omega)],b,?_⟩,?_⟩⟩;rw[YD b,ZT];exact S';show v.items.length-(XS .i64 ((m:Int)+1)).toNat<v.items.length-(m:Int).toNat;rw[qz b (by omega)];omega;have b:m=v.items.length:=by have:=zG P;omega
  subst b;rw[YR]at S;exact S.fin (by rw[YF];exact aJ) kW hS.symm;have V:v.kind=6:=by simpa using hx
  have hS:zt v=.mk v.kind v.text (zq v.keys) ((zq v.keys).map λq=>jQ (v.keys.zip (v.items.map zt)) q):=by rw[AT,zb V]
  have r:=l.1;have ar:v.keys.Nodup:=by unfold zl ye at r;simp[V]at r;exact r.1.1.2
  have aj:v.keys.length=v.items.length:=by unfold zl at r;simp[V]at r;exact r.1.2
  refine⟨v.kind,v.text,sk,si,B6.ld (cs:=[_,_,aK sk,aK si]),?_⟩;refine xL ar aj (by omega) aE aP λE m us ak aU br aT au=>⟨Td m,rfl,?_⟩;have bn:=ak.size;apply yr;intro B;have ac:Keep E.size E B:=Keep.push _ _ (XV _);have a8:B.size=E.size+1:=XY _;have aC:Blk B E.size #[.map (Td m)]:=Blk.new _ _ _;clear_value B;have T:MapW B m (Yx (v.keys.zip us)):=au.keep (ac.get m au.lt);have ae:(v.keys.zip us).map (·.1)=v.keys:=List.map_fst_zip (by omega);refine⟨_,rfl,Oa aC T (by rw[ae];exact ar) (by simp;omega) λI sl J ay=>⟨sl,rfl,?_⟩⟩;rw[ae]at ay;have bi:=J.size;have bj:(zq v.keys).length=v.keys.length:=Np _;have A:Keep h6.size h6 I:=(ak.trans ac (by omega)).trans J (by omega);have ai:Keep h.size h I:=N.trans A (by omega);obtain⟨O,F,G,U⟩:=Owns.frz (Later.same ag ai) ay (by omega) (by omega);have aS:Blk I f.size #[.int .i64 v.kind,.string v.text,aK ⟨Te,0,0⟩,aK ⟨Te,0,0⟩]:=O6.keep (A.get _ (by omega));have aa:O f.size=Te:=by rw[G _ (by omega)];exact ag.none (by omega)
  have aQ:O h1.size=Te:=by rw[G _ (by omega)];exact ag.none (by omega)
  rw[zh];refine Q5 FD BX aS (by show 2<4;omega) rfl λz af bg C=>?_;have aB:Later h M z O:=⟨⟨by have:=F.keep.size;omega,λj H=>by rw[C j (by omega)];exact F.keep.get j H⟩,F.le,F.old,λc cs e=>by rw[C c (λh=>by subst h;rw[aa]at e;cases e)];exact F.ag c cs e⟩;have ah:MapW z m (Yx (v.keys.zip us)):=T.keep ((C m (by omega)).trans (J.get m T.lt));have al:=ah.lt;refine⟨sl,Blk.cell (o:=2) af rfl,λi g=>∃(p:Nat) (M':Fr) (so:Sl) (bs:List Nat),i=(p:Int)/\p<=(zq v.keys).length/\SrS h M h1.size f.size z.size v.kind v.text sl (((zq v.keys).take p).map λq=>jQ (v.keys.zip (v.items.map zt)) q) g M' so bs/\Fr.le O M'/\(∀j,j<z.size->j≠f.size->g[j]?=z[j]?),λi _=>(zq v.keys).length-i.toNat,⟨0,O,⟨Te,0,0⟩,[],rfl,YT _,⟨aB,R6.keep ((C _ (by omega)).trans (A.get _ (by omega))),af,ORow.nil,aa,aQ,by omega,by omega,by omega,XV _⟩,Fr.le.refl _,λ_ _ _=>rfl⟩,?_⟩;obtain⟨be,_,_⟩:=rowLen U;rintro i g ⟨p,M',so,bs,rfl,hp,S,Y,fg⟩;have t:=S.L.ag;refine⟨λP=>?_,λP=>?_⟩;have b:p<(zq v.keys).length:=by have:=zA P;omega
  obtain⟨a,aI,x,aM,aD⟩:=l8 t (U.mono Y) b (i:=(p:Int)) rfl (L:=sl.len) rfl (Q:=λx=>x=(zq v.keys)[p]) rfl;subst aD;refine⟨a,aI,(zq v.keys)[p],aM,so,S.out.cellAdd (o:=0) (k:=3) rfl,?_⟩;have aO:(zq v.keys)[p]∈v.keys:=(qy v.keys).mem_iff.1 (YI b);obtain⟨j,j1,j2,e1,e2,e3⟩:=Aq (zq v.keys)[p] v.keys (v.items.map zt) (by rw[YF];exact aj) aO;rw[YF]at j2;have an:j<us.length:=by omega
  obtain⟨ck,ci,eu,t1,t2⟩:=qn (aT j j2 an);have wg:MapW g m (Yx (v.keys.zip us)):=ah.keep (fg m al (by omega));refine⟨v.items[j].kind,v.items[j].text,ck,ci,?_,rfl,?_⟩;have:=Q4 mapVal wg.at (zq v.keys)[p] Tc;have eg:jD (v.keys.zip us) (zq v.keys)[p] (.agg #[.int .i64 0,.string ⟨#[]⟩,.slice Te 0 0,.slice Te 0 0])=us[j]:=by unfold jD;rw[e3 us (by omega),YA an];rfl
  rw[za (by simp),eg,eu]at this;exact this;refine(ih j j2 _ _ _ t (qe (t1.mono S.L.le) (t2.mono S.L.le))).go λw ab M3 q L3 y hq=>?_;subst hq;obtain⟨xk,xi,rfl,y1,y2⟩:=qn (Y2.1 y);have bq:=L3.keep.size;have a6:=S.lg;have ho:ab[f.size]?=g[f.size]?:=L3.keep.get _ (by omega);refine⟨_,_,xk,xi,rfl,by rw[zh];exact ho,?_⟩;intro bm;refine⟨by rw[zh];exact((Keep.push ab _ (XV _)).get f.size (by omega)).trans ho,S.add (by rw[YF,ZP];omega) L3 (qe y1 y2) λg' so' bs' S' f'=>⟨⟨p+1,M3,so',bs',by rw[qz b (by omega)],b,?_,Y.trans L3.le,λj H h0=>(f' j H h0).trans (fg j H h0)⟩,?_⟩⟩;rw[YD b,ZT,ZE,List.map_nil,e2,zbl];exact S';show(zq v.keys).length-(XS .i64 ((p:Int)+1)).toNat<(zq v.keys).length-(p:Int).toNat;rw[qz b (by omega)];omega;have b:p=(zq v.keys).length:=by have:=zG P;omega
  subst b;rw[YR]at S;exact S.fin (by rw[YF];omega) (U.mono Y) hS.symm
end
end Go.X
end
section
namespace Go.X
open Go Go.Lib
section
theorem KZ{v:Tr}(h:iB v=Ta):(v.kind=1/\lb v.text=[]/\v.keys=[]/\v.items=[])\/(v.kind=2/\(lb v.text=[116,114,117,101]\/lb v.text=[102,97,108,115,101])/\v.keys=[]/\v.items=[]) \/ (v.kind=3/\((qg (lb v.text)).2=0/\Zn (qg (lb v.text)).1=lb v.text)/\v.keys=[]/\v.items=[])\/(v.kind=4/\Zv (lb v.text)=Ta/\v.keys=[]/\v.items=[]) \/
  (v.kind=5/\lb v.text=[]/\v.keys=[])\/(v.kind=6/\ye v.keys=Ta/\v.keys.length=v.items.length/\lb v.text=[]):=by
 unfold iB at h;rw[YH]at h;obtain⟨f,h⟩:=h;have f:v.kind≠7:=zA f;unfold zl at h;by_cases h1:v.kind=1;rw[zb h1]at h;simp only[YH,beq_iff_eq,List.isEmpty_iff]at h;exact .inl ⟨h1,h.1.1,h.1.2,h.2⟩;rw[za h1]at h;by_cases c:v.kind=2;rw[zb c]at h;simp only[YH,beq_iff_eq,List.isEmpty_iff,zbt]at h;exact .inr (.inl ⟨c,h.1.1,h.1.2,h.2⟩);rw[za c]at h;by_cases j:v.kind=3;rw[zb j]at h;unfold iX at h;simp only[YH,beq_iff_eq,List.isEmpty_iff,zv]at h;exact .inr (.inr (.inl ⟨j,h.1.1,h.1.2,h.2⟩));rw[za j]at h;by_cases e:v.kind=4;rw[zb e]at h;simp only[YH,List.isEmpty_iff]at h;exact .inr (.inr (.inr (.inl ⟨e,h.1.1,h.1.2,h.2⟩)));rw[za e]at h;by_cases i:v.kind=5;rw[zb i]at h;simp only[YH,beq_iff_eq,List.isEmpty_iff]at h;exact .inr (.inr (.inr (.inr (.inl ⟨i,h.1,h.2⟩))));rw[za i]at h;by_cases b:v.kind=6;rw[zb b]at h;simp only[YH,beq_iff_eq,zv]at h;exact .inr (.inr (.inr (.inr (.inr ⟨b,h.1.1,h.1.2,h.2⟩))));rw[za b,za f]at h;cases h
end
section
variable {xs ys:List Tr} {α:Type} {v:Tr}
theorem PG(h:xs.Perm ys):Zz xs=Zz ys:=by
 induction h with
 |nil=>rfl
 |cons x _ c=>rw[Zz,Zz,c]
 |swap x y l=>simp only[Zz];omega
 |trans _ _ a b=>rw[a,b]
theorem SP(h:xs.Perm ys):X7 xs=X7 ys:=by
 induction h with
 |nil=>rfl
 |cons x _ c=>rw[X7,X7,c]
 |swap x y l=>simp only[X7];omega
 |trans _ _ a b=>rw[a,b]
theorem OK{xs ys:List Nat}(h:xs.Perm ys):xs.sum=ys.sum:=by
 induction h with
 |nil=>rfl
 |cons x _ c=>rw[List.sum_cons,List.sum_cons,c]
 |swap x y l=>simp only[List.sum_cons];omega
 |trans _ _ a b=>rw[a,b]
theorem Ai{p:α->Bool}{xs ys:List α}(h:xs.Perm ys):xs.all p=ys.all p:=by rw[YW,ZH,ZH];exact⟨λa x b=>a x (h.mem_iff.2 b),λa x b=>a x (h.mem_iff.1 b)⟩
theorem yX:∀(ks:List Bt) (ys:List Tr),ks.Nodup->ks.length=ys.length->(ks.map λq=>(q,jQ (ks.zip ys) q))=ks.zip ys
 |[],ys,_,_=>by simp
 |k::ks,[],_,h=>by simp at h
 |k::ks,y::ys,hn,h=>by rw[zaj]at hn;rw[ZE,zbw];congr 1;rw[jQ,zb rfl];rw[<-yX ks ys hn.2 (by simpa using h)];refine zbp λq b=>?_;have:k≠q:=λe=>hn.1 (e ▸ b);rw[jQ,za this];congr 2;exact yX ks ys hn.2 (by simpa using h)
structure SrtF (v w:Tr):Prop where
 k:w.kind=v.kind
 t:w.text=v.text
 kp:w.keys.Perm v.keys
 ip:w.items.Perm (v.items.map zt)
 zp:(w.keys.zip w.items).Perm (v.keys.zip (v.items.map zt))
theorem Ph(b:zl v=Ta)(j:v.kind≠6):v.keys=[]:=by unfold zl at b;simp only[j,if_false]at b;by_cases h1:v.kind=1;simp[h1]at b;exact b.1.2;by_cases c:v.kind=2;simp[c]at b;exact b.1.2;by_cases i:v.kind=3;simp[i]at b;exact b.1.2;by_cases e:v.kind=4;simp[e]at b;exact b.1.2;by_cases h:v.kind=5;simp[h]at b;exact b.2;by_cases f:v.kind=7;simp[f]at b;exact b.1.2;simp[h1,c,i,e,h,f]at b
theorem Ez(b:zl v=Ta)(c:v.kind=6):v.keys.Nodup/\v.keys.length=v.items.length:=by unfold zl ye at b;simp[c]at b;exact⟨b.1.1.2,b.1.2⟩
theorem R7(h:zl v=Ta):SrtF v (zt v):=by
 rw[AT];by_cases b:v.kind=6;rw[zb b];obtain⟨k,j⟩:=Ez h b;have hz:=yX v.keys (v.items.map zt) k (by rw[YF];exact j);have c:=(qy v.keys).map λq=>(q,jQ (v.keys.zip (v.items.map zt)) q);rw[hz]at c;have e:∀l:List Bt,l.zip (l.map λq=>jQ (v.keys.zip (v.items.map zt)) q)=l.map λq=>(q,jQ (v.keys.zip (v.items.map zt)) q):=by
  intro l;induction l with
  |nil=>rfl
  |cons x l i=>rw[ZE,zbw,i,ZE]
 refine⟨rfl,rfl,qy _,?_,?_⟩;have:=c.map (·.2);rw[ZY,List.map_snd_zip (by rw[YF];omega)]at this;exact this;show((zq v.keys).zip _).Perm _;rw[e];exact c;rw[za b];have f:=Ph h b;exact⟨rfl,rfl,by rw[f],.refl _,by rw[f]⟩
theorem W0{a:List α}:a.isEmpty=decide (a.length=0):=by cases a <;> simp
theorem WB{a b:List Bt}(h:a.Perm b):ye a=ye b:=by unfold ye;rw[Ai h];congr 1;rw[YW,zv,zv];exact h.nodup_iff
theorem OS{v w:Tr}(h1:w.kind=v.kind)(b:w.text=v.text)(e:w.keys.length=v.keys.length)(f:w.items.length=v.items.length)(c:ye w.keys=ye v.keys):zl w=zl v:=by unfold zl;rw[h1,b,c,W0,W0,W0,W0,e,f]
theorem Hz(ln:Bool)(nd lv:Nat)(ps:List Bs):(w7 ln nd lv ps).length+(if ps=[]then 0 else 1)=(ps.map λp=>p.length+(1+(Zf ln nd lv).length)).sum:=by
 cases ps with
 |nil=>rfl
 |cons p ps=>
  have:∀b:List Bs,(b.flatMap λq=>44::(Zf ln nd lv++q)).length=(b.map λp=>p.length+(1+(Zf ln nd lv).length)).sum:=by
   intro b;induction b with
   |nil=>rfl
   |cons q b c=>rw[za1,XX,c,ZE,List.sum_cons];simp;omega
  rw[w7,XX,XX,this,ZE,List.sum_cons,za (by simp)];omega
theorem DV{ln:Bool}{nd lv:Nat}{ps b:List Bs}(h:(ps.map ZM).Perm (b.map ZM)):(jE ln nd lv ps).length=(jE ln nd lv b).length:=by
 have e:(ps=[])↔(b=[]):=by have:=h.length_eq;rw[YF,YF]at this;rw[<-zba,<-zba,this]
 have h1:=Hz ln nd (lv+1) ps;have i:=Hz ln nd (lv+1) b;have f:=OK (h.map λn=>n+(1+(Zf ln nd (lv+1)).length));rw[ZY,ZY]at f;have f:(ps.map λp=>p.length+(1+(Zf ln nd (lv+1)).length)).sum=(b.map λp=>p.length+(1+(Zf ln nd (lv+1)).length)).sum:=f;unfold jE;rw[XX,XX];by_cases c:ps=[];rw[zb c]at h1 ⊢;rw[zb (e.1 c)]at i ⊢;omega;rw[za c]at h1 ⊢;rw[za (λq=>c (e.2 q))]at i ⊢;omega
theorem G7{α β γ:Type}(f:α->β->γ):∀(a:List α) (b:List β),List.zipWith f a b=(a.zip b).map λp=>f p.1 p.2
 |[],_=>by simp
 |_::_,[]=>by simp
 |x::a,y::b=>by rw[List.zipWith_cons_cons,zbw,ZE,G7 f a b]
structure SrtG (v:Tr):Prop where
 sz:bR (zt v)=bR v
 dp:iq (zt v)=iq v
 okv:Zk iB (zt v)=Zk iB v
 nok:Zk zl (zt v)=Ta
 tx:∀m,ka m v->ka m (zt v)
 len:∀(ln:Bool) (N lv:Nat),(Qv ln N (zt v) lv).length=(Qv ln N v lv).length
theorem DZ{f:Tr->Tr}:∀{l:List Tr},(∀x∈l,bR (f x)=bR x)->Zz (l.map f)=Zz l
 |[],_=>rfl
 |x::l,h=>by rw[ZE,Zz,Zz,h x YJ,DZ λy b=>h y (XZ _ b)]
theorem Dz{f:Tr->Tr}:∀{l:List Tr},(∀x∈l,iq (f x)=iq x)->X7 (l.map f)=X7 l
 |[],_=>rfl
 |x::l,h=>by rw[ZE,X7,X7,h x YJ,Dz λy b=>h y (XZ _ b)]
theorem wP:∀(n:Nat) (v:Tr),bR v<=n->Zk zl v=Ta->SrtG v
 |0,v,h,_=>by have:=Ye v;omega
 |n+1,v,hz,hok=>by
  rw[Zb,YH,jw,ZH]at hok;obtain⟨j,e⟩:=hok;have S:=R7 j;have c:∀x∈v.items,SrtG x:=λx b=>wP n x (by have:=qp b;omega) (e x b);have i:zl (zt v)=zl v:=OS S.k S.t S.kp.length_eq (by rw[S.ip.length_eq,YF]) (WB S.kp);refine⟨?_,?_,?_,?_,λm h=>?_,λln N lv=>?_⟩;rw[wy,wy v,PG S.ip,DZ λx b=>(c x b).sz];rw[X8,X8 v,SP S.ip,Dz λx b=>(c x b).dp];rw[Zb,Zb _ v,jw,jw,Ai S.ip,List.all_map];have u:iB (zt v)=iB v:=by unfold iB;rw[i,S.k]
  rw[u];congr 1;rw[YW,ZH,ZH];exact⟨λa x b=>by rw[<-(c x b).okv];exact a x b,λa x b=>by show Zk iB (zt x)=Ta;rw[(c x b).okv];exact a x b⟩;rw[Zb,i,j,zal,jw,Ai S.ip,List.all_map,ZH];exact λx b=>(c x b).nok;rw[n3]at h ⊢;obtain⟨⟨h1,o,r⟩,w⟩:=h;refine⟨⟨by rw[S.t];exact h1,by rw[S.kp.length_eq];exact o,λk e=>r k (S.kp.mem_iff.1 e)⟩,uA.2 λx b=>?_⟩;obtain⟨y,f,rfl⟩:=ZI.1 (S.ip.mem_iff.1 b);exact(c y f).tx m (uA.1 w y f);rw[Yg,Yg (v:=v),S.k,S.t];split;rfl;split;rfl;split;simp only[XX,YL];congr 2;refine DV ?_;rw[ZY,ZY];have h1:=S.ip.map λx=>(Qv ln N x (lv+1)).length;rw[ZY]at h1;refine h1.trans ?_;have:v.items.map ((λx=>(Qv ln N x (lv+1)).length) ∘ zt)=v.items.map (ZM ∘ λx=>Qv ln N x (lv+1)):=zbp λx b=>(c x b).len ln N (lv+1);rw[this];split;simp only[XX,YL];congr 2;refine DV ?_;have conv:∀(ks:List Bt) (xs:List Tr),(List.zipWith (jp ln) ks (xs.map λx=>Qv ln N x (lv+1))).map ZM=(ks.zip xs).map λp=>(jp ln p.1 (Qv ln N p.2 (lv+1))).length:=by intro ks xs;rw[G7,List.zip_map_right,ZY,ZY];rfl
  rw[conv,conv];have h1:=S.zp.map λp=>(jp ln p.1 (Qv ln N p.2 (lv+1))).length;refine h1.trans ?_;rw[List.zip_map_right,ZY];have:(v.keys.zip v.items).map ((λp=>(jp ln p.1 (Qv ln N p.2 (lv+1))).length) ∘ Prod.map id zt)=(v.keys.zip v.items).map λp=>(jp ln p.1 (Qv ln N p.2 (lv+1))).length:=zbp λp l=>by have:=(c p.2 (List.of_mem_zip l).2).len ln N (lv+1);show(jp ln p.1 (Qv ln N (zt p.2) (lv+1))).length=_;unfold jp;simp only[XX,YL,this]
  rw[this];rfl
theorem Mc(h:xx v=Ta):zn (zt v)=zn v:=by unfold xx at h;rw[YH]at h;have S:=wP (bR v) v (XV _) h.2;have e:∀w:Tr,zn w=(Zd w&&Zk iB w):=λw=>rfl;rw[e,e,S.okv];unfold Zd;rw[S.sz,S.dp]
theorem Fu(h:zn v=Ta):xx v=Ta:=by have e:zn v=(Zd v&&Zk iB v):=rfl;rw[e,YH]at h;unfold xx;rw[h.1,zal];exact BF (λx b=>by unfold iB at b;rw[YH]at b;exact b.2) v h.2
theorem PT(h:Sm v):Sm (Zw v):=by unfold Zw;by_cases b:xx v=Ta;rw[zb b];unfold xx at b;rw[YH]at b;have S:=wP (bR v) v (XV _) b.2;exact⟨by rw[S.sz];exact h.sz,S.tx _ h.tx⟩;rw[za b];exact⟨by decide,by rw[n3];exact⟨⟨by decide,by decide,by decide⟩,trivial⟩⟩
theorem KW:zn (Zw v)=zn v:=by
 unfold Zw;by_cases b:xx v=Ta;rw[zb b];exact Mc b;rw[za b];cases hr:zn v with
 |true=>exact absurd (Fu hr) b
 |false=>rfl
end
end Go.X
end
section
namespace Go.X
open Go Go.X Go.Proofs Go.RowKit
set_option maxRecDepth 100000 in
section
theorem ON{gl:Fr}(T:GL gl){v:Tr}(O:Sm v){R:Tr->Prop}(o:R (Zw v)):PC Tp gl 56 [Arg.mk .tree v] [.tree] R:=by
 intro h M vs Q ag ha
 match vs,ha with
 |[u],⟨C,_⟩=>
  have C:RdV M .tree v u:=C;have y:=C;obtain⟨sk,si,rfl,rk,ri⟩:=qn C;apply PX.of;apply Uz v.kind v.text sk si;intro h1;have P:Keep h.size h h1:=Keep.push _ _ (XV _);have z1:h1.size=h.size+1:=XY _;have B1:Blk h1 h.size #[.int .i64 v.kind,.string v.text,aK sk,aK si]:=Blk.new _ _ _;clear_value h1;intro n;have k2:Keep h1.size h1 n:=Keep.push _ _ (XV _);have z2:n.size=h1.size+1:=XY _;have U:Blk n h1.size #[.int .i64 0,.string ⟨#[]⟩,.slice Te 0 0,.slice Te 0 0]:=Blk.new _ _ _;clear_value n;have I:=B1.ofKeep k2;have F:Keep h.size h n:=P.trans k2 (by omega);have N:Later h M n M:=Later.same ag F;refine⟨v.kind,v.text,sk,si,I.ld (cs:=[_,_,aK sk,aK si]),?_⟩;refine(vM T O (R:=λr=>r=xx v) rfl).go (vs:=[.agg #[.int .i64 v.kind,.string v.text,aK sk,aK si]]) Q N.ag (qk y ym) λw Z D r m p hr=>?_;subst hr;have z8:=m.keep.size;have J:=U.keep (m.keep.get h1.size (by omega));have B8:=I.keep (m.keep.get h.size (by omega));have H:D h1.size=Te:=by rw[m.old _ (by omega)];exact ag.none (by omega)
  have A:=N.trans m;have stay:∀{g g':zc} {M':Fr},Later h M g M'->M' h1.size=Te->(∀j,j≠h1.size->g'[j]?=g[j]?)->g'.size=g.size->Later h M g' M':=λ {g g' M'} L hn f z=>⟨⟨by have:=L.keep.size;omega,λj hj=>by rw[f j (by omega)];exact L.keep.get j hj⟩,L.le,L.old,λc cs e=>by rw[f c (λh=>by subst h;rw[hn]at e;cases e)];exact L.ag c cs e⟩;refine⟨_,ib p,λb=>?_,λb=>?_⟩;have b:xx v=Tc:=by simpa using b
  unfold Zw at o;rw[za (by rw[b];simp)]at o;refine mS (k:=0) (s:=⟨#[]⟩) (sk:=⟨Te,0,0⟩) (si:=⟨Te,0,0⟩) J λg f z B=>⟨_,_,_,_,B.ld (cs:=[.int .i64 0,.string ⟨#[]⟩,aK ⟨Te,0,0⟩,aK ⟨Te,0,0⟩]),?_⟩;exact⟨D,_,stay A H f z,Y2.2 (qe (v:=.mk 0 (bl []) [] []) kW kW),o⟩;have b:xx v=Ta:=by simpa using b
  unfold Zw at o;rw[zb b]at o;unfold xx Zd at b;simp only[YH,zv]at b;refine⟨v.kind,v.text,sk,si,B8.ld (cs:=[_,_,aK sk,aK si]),?_⟩;refine(Hm (bR v) v (by omega) (XV _) b.2 O Z D _ m.ag (RdV.mono m.le y)).go λw Y t q i l V=>?_;subst V;obtain⟨G,E,rfl,S,y2⟩:=qn (Y2.1 l);have aa:=i.keep.size;refine⟨_,_,G,E,rfl,?_⟩;refine mS (J.keep (i.keep.get h1.size (by omega))) λg f z B=>⟨_,_,G,E,B.ld (cs:=[_,_,aK G,aK E]),?_⟩;have x:t h1.size=Te:=by rw[i.old _ (by omega)];exact H
  exact⟨t,_,stay (A.trans i) x f z,Y2.2 (qe S y2),o⟩
end
end Go.X
end
section
namespace Go.X
open Go Go.Lib
section
variable {l:List Tr} {m:Nat}
def nJ(k:Bt):Bt:=bl (107::(ik (lb k)).1)
def mT(v:Tr):Bt:=if v.kind=5 then bl [91]else if v.kind=6 then bl [123]else bl (Qv Tc 0 v 0)
mutual
def im:Tr->Nat->List (Bt×Int)
 |.mk k s ks xs,n=>(if k=6 then gR xs ks n else if k=5 then iz xs n else [])++[(mT (.mk k s ks xs),(n:Int))]
def iz:List Tr->Nat->List (Bt×Int)
 |[],_=>[]
 |x::l,n=>im x n++iz l (n+(im x n).length)
def gR:List Tr->List Bt->Nat->List (Bt×Int)
 |[],_,_=>[]
 |x::l,ks,n=>im x n++((nJ ks.head!,(n:Int))::gR l ks.tail (n+(im x n).length+1))
end
theorem OG(v:Tr)(n:Nat):im v n=(if v.kind=6 then gR v.items v.keys n else if v.kind=5 then iz v.items n else [])++[(mT v,(n:Int))]:=by cases v;rw[im]
mutual
def ny:Tr->Nat
 |.mk k _ _ xs=>(if k=6 then mj 1 xs else if k=5 then mj 0 xs else 0)+1
def mj(d:Nat):List Tr->Nat
 |[]=>0
 |x::l=>ny x+d+mj d l
end
mutual
theorem rh:∀(v:Tr) (n:Nat),(im v n).length=ny v
 |.mk k s ks xs,n=>by rw[im,ny,XX,ZF];congr 1;split;exact G5 xs ks n;split;exact CL xs n;rfl
theorem CL:∀(l:List Tr) (n:Nat),(iz l n).length=mj 0 l
 |[],_=>by rw[iz,mj];rfl
 |x::l,n=>by rw[iz,mj,XX,rh x n,CL l];omega
theorem G5:∀(l:List Tr) (ks:List Bt) (n:Nat),(gR l ks n).length=mj 1 l
 |[],_,_=>by rw[gR,mj];rfl
 |x::l,ks,n=>by rw[gR,mj,XX,YL,rh x n,G5 l];omega
end
theorem H6:∀(l:List Tr) (m:List Tr) (n:Nat),iz (l++m) n=iz l n++iz m (n+(iz l n).length)
 |[],m,n=>by rw[iz];rfl
 |x::l,m,n=>by rw[ZU,iz,iz,H6 l m,YS,XX];congr 3;omega
theorem MG(h:m<l.length)(n:Nat):iz (l.take (m+1)) n=iz (l.take m) n++im l[m] (n+(iz (l.take m) n).length):=by rw[YD h,H6,iz,iz,ZO]
theorem Dq:∀(l:List Tr) (m:List Tr) (ks:List Bt) (n:Nat),gR (l++m) ks n=gR l ks n++gR m (ks.drop l.length) (n+(gR l ks n).length)
 |[],m,ks,n=>by rw[gR];rfl
 |x::l,m,ks,n=>by rw[ZU,gR,gR,Dq l m,YS,ZU,XX,YL,YL,<-List.drop_tail];congr 4;omega
theorem QA{ks:List Bt}(h:m<l.length)(b:m<ks.length)(n:Nat):
  gR (l.take (m+1)) ks n=gR (l.take m) ks n++(im l[m] (n+(gR (l.take m) ks n).length)++[(nJ ks[m],((n+(gR (l.take m) ks n).length:Nat):Int))]):=by
 rw[YD h,Dq,gR,gR,ZP,zck (by omega)];congr 4;rw[zaf b];rfl
def iy(X:List (Bt×Int)):List (Bt×Int):=X.take 513
theorem tv(X:List (Bt×Int)):(iy X).length<=513:=by unfold iy;rw[ZP];omega
theorem pe{X:List (Bt×Int)}(h:X.length<=513):iy X=X:=ZS h
theorem tY(X:List (Bt×Int))(f:Nat->List (Bt×Int)):iy (iy X++f (iy X).length)=iy (X++f X.length):=by
 by_cases h:X.length<=513;rw[pe h];have b:(iy X).length=513:=by unfold iy;rw[ZP];omega
 unfold iy at b ⊢;rw[zb5 (Nat.le_of_eq b.symm),zb5 (by omega:513<=X.length),zdj];rfl
theorem CX{X:List (Bt×Int)}(h:X.length<=513)(p:Bt×Int):(if X.length<=512 then X++[p]else X)=iy (X++[p]):=by
 split;rename_i b;rw[pe (by simp;omega)];rename_i b;have:X.length=513:=by omega
 unfold iy;rw[zb5 (by omega),ZS h]
end
end Go.X
end
section
namespace Go.X
open Go Go.X Go.Proofs Go.RowKit
section
variable {h h' h'':zc} {M M' M'':Fr} {bs bs' b1 b2:List Nat} {b lo bv:Nat} {K:Value -> zc -> Prop}
theorem Later.own{h g:zc}(L:Later h M g M')(e:∀c∈bs,h.size<=c):Later h M g (MxL M' g bs):=by
 refine⟨L.keep,L.le.trans (qD L.ag bs),λc f=>?_,MxL.ag L.ag bs⟩;have i:c∉bs:=λb=>by have:=e c b;omega
 rw[<-L.old c f];unfold MxL;rw[za i]
structure Grw (h:zc) (M:Fr) (b:Nat) (bs:List Nat) (h':zc) (M':Fr) (bs':List Nat):Prop where
 grow:h.size<=h'.size
 le:Fr.le M M'
 old:∀c,c<h.size->M' c=M c
 ag:AgM M' h'
 fr:∀j,j<h.size->j≠b->j∉bs->h'[j]?=h[j]?
 nw:∀c∈bs',c∈bs\/h.size<=c
theorem Grw.refl(ag:AgM M h):Grw h M b bs h M bs:=⟨XV _,Fr.le.refl _,λ_ _=>rfl,ag,λ_ _ _ _=>rfl,λ_ c=>.inl c⟩
theorem Grw.trans{bs bs' e:List Nat}(A:Grw h M b bs h' M' bs')(B:Grw h' M' b bs' h'' M'' e):Grw h M b bs h'' M'' e:=by have m:=A.grow;refine⟨zay A.grow B.grow,A.le.trans B.le,λc f=>(B.old c (by omega)).trans (A.old c f),B.ag,λj l h0 i=>(B.fr j (by omega) h0 λk=>?_).trans (A.fr j l h0 i),λc f=>?_⟩;rcases A.nw j k with h|h;exact i h;omega;rcases B.nw c f with h|h;exact A.nw c h;exact .inr (by omega)
theorem Grw.ofCall(L:Later h M h' M')(A:Grw h' M' b bs h'' M'' bs')(l:∀c∈bs,c<h.size):Grw h M b bs h'' M'' bs':=by have f:=L.keep.size;refine⟨zay f A.grow,L.le.trans A.le,λc e=>(A.old c (by omega)).trans (L.old c e),A.ag,λj k h0 i=>(A.fr j (by omega) h0 i).trans (L.keep.get j k),λc e=>?_⟩;rcases A.nw c e with h|h;exact .inl h;exact .inr (by omega)
structure TbS (lo:Nat) (h:zc) (M:Fr) (b:Nat) (S:List (Bt×Int)) (sl sf:Sl) (b1 b2:List Nat):Prop where
 box:Blk h b #[aK sl,aK sf]
 r1:ORow lo h M .str (S.map (·.1)) sl b1
 r2:ORow lo h M (.int .i64) (S.map (·.2)) sf b2
 dj:∀c∈b1,c∉b2
 n1:b∉b1
 n2:b∉b2
 nM:M b=Te
 lb:lo<=b
def Tb(lo:Nat)(h:zc)(M:Fr)(b:Nat)(S:List (Bt×Int))(bs:List Nat):Prop:=∃sl sf b1 b2,bs=b1++b2/\TbS lo h M b S sl sf b1 b2
theorem TbS.call{S:List (Bt×Int)}{sl sf:Sl}(B:TbS lo h M b S sl sf b1 b2)(L:Later h M h' M'):TbS lo h' M' b S sl sf b1 b2:= ⟨B.box.keep (L.keep.get b B.box.lt),B.r1.call L,B.r2.call L,B.dj,B.n1,B.n2,(L.old b B.box.lt).trans B.nM,B.lb⟩
theorem Tb.call{S:List (Bt×Int)}(B:Tb lo h M b S bs)(L:Later h M h' M'):Tb lo h' M' b S bs:=by obtain⟨sl,sf,b1,b2,e,B⟩:=B;exact⟨sl,sf,b1,b2,e,B.call L⟩
theorem Tb.lt{S:List (Bt×Int)}(B:Tb lo h M b S bs):∀c∈bs,c<h.size:=by obtain⟨sl,sf,b1,b2,rfl,B⟩:=B;intro c e;rcases YK.1 e with h|h;exact(B.r1.own c h).2.1;exact(B.r2.own c h).2.1
theorem Tb.ltb{S:List (Bt×Int)}(B:Tb lo h M b S bs):b<h.size:=by obtain⟨sl,sf,b1,b2,rfl,B⟩:=B;exact B.box.lt
structure AdM (lo:Nat) (h:zc) (M:Fr) (b:Nat) (sl sf:Sl) (b0:List Nat) (g:zc) (X:List Bt) (s1:Sl) (c1:List Nat) (Y:List Int) (s2:Sl) (c2:List Nat):Prop where
 box:Blk g b #[aK sl,aK sf]
 r1:ORow lo g M .str X s1 c1
 r2:ORow lo g M (.int .i64) Y s2 c2
 dj:∀c∈c1,c∉c2
 n1:b∉c1
 n2:b∉c2
 gr:h.size<=g.size
 bh:b<h.size
 fr:∀j,j<h.size->j≠b->j∉b0->g[j]?=h[j]?
 w1:∀c∈c1,c∈b0\/h.size<=c
 w2:∀c∈c2,c∈b0\/h.size<=c
 ag:AgM M g
 nM:M b=Te
 lb:lo<=b
section
variable {lo : Nat} {h g : zc} {M : Fr} {b : Nat} {sl sf : Sl} {b0 : List Nat} {X : List Bt} {s1 : Sl} {c1 : List Nat} {Y : List Int} {s2 : Sl} {c2 : List Nat}
theorem AdM.start{S:List (Bt×Int)}(B:TbS lo h M b S sl sf b1 b2)(ag:AgM M h):AdM lo h M b sl sf (b1++b2) h (S.map (·.1)) sl b1 (S.map (·.2)) sf b2:= ⟨B.box,B.r1,B.r2,B.dj,B.n1,B.n2,XV _,B.box.lt,λ_ _ _ _=>rfl,λc e=>.inl (YM _ e),λc e=>.inl (ZD _ e),ag,B.nM,B.lb⟩
theorem AdM.push(D:AdM lo h M b sl sf b0 g X s1 c1 Y s2 c2)(o:Obj):AdM lo h M b sl sf b0 (g.push o) X s1 c1 Y s2 c2:=by have k:Keep g.size g (g.push o):=Keep.push _ _ (XV _);have l:=D.gr;have hz:(g.push o).size=g.size+1:=XY _;refine⟨D.box.ofKeep k,D.r1.frame (λc e=>k.get c (D.r1.own c e).2.1) (Fr.le.refl _) λc e=>(D.r1.own c e).2.2,D.r2.frame (λc e=>k.get c (D.r2.own c e).2.1) (Fr.le.refl _) λc e=>(D.r2.own c e).2.2,D.dj,D.n1,D.n2,by omega,D.bh,λj i h0 f=>(k.get j (by omega)).trans (D.fr j i h0 f),D.w1,D.w2,D.ag.keep k,D.nM,D.lb⟩
theorem AdM.lab(D:AdM lo h M b sl sf b0 g X s1 c1 Y s2 c2)(p:lo<=h.size)(m:X.length<=1000000){x:Bt}(t:Blk g bv #[.string x]) (u:∀(l:Sl) (g':zc) (n:List Nat),AdM lo h M b sl sf b0 g' (X++[x]) l n Y s2 c2->g.size<=g'.size->(∀j,j<g.size->j∉c1->g'[j]?=g[j]?)->K (aK l) g'):
  yp Tp (YO #[22,22] 22 #[aK s1,.slice (Td ⟨bv,0,Te⟩) 1 1]) g K:=by
 have y:=D.gr;refine ORow.app Rv (by omega) D.ag D.r1 (by omega) (vs:=[.string x]) t rfl m λl g' n r z w f=>u l g' n ⟨D.box.keep (f b D.box.lt D.n1),r,D.r2.frame (λc k=>f c (D.r2.own c k).2.1 λi=>D.dj c i k) (Fr.le.refl _) λc k=>(D.r2.own c k).2.2,λc k i=>?_,λi=>?_,D.n2,by omega,D.bh,λj o h0 m=>(f j (by omega) λi=>?_).trans (D.fr j o h0 m),λc k=>?_,D.w2,λc cs e=>?_,D.nM,D.lb⟩ z f;rcases w c k with h|h;exact D.dj c h i;have:=(D.r2.own c i).2.1;omega;rcases w b i with h|h;exact D.n1 h;have:=D.bh;omega;rcases D.w1 j i with h|h;exact m h;omega;rcases w c k with h|h;exact D.w1 c h;exact .inr (by omega);have k:=D.ag.lt e;rw[f c k λi=>by have:=(D.r1.own c i).2.2;rw[this]at e;cases e];exact D.ag c cs e
theorem AdM.lef(D:AdM lo h M b sl sf b0 g X s1 c1 Y s2 c2)(p:lo<=h.size)(m:Y.length<=1000000){x:Int}(t:Blk g bv #[.int .i64 x]) (u:∀(l:Sl) (g':zc) (n:List Nat),AdM lo h M b sl sf b0 g' X s1 c1 (Y++[x]) l n->g.size<=g'.size->(∀j,j<g.size->j∉c2->g'[j]?=g[j]?)->K (aK l) g'):
  yp Tp (YO #[29,29] 29 #[aK s2,.slice (Td ⟨bv,0,Te⟩) 1 1]) g K:=by
 have y:=D.gr;refine ORow.app nI (by omega) D.ag D.r2 (by omega) (vs:=[.int .i64 x]) t rfl m λl g' n r z w f=>u l g' n ⟨D.box.keep (f b D.box.lt D.n2),D.r1.frame (λc i=>f c (D.r1.own c i).2.1 λk=>D.dj c i k) (Fr.le.refl _) λc i=>(D.r1.own c i).2.2,r,λc i k=>?_,D.n1,λk=>?_,by omega,D.bh,λj o h0 m=>(f j (by omega) λk=>?_).trans (D.fr j o h0 m),D.w1,λc i=>?_,λc cs e=>?_,D.nM,D.lb⟩ z f;rcases w c k with h|h;exact D.dj c i h;have:=(D.r1.own c i).2.1;omega;rcases w b k with h|h;exact D.n2 h;have:=D.bh;omega;rcases D.w2 j k with h|h;exact m h;omega;rcases w c i with h|h;exact D.w2 c h;exact .inr (by omega);have i:=D.ag.lt e;rw[f c i λk=>by have:=(D.r2.own c k).2.2;rw[this]at e;cases e];exact D.ag c cs e
theorem MI:yc Tp 29=Ta:=by kernel_rfl
theorem KV:yf Tp 29=1:=by kernel_rfl
theorem AdM.fin(D:AdM lo h M b sl sf b0 g X s1 c1 Y s2 c2){S:List (Bt×Int)}(m:X=S.map (·.1))(u:Y=S.map (·.2)){K:zc->Prop}(r:∀g' bs',Grw h M b b0 g' M bs'->Tb lo g' M b S bs'->K g'):
  XRunU Tp (YG 22 (.pointer (Td (XT (XT ⟨b,0,Te⟩ 0) 0))) (aK s1)) g λg1=>XRunU Tp (YG 29 (.pointer (Td (XT (XT ⟨b,0,Te⟩ 0) 1))) (aK s2)) g1 K:=by
 subst m;subst u;have w:=D.gr;rw[add0,add0,zh];refine Q5 FD BX D.box (by show 0<2;omega) rfl λg1 l y p=>?_;refine Q5 MI KV l (by show 1<2;omega) rfl λg2 t x o=>?_;have f:∀j,j≠b->g2[j]?=g[j]?:=λj k=>(o j k).trans (p j k);refine r g2 (c1++c2) ⟨by omega,Fr.le.refl _,λ_ _=>rfl,λc cs e=>?_,λj k h0 n=>(f j h0).trans (D.fr j k h0 n),λc i=>?_⟩ ⟨s1,s2,c1,c2,rfl,t,D.r1.frame (λc i=>f c λe=>D.n1 (e ▸ i)) (Fr.le.refl _) λc i=>(D.r1.own c i).2.2,D.r2.frame (λc i=>f c λe=>D.n2 (e ▸ i)) (Fr.le.refl _) λc i=>(D.r2.own c i).2.2,D.dj,D.n1,D.n2,D.nM,D.lb⟩;rw[f c λh=>by subst h;rw[D.nM]at e;cases e];exact D.ag c cs e;rcases YK.1 i with h|h;exact D.w1 c h;exact D.w2 c h
end
end
section
variable {v:Tr} {k:Bt}
set_option maxRecDepth 100000 in
theorem Fi{lo:Nat}{h:zc}{M:Fr}{b:Nat}{S w:List (Bt×Int)}{bs:List Nat}{lab:Bt}{F:FuncId}{A C:Array Value}(hF:zm Tp F=Ta)(H:Tb lo h M b S bs)(ar:lo<=h.size)(Y:w.length<=513) (hk:XC Tp F (A++#[]++C) h λv h1=>v=.tuple #[]/\∃m E,Grw h M b bs h1 m E/\Tb lo h1 m b w E) {K:Value->zc->Prop} (hK:∀h' M' bs',Grw h M b bs h' M' bs'->Tb lo h' M' b (iy (w++[(lab,(S.length:Int))])) bs'->K (.tuple #[]) h'):
  XC Tp 94 #[.pointer (Td ⟨b,0,Te⟩),.string lab,.func (.func F) A C] h K:=by
 obtain⟨sl,sf,b1,b2,rfl,B⟩:=H;have l0:=B.r1.len;rw[YF]at l0;apply Va (Td ⟨b,0,Te⟩) lab F A C;refine⟨⟨b,0,Te⟩,rfl,sl,by rw[add0];exact B.box.cellAdd (o:=0) (k:=0) rfl,hF,XC.mono hk ?_⟩;rintro v h4 ⟨rfl,m,E,T,f,i,d1,d2,rfl,p⟩;have l1:=p.r1.len;have l2:=p.r2.len;rw[YF]at l1 l2;have au:=T.grow;refine⟨rfl,⟨b,0,Te⟩,rfl,f,by rw[add0];exact p.box.cellAdd (o:=0) (k:=0) rfl,λI=>?_,λI=>?_⟩
 ·have I:w.length<=512:=by have:=zA I;omega
  have D:=AdM.start p T.ag;have aa:=p.box.lt;have fin:∀{g:zc} {s1:Sl} {c1:List Nat} {s2:Sl} {c2:List Nat},AdM lo h4 m b f i (d1++d2) g (w.map (·.1)++[lab]) s1 c1 (w.map (·.2)++[(sl.len:Int)]) s2 c2->∃x:Addr,Td (⟨b,0,Te⟩:Addr)=Td x /\
    XRunU Tp (YG 22 (.pointer (Td (XT (XT x 0) 0))) (aK s1)) g (λg1=>∃y:Addr,Td (⟨b,0,Te⟩:Addr)=Td y/\XRunU Tp (YG 29 (.pointer (Td (XT (XT y 0) 1))) (aK s2)) g1 (λg2=>K (.tuple #[]) g2)):=by
   intro g s1 c1 s2 c2 z;refine⟨_,rfl,?_⟩;have:=z.fin (S:=w++[(lab,(sl.len:Int))]) (by simp) (by simp) (K:=λg2=>K (.tuple #[]) g2) λg' bs' T' B'=>hK g' m bs' (T.trans T') (by rw[<-CX Y,zb I,<-l0];exact B');exact XRunU.mono this λg1 h1=>⟨_,rfl,h1⟩
  refine⟨⟨b,0,Te⟩,rfl,f,by rw[add0];exact p.box.cellAdd (o:=0) (k:=0) rfl,⟨b,0,Te⟩,rfl,i,by rw[add0];exact p.box.cellAdd (o:=0) (k:=1) rfl,?_,?_⟩;intro c;have af:Keep h4.size h4 c:=Keep.push _ _ (XV _);have ay:c.size=h4.size+1:=XY _;have Z:Blk c h4.size #[.string lab]:=Blk.new _ _ _;have t:AdM lo h4 m b f i (d1++d2) c _ _ _ _ _ _:=D.push _;clear_value c;have n:c[b]?=h4[b]?:=af.get b aa;refine⟨n,n,?_,?_⟩;refine t.lab (by omega) (by rw[YF];omega) Z λU g' c' z z' u=>⟨U,rfl,?_,?_⟩;exact(u b (by omega) t.n1).trans n;intro r;have ab:Keep g'.size g' r:=Keep.push _ _ (XV _);have ak:Blk r g'.size #[.int .i64 (sl.len:Int)]:=Blk.new _ _ _;have al:AdM lo h4 m b f i (d1++d2) r _ _ _ _ _ _:=z.push _;clear_value r;refine⟨(ab.get b z.box.lt).trans ((u b (by omega) t.n1).trans n),?_⟩;exact al.lef (by omega) (by rw[YF];omega) ak λs2 g2 c2 O _ _=>⟨s2,rfl,fin O⟩;intro j;have P:Keep c.size c j:=Keep.push _ _ (XV _);have ah:Blk j c.size #[.int .i64 (sl.len:Int)]:=Blk.new _ _ _;have Q:AdM lo h4 m b f i (d1++d2) j _ _ _ _ _ _:=t.push _;have an:j.size=c.size+1:=XY _;clear_value j;have L:j[b]?=h4[b]?:=(P.get b (by omega)).trans n;refine⟨L,L,?_⟩;refine Q.lab (by omega) (by rw[YF];omega) (Z.ofKeep P) λU g' c' z z' u=>⟨U,rfl,(u b (by omega) Q.n1).trans L,?_⟩;have hn:c.size∉d1:=λhm=>by have:=(p.r1.own _ hm).2.1;omega
  exact z.lef (by omega) (by rw[YF];omega) (ah.keep (u _ (by omega) hn)) λs2 g2 c2 O _ _=>⟨s2,rfl,fin O⟩;intro e;have ai:Keep h4.size h4 e:=Keep.push _ _ (XV _);have am:e.size=h4.size+1:=XY _;have aj:Blk e h4.size #[.int .i64 (sl.len:Int)]:=Blk.new _ _ _;have ae:AdM lo h4 m b f i (d1++d2) e _ _ _ _ _ _:=D.push _;clear_value e;have G:e[b]?=h4[b]?:=ai.get b aa;refine⟨G,G,?_⟩;intro l;have V:Keep e.size e l:=Keep.push _ _ (XV _);have ax:l.size=e.size+1:=XY _;have ac:Blk l e.size #[.string lab]:=Blk.new _ _ _;have N:AdM lo h4 m b f i (d1++d2) l _ _ _ _ _ _:=ae.push _;clear_value l;have J:l[b]?=h4[b]?:=(V.get b (by omega)).trans G;refine⟨J,J,?_⟩;refine N.lab (by omega) (by rw[YF];omega) ac λU g' c' z z' u=>⟨U,rfl,(u b (by omega) N.n1).trans J,?_⟩;have hn:h4.size∉d1:=λhm=>by have:=(p.r1.own _ hm).2.1;omega
  exact z.lef (by omega) (by rw[YF];omega) ((aj.ofKeep V).keep (u _ (by omega) hn)) λs2 g2 c2 O _ _=>⟨s2,rfl,fin O⟩
 have I:¬w.length<=512:=by have:=zG I;omega
 refine hK h4 m _ T ?_;rw[<-CX Y,za I];exact⟨f,i,d1,d2,rfl,p⟩
theorem Hg{gl:Fr}(c:GL gl)(b:Brn gl)(e:Sm v){R:Bt->Prop}(f:R (Y7 v).1):PC Tp gl 97 [Arg.mk .tree v] [.str] R:=by apply PQ;simp only[j7];exact FZ c b e f
theorem D3(h:iB v=Ta)(j:v.kind≠5)(i:v.kind≠6):v.items=[]/\zn v=Ta:=by
 have hi:v.items=[]:=by unfold iB zl at h;simp only[j,i,if_false]at h;by_cases h1:v.kind=1;simp[h1]at h;exact h.2;by_cases b:v.kind=2;simp[b]at h;exact h.2;by_cases f:v.kind=3;simp[f]at h;exact h.2;by_cases c:v.kind=4;simp[c]at h;exact h.2;by_cases e:v.kind=7;simp[e]at h;simp[h1,b,f,c,e]at h
 refine⟨hi,?_⟩;unfold zn Zd;rw[wy,X8,Zb,hi];simp only[YH,zv];refine⟨⟨by rw[Zz];omega,by rw[X7];omega⟩,?_,by rfl⟩;unfold iB at h;simpa using h
theorem NL(h:Zv (lb k)=Ta):iB (.mk 4 k [] [])=Ta:=by unfold iB zl;simpa[Tr.kind,Tr.text,Tr.keys,Tr.items]using h
theorem Ds(h:Zv (lb k)=Ta):zn (.mk 4 k [] [])=Ta:= (D3 (NL h) (show¬(4:Int)=5 by decide) (show¬(4:Int)=6 by decide)).2
theorem Nu(h:iB v=Ta)(b:v.kind≠5)(c:v.kind≠6):(Y7 v).1=mT v:=by unfold Y7 mT;rw[zb (D3 h b c).2,za b,za c]
theorem Kc(h:Zv (lb k)=Ta):(⟨#[107]⟩:Bt)++(Y7 (.mk 4 k [] [])).1=nJ k:=by unfold Y7 nJ;rw[zb (Ds h),Yg];show bl [107]++bl (ik (lb k)).1=_;rw[zr];rfl
end
section
theorem H8{g:zc}{M:Fr}(ag:AgM M g){k:Int}{s:Bt}{sk si:Sl}{K:zc->Prop}(h:∀g',Later g M g' M->g'.size=g.size+1->Blk g' g.size #[.int .i64 k,.string s,aK sk,aK si]->K g'):
  XRunU Tp (YG 25 (.pointer (Td ⟨g.size,0,Te⟩)) (.agg #[.int .i64 k,.string s,aK sk,aK si])) (zbx g (.cells #[.int .i64 0,.string ⟨#[]⟩,.slice Te 0 0,.slice Te 0 0] 25)) K:=by
 have b:Keep g.size g (zbx g (.cells #[.int .i64 0,.string ⟨#[]⟩,.slice Te 0 0,.slice Te 0 0] 25)):=Keep.push _ _ (XV _);have i:(zbx g (.cells #[.int .i64 0,.string ⟨#[]⟩,.slice Te 0 0,.slice Te 0 0] 25)).size=g.size+1:=XY _;have c:Blk (zbx g (.cells #[.int .i64 0,.string ⟨#[]⟩,.slice Te 0 0,.slice Te 0 0] 25)) g.size #[.int .i64 0,.string ⟨#[]⟩,.slice Te 0 0,.slice Te 0 0]:=Blk.new _ _ _;refine mS c λg' f z B=>h g' (Later.same ag ⟨by omega,λj e=>by rw[f j (by omega)];exact b.get j e⟩) (by omega) B
set_option maxRecDepth 100000 in
set_option maxHeartbeats 2000000 in
theorem E3{gl:Fr}(hg:GL gl)(hb:Brn gl){lo:Nat}:∀(n:Nat) (v:Tr),n<=1000000->bR v<=n->Zk iB v=Ta->Sm v->∀(h:zc) (M:Fr) (b:Nat) (S:List (Bt×Int)) (bs:List Nat) (u:Value),AgM M h->Fr.le gl M->Tb lo h M b S bs->lo<=h.size->S.length<=513->RdV M .tree v u ->
  XC Tp 55 #[.pointer (Td ⟨b,0,Te⟩),u] h λr h'=>r=.tuple #[]/\∃M' bs',Grw h M b bs h' M' bs'/\Tb lo h' M' b (iy (S++im v S.length)) bs'
 |0,v,_,hz,_,_=>by have:=Ye v;omega
 |n+1,v,hn,hz,hok,hsm=>by
  intro h M b S bs u ag hM HB aM hS hu;obtain⟨sk,si,rfl,rk,ri⟩:=qn hu;have E:=hok;rw[Zb,YH]at E;have aS:v.items.length<=1000000:=by have:=Zc v.items;rw[wy]at hz;omega
  have ih:∀(i:Nat) (hi:i<v.items.length) (h:zc) (M:Fr) (S:List (Bt×Int)) (bs:List Nat) (u:Value),AgM M h->Fr.le gl M->Tb lo h M b S bs->lo<=h.size->S.length<=513->RdV M .tree v.items[i] u ->
    XC Tp 55 #[.pointer (Td ⟨b,0,Te⟩),u] h λr h'=>r=.tuple #[]/\∃M' bs',Grw h M b bs h' M' bs'/\Tb lo h' M' b (iy (S++im v.items[i] S.length)) bs':=λi hi h M S bs u=>by
   have hm:=YI hi;have hs:=qp hm;have ax:Zk iB v.items[i]=Ta:=by rw[jw,ZH]at E;exact E.2 _ hm
   exact E3 hg hb n v.items[i] (by omega) (by omega) ax (hsm.item hm) h M b S bs u
  obtain⟨li,_,_⟩:=rowLen ri;obtain⟨lk,_,_⟩:=rowLen rk;have aQ:=HB.ltb;have ae:=HB.lt;apply UW (Td ⟨b,0,Te⟩) v.kind v.text sk si;intro h1;have k1:Keep h.size h h1:=Keep.push _ _ (XV _);have z1:h1.size=h.size+1:=XY _;have P1:Blk h1 h.size #[.pointer (Td ⟨b,0,Te⟩)]:=Blk.new _ _ _;clear_value h1;intro h2;have k2:Keep h1.size h1 h2:=Keep.push _ _ (XV _);have z2:h2.size=h1.size+1:=XY _;have T2:Blk h2 h1.size #[.int .i64 v.kind,.string v.text,aK sk,aK si]:=Blk.new _ _ _;clear_value h2;have P2:=P1.ofKeep k2;have aF:Keep h.size h h2:=k1.trans k2 (by omega);have L2:Later h M h2 M:=Later.same ag aF;have af:=HB.call L2;have row:im v S.length=(if v.kind=6 then gR v.items v.keys S.length else if v.kind=5 then iz v.items S.length else [])++[(mT v,(S.length:Int))]:=OG v _;have fin:∀(A:List (Bt×Int)) (lab:Bt) (F:FuncId) (C:Array Value),im v S.length=A++[(lab,(S.length:Int))]->zm Tp F=Ta -> (∀(h':zc) (M':Fr),Later h2 M h' M'->XC Tp F (#[]++#[]++C) h' λw h1=>w=.tuple #[]/\∃J p,Grw h' M' b bs h1 J p/\Tb lo h1 J b (iy (S++A)) p) ->
    ∀(h':zc) (M':Fr),Later h2 M h' M'->XC Tp 94 #[.pointer (Td ⟨b,0,Te⟩),.string lab,.func (.func F) #[] C] h' λr h3=>r=.tuple #[]/\Value.tuple #[]=Value.tuple #[]/\∃M' bs',Grw h M b bs h3 M' bs'/\Tb lo h3 M' b (iy (S++im v S.length)) bs':=by
   intro A lab F C au hF hk h' M' L';have aO:=L'.keep.size;refine Fi hF (af.call L') (by omega) (tv (S++A)) (hk h' M' L') λh3 M3 ai T3 B3=>⟨rfl,rfl,M3,ai,Grw.ofCall (L2.trans L') T3 ae,?_⟩;have:=tY (S++A) λ_=>[(lab,(S.length:Int))];rw[this,YS,<-au]at B3;exact B3
  refine⟨v.kind,T2.cellAdd (o:=0) (k:=0) rfl,λh5=>?_,λh5=>⟨λh6=>?_,λh6=>?_⟩⟩;have h5:v.kind=5:=by simpa using h5
  refine⟨Td ⟨b,0,Te⟩,P2.cell (o:=0) rfl,?_⟩;refine fin (iz v.items S.length) ⟨#[91]⟩ _ _ (by rw[row,za (by omega),zb h5];unfold mT;rw[zb h5]) (by kernel_rfl) (λh' M' L'=>?_) h2 M (Later.refl L2.ag);show XC _ _ #[.pointer (Td ⟨h1.size,0,Te⟩),.pointer (Td ⟨h.size,0,Te⟩)] _ _;have z':=L'.keep.size;have T':Blk h' h1.size #[.int .i64 v.kind,.string v.text,aK sk,aK si]:=T2.keep (L'.keep.get _ (by omega));have P':Blk h' h.size #[.pointer (Td ⟨b,0,Te⟩)]:=P2.keep (L'.keep.get _ (by omega));have ak:=af.call L';apply Ww ⟨h1.size,0,Te⟩ ⟨h.size,0,Te⟩;refine⟨si,T'.cellAdd (o:=0) (k:=3) rfl,λi g=>∃(m:Nat) (J:Fr) (p:List Nat),i=(m:Int)/\m<=v.items.length/\Grw h' M' b bs g J p/\Tb lo g J b (iy (S++iz (v.items.take m) S.length)) p,λi _=>v.items.length-i.toNat,⟨0,M',bs,rfl,YT _,Grw.refl L'.ag,by rw[zdm,iz,ZO,pe hS];exact ak⟩,?_⟩;rintro i g ⟨m,J,p,rfl,hm,T,B⟩;have gz:=T.grow;refine⟨λhc=>?_,λhc=>?_⟩;have z:m<v.items.length:=by have:=zA hc;omega
  obtain⟨a,ck,ci,ea,ah,t1,t2⟩:=Jn T.ag (ri.mono (L'.le.trans T.le)) z;refine⟨a,⟨ea,by omega,by omega⟩,v.items[m].kind,v.items[m].text,ck,ci,by rw[XW];exact ah,?_⟩;intro aG;refine H8 T.ag λG I aJ aj=>?_;have Pg:Blk G h.size #[.pointer (Td ⟨b,0,Te⟩)]:=P'.keep ((I.keep.get h.size (by omega)).trans (T.fr h.size (by omega) (by omega) λhm=>by have:=ae _ hm;omega));refine⟨Td ⟨b,0,Te⟩,Pg.cell (o:=0) rfl,v.items[m].kind,v.items[m].text,ck,ci,aj.ld (cs:=[_,_,aK ck,aK ci]),?_⟩;refine XC.mono (ih m z G J _ p _ I.ag (hM.trans (L'.le.trans T.le)) (B.call I) (by omega) (tv _) (qe t1 t2)) ?_;rintro r h19 ⟨rfl,M2,ay,aB,al⟩;refine⟨rfl,⟨m+1,M2,ay,by rw[qz z (by omega)],z,T.trans (Grw.ofCall I aB λc hc=>B.lt c hc),?_⟩,?_⟩;have:=tY (S++iz (v.items.take m) S.length) λk=>im v.items[m] k;rw[this,YS,XX,<-MG z]at al;exact al;show v.items.length-(XS .i64 ((m:Int)+1)).toNat<v.items.length-(m:Int).toNat;rw[qz z (by omega)];omega;have z:m=v.items.length:=by have:=zG hc;omega
  subst z;rw[YR]at B;exact⟨rfl,J,p,T,B⟩
  ·have h6:v.kind=6:=by simpa using h6
   have aP:v.keys.length=v.items.length:=by have:=E.1;unfold iB zl at this;simp[h6]at this;exact this.1.2
   have aE:∀k∈v.keys,Zv (lb k)=Ta:=by have:=E.1;unfold iB zl ye at this;simp[h6]at this;exact this.1.1.1
   refine⟨Td ⟨b,0,Te⟩,P2.cell (o:=0) rfl,?_⟩;refine fin (gR v.items v.keys S.length) ⟨#[123]⟩ _ _ (by rw[row,zb h6];unfold mT;rw[za (by omega),zb h6]) (by kernel_rfl) (λh' M' L'=>?_) h2 M (Later.refl L2.ag);show XC _ _ #[.pointer (Td ⟨h1.size,0,Te⟩),.pointer (Td ⟨h.size,0,Te⟩)] _ _;have z':=L'.keep.size;have T':Blk h' h1.size #[.int .i64 v.kind,.string v.text,aK sk,aK si]:=T2.keep (L'.keep.get _ (by omega));have P':Blk h' h.size #[.pointer (Td ⟨b,0,Te⟩)]:=P2.keep (L'.keep.get _ (by omega));have ak:=af.call L';apply Wx ⟨h1.size,0,Te⟩ ⟨h.size,0,Te⟩;refine⟨si,T'.cellAdd (o:=0) (k:=3) rfl,λi g=>∃(m:Nat) (J:Fr) (p:List Nat),i=(m:Int)/\m<=v.items.length/\Grw h' M' b bs g J p/\Tb lo g J b (iy (S++gR (v.items.take m) v.keys S.length)) p,λi _=>v.items.length-i.toNat,⟨0,M',bs,rfl,YT _,Grw.refl L'.ag,by rw[zdm,gR,ZO,pe hS];exact ak⟩,?_⟩;rintro i g ⟨m,J,p,rfl,hm,T,B⟩;have gz:=T.grow;refine⟨λhc=>?_,λhc=>?_⟩
   ·have z:m<v.items.length:=by have:=zA hc;omega
    have aa:m<v.keys.length:=by omega
    have Z:=L'.le.trans T.le;obtain⟨a,ck,ci,ea,ah,t1,t2⟩:=Jn T.ag (ri.mono Z) z;refine⟨a,⟨ea,by omega,by omega⟩,v.items[m].kind,v.items[m].text,ck,ci,by rw[XW];exact ah,?_⟩;intro aG;refine H8 T.ag λG I aJ aj=>?_;have Pg:Blk G h.size #[.pointer (Td ⟨b,0,Te⟩)]:=P'.keep ((I.keep.get h.size (by omega)).trans (T.fr h.size (by omega) (by omega) λhm=>by have:=ae _ hm;omega));have Tg:Blk G h1.size #[.int .i64 v.kind,.string v.text,aK sk,aK si]:=T'.keep ((I.keep.get h1.size (by omega)).trans (T.fr h1.size (by omega) (by omega) λhm=>by have:=ae _ hm;omega));obtain⟨a2,aH,x,aA,aD⟩:=l8 I.ag (rk.mono Z) aa (i:=(m:Int)) rfl (L:=sk.len) rfl (Q:=λx=>x=v.keys[m]) rfl;subst aD;refine⟨Td ⟨b,0,Te⟩,Pg.cell (o:=0) rfl,sk,Tg.cellAdd (o:=0) (k:=2) rfl,a2,aH,v.keys[m],aA,?_⟩;have ar:=aE _ (YI aa);have az:Sm (.mk 4 v.keys[m] [] []):=⟨by rw[wy];simp[Zz],by rw[ka];refine⟨⟨?_,YT _,λk hk=>by cases hk⟩,trivial⟩;have:=hsm.key (YI aa);rw[Yv]at this;exact this⟩;have BB:=B.call I;have Y:∀(f:zc) (j:Fr) (kt:Bt),Later G J f j->kt=(Y7 (.mk 4 v.keys[m] [] [])).1->XC Tp 94 #[.pointer (Td ⟨b,0,Te⟩),.string ((⟨#[107]⟩:Bt)++kt),.func (.func 99) #[] #[.pointer (Td ⟨h.size,0,Te⟩),.pointer (Td ⟨g.size,0,Te⟩)]] f λw am=>w=.tuple #[] /\
      (∃(q:Nat) (J:Fr) (p:List Nat),XS .i64 ((m:Int)+1)=(q:Int)/\q<=v.items.length/\Grw h' M' b bs am J p/\Tb lo am J b (iy (S++gR (v.items.take q) v.keys S.length)) p)/\v.items.length-(XS .i64 ((m:Int)+1)).toNat<v.items.length-(m:Int).toNat:=by
     rintro f j kt l rfl;rw[Kc ar];have aN:=l.keep.size;have V:=I.trans l;refine Fi (by kernel_rfl) (B.call V) (by omega) (tv (iy (S++gR (v.items.take m) v.keys S.length)++im v.items[m] (iy (S++gR (v.items.take m) v.keys S.length)).length)) ?_ λh3 M3 ai T3 B3=>⟨rfl,⟨m+1,M3,ai,by rw[qz z (by omega)],z,T.trans (Grw.ofCall V T3 λc hc=>B.lt c hc),?_⟩,?_⟩;show XC _ _ #[.pointer (Td ⟨h.size,0,Te⟩),.pointer (Td ⟨g.size,0,Te⟩)] _ _;apply Y5 ⟨h.size,0,Te⟩ ⟨g.size,0,Te⟩;refine⟨Td ⟨b,0,Te⟩,(Pg.keep (l.keep.get _ (by omega))).cell (o:=0) rfl,v.items[m].kind,v.items[m].text,ck,ci,(aj.keep (l.keep.get _ (by omega))).ld (cs:=[_,_,aK ck,aK ci]),?_⟩;exact XC.mono (ih m z f j _ p _ l.ag (hM.trans (Z.trans l.le)) (B.call V) (by omega) (tv _) (qe (t1.mono l.le) (t2.mono l.le))) λr h' N=>⟨N.1,rfl,N.2⟩;have e1:=tY (S++gR (v.items.take m) v.keys S.length) λk=>im v.items[m] k++[(nJ v.keys[m],(k:Int))];have e2:=tY (iy (S++gR (v.items.take m) v.keys S.length)++im v.items[m] (iy (S++gR (v.items.take m) v.keys S.length)).length) λ_=>[(nJ v.keys[m],((iy (S++gR (v.items.take m) v.keys S.length)).length:Int))];rw[e2,YS,e1,YS,XX,<-QA z aa]at B3;exact B3;rw[qz z (by omega)];omega
    have ac:∀(t:zc) (y:Fr) (U P:Sl),Later G J t y->RdV y .tree (.mk 4 v.keys[m] [] []) (.agg #[.int .i64 4,.string v.keys[m],aK U,aK P])->∀{K:Value->zc->Prop},(∀f j,Later G J f j->Later t y f j->K (.string (Y7 (.mk 4 v.keys[m] [] [])).1) f) ->
      XC Tp 97 #[.agg #[.int .i64 4,.string v.keys[m],aK U,aK P]] t K:=λt y U P D N K hK=>by
     refine(Hg hg hb az (R:=λr=>r=(Y7 (.mk 4 v.keys[m] [] [])).1) rfl).go (vs:=[.agg #[.int .i64 4,.string v.keys[m],aK U,aK P]]) (hM.trans (Z.trans D.le)) D.ag (qk N ym) λw f j r l O N=>?_;subst N;rw[oc O];exact hK f j (D.trans l) l
    have off:∀{K:Value->zc->Prop},(∀t y U P,Later G J t y->RdV y .tree (.mk 4 v.keys[m] [] []) (.agg #[.int .i64 4,.string v.keys[m],aK U,aK P])->K (.agg #[.int .i64 4,.string v.keys[m],aK U,aK P]) t)->XC Tp 98 #[.string v.keys[m]] G K:=λ {K} hK=>by refine(show PC Tp gl 98 [Arg.mk .str v.keys[m]] [.tree] (λr=>r=.mk 4 v.keys[m] [] [])from by apply Oc;rfl).go (hM.trans Z) I.ag (qk (a:=Arg.mk .str _) (rdStr _) ym) λw t y r D O N=>?_;subst N;have N:=Y2.1 O;obtain⟨U,P,e,_,_⟩:=qn N;subst e;exact hK t y U P D N
    have ab:zw ((⟨#[107]⟩:Bt).size+(Y7 (.mk 4 v.keys[m] [] [])).1.size):=by have h1:=hsm.key (YI aa);unfold Y7;rw[zb (Ds ar),Yg];show zw ((bl [107]).size+(bl (ik (lb v.keys[m])).1).size);have:=r8 (lb v.keys[m]);exact Qf (by simp only[ZF];omega)
    have aL:b<G.size:=by have:=B.ltb;omega
    have H:∀(f:zc) (j:Fr),Later G J f j->f[h.size]?=G[h.size]?:=λf j L=>L.keep.get _ (by omega);refine⟨off λt y U P D N=>⟨_,_,U,P,rfl,H t y D,?_,H t y D,?_⟩,rfl,rfl,rfl,off λt y U P D N=>⟨_,_,U,P,rfl,H t y D,?_⟩⟩;exact ac t y U P D N λf j l _=>⟨_,rfl,ab,H f j l,H f j l,Y f j _ l rfl⟩;exact ac t y U P D N λf j l _=>⟨_,rfl,ab,H f j l,Y f j _ l rfl⟩;exact ac t y U P D N λf j l _=>⟨_,rfl,ab,H f j l,Y f j _ l rfl⟩
   have z:m=v.items.length:=by have:=zG hc;omega
   subst z;rw[YR]at B;exact⟨rfl,J,p,T,B⟩
  have h5:v.kind≠5:=by simpa using h5
  have h6:v.kind≠6:=by simpa using h6
  refine⟨Td ⟨b,0,Te⟩,P2.cell (o:=0) rfl,v.kind,v.text,sk,si,T2.ld (cs:=[_,_,aK sk,aK si]),?_⟩;refine(Hg hg hb hsm (R:=λr=>r=(Y7 v).1) rfl).go (vs:=[.agg #[.int .i64 v.kind,.string v.text,aK sk,aK si]]) hM L2.ag (qk hu ym) λw aC aI r an O N=>?_;subst N;rw[oc O,Nu E.1 h5 h6];refine⟨_,rfl,an.keep.get h.size (by omega),?_⟩;refine fin [] (mT v) _ _ (by rw[row,za h6,za h5]) (by kernel_rfl) (λh' M' L'=>?_) aC aI an;show XC _ _ #[] _ _;apply Wy;exact⟨rfl,M',bs,Grw.refl L'.ag,by rw[ZO,pe hS];exact af.call L'⟩
end
end Go.X
end
section
namespace Go.X
open Go Go.Lib
section
variable {n i:Nat}
def cK(L:List Int)(i:Nat):Int:=L.getD i 0
def lR(L:List Int)(j:Nat):Bool:=decide (0<=cK L j)&&decide (cK L j<=j)&&(ZN j).all λi=>!(decide (cK L j<=(i:Int))&&decide (cK L i<cK L j))
def lG(L:List Int)(j:Nat):Bool:=(ZN j).all (lR L)
def qc(t:List Bt×List Int):Bool:=decide (t.1.length=t.2.length)&&decide (t.1.length<=512)&&lG t.2 t.2.length
def iU(L:List Int)(n i:Nat):Int:=match (ZN n).find? λj=>decide (i<j)&&decide (cK L j<=(i:Int))with
 |some j=>(j:Int)
 |none=>-1
def oR(L:List Int):List Int:=(ZN L.length).map (iU L L.length)
def Jv(L:List Int)(j:Nat):List Nat:=(ZN j).filter λi=>decide (iU L j i<0)
theorem W5{L:List Int}{j:Nat}:lR L j=Ta↔0<=cK L j/\cK L j<=j/\∀i,i<j->cK L j<=(i:Int)->cK L j<=cK L i:=by unfold lR;simp only[YH,zv,ZH,ZR,zb8,Bool.and_eq_false_iff,decide_eq_false_iff_not];constructor;rintro⟨⟨h1,c⟩,e⟩;exact⟨h1,c,λi hi b=>by rcases e i hi with h|h <;> omega⟩;rintro⟨h1,c,e⟩;refine⟨⟨h1,c⟩,λi hi=>?_⟩;by_cases b:cK L j<=(i:Int);exact .inr (by have:=e i hi b;omega);exact .inl b
theorem pv{L:List Int}{j:Nat}:lG L j=Ta↔∀i,i<j->lR L i=Ta:=by unfold lG;simp only[ZH,ZR]
theorem NH{L:List Int}{j:Nat}(h:lG L j=Ta)(c:lR L j=Ta):lG L (j+1)=Ta:=by rw[pv]at h ⊢;intro i hi;rcases ZX i j with b|b;exact h i b;rw[show i=j from by omega];exact c
theorem Vp{p:Nat->Bool}:∀{n j:Nat},(ZN n).find? p=Td j->j<n/\p j=Ta/\∀i,i<j->p i=Tc:=by
 intro n;induction n with
 |zero=>intro j h;simp at h
 |succ n c=>
  intro j h;rw[List.range_succ,List.find?_append]at h;cases e:(ZN n).find? p with
  |some k=>rw[e]at h;simp at h;subst h;obtain⟨h1,f,l⟩:=c e;exact⟨by omega,f,l⟩
  |none=>rw[e]at h;rw[List.find?_eq_none]at e;simp[List.find?]at h;split at h;rename_i b;simp at h;subst h;exact⟨by omega,b,λi hi=>by simpa using e i (ZR.2 hi)⟩;simp at h
theorem Qw(L:List Int)(n i:Nat):(iU L n i=-1/\∀j,i<j->j<n->(i:Int)<cK L j)\/∃p:Nat,iU L n i=(p:Int)/\i<p/\p<n/\cK L p<=(i:Int)/\∀j,i<j->j<p->(i:Int)<cK L j:=by
 unfold iU;cases e:(ZN n).find? λj=>decide (i<j)&&decide (cK L j<=(i:Int))with
 |none=>refine .inl ⟨rfl,λj h1 c=>?_⟩;rw[List.find?_eq_none]at e;have:=e j (ZR.2 c);simp[h1]at this;omega
 |some p=>obtain⟨h1,c,f⟩:=Vp e;simp only[YH,zv]at c;refine .inr ⟨p,rfl,c.1,h1,c.2,λj a b=>?_⟩;have:=f j b;simp[a]at this;omega
theorem CM{L:List Int}{n i p:Nat}(h1:i<p)(f:p<n)(l:cK L p<=(i:Int))(k:∀j,i<j->j<p->(i:Int)<cK L j):iU L n i=(p:Int):=by rcases Qw L n i with⟨_,e⟩|⟨q,e,a,b,c,d⟩;have:=e p h1 f;omega;rw[e];rcases Nat.lt_trichotomy p q with h|h|h;have:=d p h1 h;omega;rw[h];have:=k q a h;omega
theorem Cj{L:List Int}(h:∀j,i<j->j<n->(i:Int)<cK L j):iU L n i=-1:=by rcases Qw L n i with⟨e,_⟩|⟨q,e,a,b,c,d⟩;exact e;have:=h q a b;omega
theorem Gn(L:List Int)(n i:Nat)(hi:i<n):iU L (n+1) i=if iU L n i<0/\cK L n<=(i:Int)then(n:Int)else iU L n i:=by
 rcases Qw L n i with⟨e,h⟩|⟨p,e,a,b,c,d⟩;by_cases f:cK L n<=(i:Int);rw[zb ⟨by omega,f⟩];exact CM hi (by omega) f λj h1 k=>h j h1 k
 rw[za (λq=>f q.2),e];refine Cj λj h1 k=>?_;rcases ZX j n with l|l;exact h j h1 l;rw[show j=n from by omega];omega;rw[za (λq=>by omega),e];exact CM a (by omega) c d
theorem JD(L:List Int)(n:Nat):iU L (n+1) n=-1:=Cj λj h1 b=>by omega
theorem Fw{L:List Int}{j:Nat}(h:lG L j=Ta):∀(k i:Nat),j-i<=k->i<j->∃r,r<j/\iU L j r=-1/\i<=r/\cK L r<=cK L i
 |0,i,hk,hi=>by omega
 |k+1,i,hk,hi=>by rcases Qw L j i with⟨e,_⟩|⟨p,e,a,b,c,_⟩;exact⟨i,hi,e,XV _,Int.le_refl _⟩;obtain⟨r,f,l,m,n⟩:=Fw h k p (by omega) b;rw[pv]at h;have:=(W5.1 (h p b)).2.2 i a c;exact⟨r,f,l,by omega,by omega⟩
theorem Ar{L:List Int}{j i:Nat}:i∈Jv L j↔i<j/\iU L j i=-1:=by unfold Jv;rw[zaq,ZR,zv];constructor;rintro⟨a,b⟩;rcases Qw L j i with⟨e,_⟩|⟨p,e,_⟩;exact⟨a,e⟩;omega;rintro⟨a,b⟩;exact⟨a,by omega⟩
theorem Kp{L:List Int}{j:Nat}(h:lG L j=Ta)(h0:0<=cK L j)(h1:cK L j<=j)(c:∀r∈Jv L j,cK L j<=(r:Int)->cK L j<=cK L r):lR L j=Ta:=by refine W5.2 ⟨h0,h1,λi hi l=>?_⟩;obtain⟨r,e,b,k,f⟩:=Fw h (j-i) i (XV _) hi;have:=c r (Ar.2 ⟨e,b⟩) (by omega);omega
theorem Kw(L:List Int)(j:Nat):Jv L (j+1)=(Jv L j).filter (λi:Nat=>decide ((i:Int)<cK L j))++[j]:=by unfold Jv;rw[List.range_succ,List.filter_append,List.filter_filter];congr 1;refine List.filter_congr λi hi=>?_;rw[ZR]at hi;rw[Gn L j i hi,YW,YH,zv,zv,zv];by_cases b:iU L j i<0;by_cases c:cK L j<=(i:Int);rw[zb ⟨b,c⟩];omega;rw[za (λq=>c q.2)];omega;rw[za (λq=>b q.1)];omega;rw[zb3,zb (by rw[JD];decide)];rfl
theorem V1(L:List Int)(j:Nat):(Jv L j).Pairwise (· < ·):=by unfold Jv;exact List.Pairwise.sublist List.filter_sublist List.pairwise_lt_range
theorem EZ:∀{l:List Nat},l.Pairwise (· < ·)->∀{x:Int} {m:Nat},m<=l.length->(∀i (h:i<l.length),i<m->(l[i]:Int)<x)->(∀i (h:i<l.length),m<=i->x<=(l[i]:Int))->l.filter (λi:Nat=>decide ((i:Int)<x))=l.take m
 |[],_,x,m,_,_,_=>by simp
 |a::l,hp,x,m,hm,h1,h2=>by
  cases m with
  |zero=>rw[zdm,List.filter_eq_nil_iff];intro b c;obtain⟨i,hi,rfl⟩:=zb7.1 c;have:=h2 i hi (YT _);simp;exact this
  |succ m=>rw[zb3,zb (by have:=h1 0 (by simp) (by omega);simpa using this),zct];congr 1;exact EZ (zam.1 hp).2 (by simpa using hm) (λi h hi=>by have:=h1 (i+1) (by simpa using h) (by omega);simpa using this) (λi h hi=>by have:=h2 (i+1) (by simpa using h) (by omega);simpa using this)
theorem Na{L:List Int}(h:i<L.length):(oR L)[i]?=Td (iU L L.length i):=by unfold oR;rw[zap,List.getElem?_range h];rfl
theorem UU(L:List Int):(oR L).length=L.length:=by unfold oR;rw[YF,List.length_range]
end
end Go.X
end
section
namespace Go.X
open Go Go.X Go.Proofs Go.RowKit
section
variable {M:Fr} {a b:Ty} {h g:zc} {n bo bt i:Nat} {ts:Sl} {ct:Array Value}
theorem rQ{x:El (.row a)×El (.row b)}{u:Value}(h:RdV M (.pair (.row a) (.row b)) x u):∃s1 s2:Sl,u=.agg #[aK s1,aK s2]/\Rd M (.row a) x.1 [aK s1]/\Rd M (.row b) x.2 [aK s2]:=by unfold RdV at h;simp only[iu,if_true]at h;obtain⟨cs,rfl,c1,c2,rfl,h1,e⟩:=h;obtain⟨j,rfl,g1⟩:=h1;obtain⟨i,rfl,g2⟩:=e;obtain⟨s1,rfl,f⟩:=jW (M:=M) (t:=a) (xs:=x.1) ((hG rfl).2 ⟨j,rfl,g1⟩);obtain⟨s2,rfl,c⟩:=jW (M:=M) (t:=b) (xs:=x.2) ((hG rfl).2 ⟨i,rfl,g2⟩);exact⟨s1,s2,rfl,f,c⟩
theorem ng{x:El (.row a)×El (.row b)}{s1 s2:Sl}(h1:Rd M (.row a) x.1 [aK s1])(c:Rd M (.row b) x.2 [aK s2]):RdV M (.pair (.row a) (.row b)) x (.agg #[aK s1,aK s2]):=by unfold RdV;simp only[iu,if_true];exact⟨[_,_],rfl,[_],[_],rfl,h1,c⟩
theorem O7(z:Value)(n:Nat):madeCells #[z] n=(za9 n z).toArray:=by apply Array.ext;simp[madeCells];intro i h1 b;simp[madeCells,Nat.mod_one]
theorem sI{t e:TypeId}{z:Value}{bytes:Nat}(E:ElemT Tp t e z 1 bytes)(hz:z.cells=#[z])(f:bytes<=1000)(m:n<=1000000){K:Value->zc->Prop}(l:K (aK ⟨Td ⟨h.size,0,Te⟩,n,n⟩) (h.push (.cells (za9 n z).toArray e))):
  yp Tp (ZW t (.int .i64 (n:Int)) (.int .i64 (n:Int))) h K:=by
 intro B d;obtain⟨i,hi,b,k,j⟩:=E.info;have o:(bytes:Int)*(n:Int)<=1000*1000000:=Int.mul_le_mul (by omega) (by omega) (by omega) (by omega);have c:=run_make (P:=Tp) (mk B d h) t e i z E.slice hi b .i64 .i64 (n:Int) (n:Int) (by omega) (Int.le_refl _) (by rw[j];omega) (by omega);rw[XW,k,zac,hz,O7]at c;exact⟨_,_,_,c,l⟩
theorem CR.pop{els:List (List Value)}{sl:Sl}{b:Nat}{cs:Array Value}(H:CR g 1 els sl b cs){q:Nat}(c:q<=els.length):CR g 1 (els.take q) ⟨sl.a,q,sl.cap⟩ b cs:=by have j:=H.ln;have h:=H.ro.le;refine⟨⟨by show q<=sl.cap;omega,?_⟩,by rw[ZP,zck c],λi e hi=>?_⟩;rcases H.ro.at_ with⟨h1,f⟩|h1;exact .inl ⟨by show q=0;omega,f⟩;exact .inr h1;rw[ZJ]at hi;split at hi;exact H.el i e hi;cases hi
structure ParI (h:zc) (n bo:Nat) (T:List Nat) (outs:List Int) (ts:Sl) (bt:Nat) (ct:Array Value) (g:zc):Prop where
 k:Keep bo h g
 out:Blk g bo (outs.map (zax .i64)).toArray
 ln:outs.length=n
 top:CR g 1 (T.map λi:Nat=>[zax .i64 (i:Int)]) ts bt ct
 hb:bo<bt
theorem ParI.len{T:List Nat}{outs:List Int}(S:ParI h n bo T outs ts bt ct g):ts.len=T.length:=by rw[S.top.ln,YF]
theorem ParI.cell{T:List Nat}{outs:List Int}(S:ParI h n bo T outs ts bt ct g)(hi:i<T.length):ts.a=Td ⟨bt,0,Te⟩/\zd g ⟨bt,0+i,Te⟩=Td (.int .i64 ((T[i]:Nat):Int)):=by
 have b:(T.map λi:Nat=>[zax .i64 (i:Int)])≠[]:=λe=>by rw[List.map_eq_nil_iff]at e;rw[e]at hi;exact absurd hi (zao _)
 obtain⟨c,B⟩:=S.top.blk b;obtain⟨_,f⟩:=S.top.el i [.int .i64 ((T[i]:Nat):Int)] (by rw[zap,YA hi];rfl);refine⟨c,B.cell ?_⟩;have:=wB f (q:=0) (by omega);rw[zac,zco]at this;rw[YP,<-ZZ,this];rfl
theorem ParI.set{T:List Nat}{outs:List Int}(S:ParI h n bo T outs ts bt ct g)(hi:i<n){x:Int}{K:zc->Prop}(p:∀g',ParI h n bo T (outs.set i x) ts bt ct g'->g'.size=g.size->K g'):
  XRunU Tp (YG 3 (.pointer (Td ((⟨bo,0,Te⟩:Addr).add (i*1)))) (.int .i64 x)) g K:=by
 have b:=S.ln;have l:=S.hb;rw[zh,YP,zac];refine Q5 GB (by kernel_rfl) S.out (by simp;omega) rfl λg' c m f=>p g' ⟨⟨by have:=S.k.size;omega,λj o=>(f j (by omega)).trans (S.k.get j o)⟩,?_,by rw[List.length_set];exact b,S.top.frame λ_=>f bt (by omega),l⟩ m;have e:(outs.map (zax .i64)).toArray.setIfInBounds i (.int .i64 x)=((outs.set i x).map (zax .i64)).toArray:=by rw[List.map_set];simp
 rw[e]at c;exact c
theorem Ls{s:Sl}{q:Nat}{i:Int}(h1:i=(q:Int)):(⟨iG s.a 1 (0:Int).toNat ((s.cap:Nat):Int).toNat,i.toNat-(0:Int).toNat,((s.cap:Nat):Int).toNat-(0:Int).toNat⟩:Sl)=⟨s.a,q,s.cap⟩:=by have:iG s.a 1 (0:Int).toNat ((s.cap:Nat):Int).toNat=s.a:=CQ _ _ _;rw[this];congr 1;omega
set_option maxRecDepth 100000 in
set_option maxHeartbeats 2000000 in
theorem PD{gl:Fr}{t:List Bt×List Int}{R:List Int×Bool->Prop}(hR:R (if qc t=Ta then(oR t.2,Ta)else([],Tc))):PC Tp gl 60 [Arg.mk (.pair (.row .str) (.row (.int .i64))) t] [.row (.int .i64),.bool] R:=by
 intro h M vs hM ag ha
 match vs,ha with
 |[u],⟨hu,_⟩=>
  obtain⟨s1,s2,rfl,r1,r2⟩:=rQ (show RdV M (.pair (.row .str) (.row (.int .i64))) t u from hu);apply PX.of;obtain⟨l1,_,_⟩:=rowLen r1;obtain⟨l2,b2,_⟩:=rowLen r2;apply VP s1 s2;intro h1;have k1:Keep h.size h h1:=Keep.push _ _ (XV _);have z1:h1.size=h.size+1:=XY _;have P:Blk h1 h.size #[aK s1,aK s2]:=Blk.new _ _ _;clear_value h1;have H:∀g:zc,qc t=Tc->Keep h.size h g->∃M' r,Later h M g M'/\ig M' [.row (.int .i64),.bool] r (.tuple #[.slice Te 0 0,.bool Tc])/\R r:=λg e k=>⟨M,([],Tc),Later.same ag k,⟨[_,_],⟨_,_,rfl,(hG rfl).2 kW,_,rfl,rdBool _⟩,rfl⟩,by rw[e]at hR;exact hR⟩;refine⟨s1,P.cellAdd (o:=0) (k:=0) rfl,s2,P.cellAdd (o:=0) (k:=1) rfl,s1,λ_=>P.cellAdd (o:=0) (k:=0) rfl,λc=>?_,λc=>?_⟩;refine H _ ?_ k1;cases x:qc t with
  |false=>rfl
  |true=>
   unfold qc at x;simp only[YH,zv]at x;have e1:((s1.len:Int) != (s2.len:Int))=Tc:=by simp;omega
   rw[e1]at c;have:=zA c;omega
  have l:s1.len=s2.len:=by
   by_cases e:s1.len=s2.len;exact e;exfalso;have:((s1.len:Int) != (s2.len:Int))=Ta:=by simp;omega
   simp[this]at c
  have aB:s1.len<=512:=by
   have:((s1.len:Int) != (s2.len:Int))=Tc:=by simp;omega
   rw[this]at c;have:=zG c;omega
  refine⟨s2,P.cellAdd (o:=0) (k:=1) rfl,?_⟩;refine sI (E:=(nI:ElemT _ _ _ _ 1 8)) rfl (by omega) (by omega) ⟨⟨Td ⟨h1.size,0,Te⟩,s2.len,s2.len⟩,rfl,s2,?_,?_⟩;exact(P.keepN (n:=h1.size) (Keep.push _ _ (XV _)) (by omega)).cellAdd (o:=0) (k:=1) rfl;obtain⟨L,hL⟩:∃L,L=t.2:=⟨_,rfl⟩;have hn:L.length=s2.len:=by rw[hL,l2]
  have nr:∀m,m<L.length->lR L m=Tc->qc t=Tc:=λm hm e=>by
   cases x:qc t with
   |false=>rfl
   |true=>unfold qc at x;simp only[YH,zv]at x;rw[hL]at hm e;have:=pv.1 x.2 m hm;rw[e]at this;cases this
  refine⟨λts j g=>∃(m:Nat) (outs:List Int) (bt:Nat) (ct:Array Value),j=(m:Int)/\m<=L.length/\lG L m=Ta/\ParI h1 L.length h1.size (Jv L m) outs ts bt ct g/\∀i,i<m->outs[i]?=Td (iU L m i),λ_ j _=>L.length-j.toNat,?_,?_⟩;refine⟨0,za9 L.length 0,h1.size+1,#[],rfl,YT _,rfl,⟨Keep.push _ _ (XV _),?_,zbq,⟨⟨YT _,.inl ⟨rfl,rfl⟩⟩,rfl,λi e hi=>by simp[Jv]at hi⟩,by omega⟩,λi hi=>by omega⟩;rw[List.map_replicate,hn];exact Blk.new _ _ _;rintro ts j g ⟨m,outs,bt,ct,rfl,hm,O,S,hv⟩;refine⟨λc=>?_,λc=>?_⟩;have l:m<L.length:=by have:=zA c;omega
  have T:Keep h.size h g:=k1.trans S.k (by omega);have ac:AgM M g:=ag.keep T;obtain⟨b,o,e1,y⟩:=vj ac r2 (k:=m) (by rw[<-hL];exact l);have N:t.2[m]'(by rw[<-hL];exact l)=cK L m:=by subst hL;unfold cK;rw[YN,YA l];rfl
  rw[N]at y;refine⟨⟨b,o,Te⟩,⟨e1,by omega,by omega⟩,cK L m,by rw[hH,XW];exact y,λJ=>?_,λJ=>?_⟩;refine H _ (nr m l ?_) T;cases e:lR L m with
  |false=>rfl
  |true=>
   obtain⟨a1,a2,_⟩:=W5.1 e;have e3:decide (cK L m<0)=Tc:=by simp;omega
   rw[e3]at J;have:=zA J;omega
  have a0:0<=cK L m:=by by_cases e:cK L m<0;rw[zH e]at J;cases J;omega
  have a1:cK L m<=m:=by rw[decide_eq_false (show¬cK L m<0 by omega)]at J;have:=zG J;omega
  generalize f:cK L m=lf at *;have hT:∀k,(C:k<(Jv L m).length)->(Jv L m)[k]<m:=λk C=>(Ar.1 (YI C)).1;refine⟨λts g=>∃(q:Nat) (outs:List Int) (ct:Array Value),q<=(Jv L m).length/\ParI h1 L.length h1.size ((Jv L m).take q) outs ts bt ct g/\(∀i,i<m->outs[i]?=Td (if i∈(Jv L m).drop q then(m:Int)else iU L m i))/\∀r∈(Jv L m).drop q,lf<=(r:Int)/\lf<=cK L r,λts _=>ts.len,?_,?_⟩;exact⟨(Jv L m).length,outs,ct,XV _,by rw[ZS (XV _)];exact S,λi hi=>by rw[zaw (XV _),za (by simp)];exact hv i hi,λr x=>by rw[zaw (XV _)]at x;cases x⟩;rintro ts' g' ⟨q,I,G,hq,B,ab,hp⟩;have aC:ts'.len=q:=by rw[B.len,ZP,zck hq]
  have V:Keep h.size h g':=k1.trans B.k (by omega);have au:=B.top.ro.le;have aD:m<=512:=by omega
  have ay:q<=512:=by
   have:(Jv L m).length<=m:=by unfold Jv;exact zay (List.length_filter_le _ _) (by simp)
   omega
  obtain⟨k,C⟩:∃k,k=(Jv L m).getD (q-1) 0:=⟨_,rfl⟩;obtain⟨a,p1⟩:∃a:Addr,0<q->ts'.a=Td a/\zd g' (a.add ((q-1)*1))=Td (.int .i64 (k:Int)):=by by_cases h0:0<q;obtain⟨e3,e4⟩:=B.cell (i:=q-1) (by rw[ZP];omega);refine⟨_,λ_=>⟨e3,?_⟩⟩;rw[zh,zac,e4,List.getElem_take,C,YN,YA (by omega)];rfl;exact⟨⟨0,0,Te⟩,λh=>absurd h h0⟩
  have z:0<q->XS .i64 (((ts'.len:Nat):Int)-1)=((q-1:Nat):Int):=λh0=>by rw[wrap64 (by omega) (by omega)];omega
  have af:0<q->k<m/\k∈Jv L m/\(Jv L m).drop (q-1)=k::(Jv L m).drop q:=λh0=>by
   have e:(Jv L m).getD (q-1) 0=(Jv L m)[q-1]'(by omega):=by rw[YN,YA (by omega)];rfl
   rw[e]at C;refine⟨by rw[C];exact hT _ _,by rw[C];exact YI _,?_⟩;rw[zaf (by omega:q-1<(Jv L m).length),<-C,show q-1+1=q by omega]
  refine⟨a,λc=>?_,(k:Int),λc=>?_,λc=>?_,λc=>?_⟩;have h0:0<q:=by have:=zA c;omega
  exact⟨(p1 h0).1,by rw[z h0];omega,by rw[z h0];omega⟩;have h0:0<q:=by have:=zA c;omega
  rw[z h0,XW];exact(p1 h0).2;have h0:0<q:=by by_cases e:0<q;exact e;rw[decide_eq_false (show¬((ts'.len:Nat):Int)>0 by omega)]at c;cases c
  rw[zH (show((ts'.len:Nat):Int)>0 by omega)]at c;have Z:lf<=(k:Int):=by have:=zA c;omega
  obtain⟨ar,az,U⟩:=af h0;have z:=z h0;obtain⟨b3,o3,e3,e4⟩:=vj (ag.keep V) r2 (k:=k) (by rw[<-hL];omega);have al:t.2[k]'(by rw[<-hL];omega)=cK L k:=by subst hL;unfold cK;rw[YN,YA (by omega)];rfl
  rw[al]at e4;refine⟨a,⟨(p1 h0).1,by rw[z];omega,by rw[z];omega⟩,(k:Int),by rw[z,XW];exact(p1 h0).2,s2,(P.keepN B.k (by omega)).cellAdd (o:=0) (k:=1) rfl,⟨b3,o3,Te⟩,⟨e3,by omega,by omega⟩,cK L k,by rw[hH,XW];exact e4,λh4=>?_,λh4=>?_⟩;refine H _ (nr m l ?_) V;cases e:lR L m with
  |false=>rfl
  |true=>have:=(W5.1 e).2.2 k ar (by rw[f];exact Z);rw[f]at this;have:=zA h4;omega
  have h5:lf<=cK L k:=by have:=zG h4;omega
  have aj:q<=ts'.cap:=by omega
  have Y:(0:Int)<=0/\0<=XS .i64 (((ts'.len:Nat):Int)-1)/\XS .i64 (((ts'.len:Nat):Int)-1)<=((ts'.cap:Nat):Int)/\((ts'.cap:Nat):Int)<=((ts'.cap:Nat):Int):=by rw[z];omega
  have aa:∀g2,ParI h1 L.length h1.size ((Jv L m).take q) (I.set k (m:Int)) ts' bt G g2->(∃(q2:Nat) (outs:List Int) (ct:Array Value),q2<=(Jv L m).length/\ParI h1 L.length h1.size ((Jv L m).take q2) outs ⟨iG ts'.a 1 (0:Int).toNat ((ts'.cap:Nat):Int).toNat,(XS .i64 (((ts'.len:Nat):Int)-1)).toNat-(0:Int).toNat,((ts'.cap:Nat):Int).toNat-(0:Int).toNat⟩ bt ct g2/\(∀i,i<m->outs[i]?=Td (if i∈(Jv L m).drop q2 then(m:Int)else iU L m i))/\∀r∈(Jv L m).drop q2,lf<=(r:Int)/\lf<=cK L r)/\(XS .i64 (((ts'.len:Nat):Int)-1)).toNat-(0:Int).toNat<ts'.len:=λg2 w=>by rw[Ls z];refine⟨⟨q-1,_,G,by omega,⟨w.k,w.out,w.ln,?_,w.hb⟩,λi hi=>?_,λr x=>?_⟩,by rw[z];omega⟩;have:=w.top.pop (q:=q-1) (by rw[YF,ZP];omega);rw[<-List.map_take,zdj,zck (by omega)]at this;exact this;rw[List.getElem?_set,U];by_cases e:k=i;subst e;rw[zb rfl,zb (by rw[B.ln];omega),zb (by simp)];rw[za e,ab i hi];congr 1;by_cases y:i∈(Jv L m).drop q;rw[zb y,zb (XZ _ y)];rw[za y,za (λh=>by rcases YB.1 h with h|h;exact e h.symm;exact y h)];rw[U]at x;rcases YB.1 x with rfl|x;exact⟨Z,h5⟩;exact hp r x
  refine⟨⟨h1.size,0,Te⟩,⟨rfl,by omega,by show(k:Int)<(s2.len:Int);omega⟩,⟨.inl rfl,Y,?_⟩,?_⟩;rw[XW];exact B.set (by omega) λg2 w _=>aa g2 w;rw[XW];exact B.set (by omega) λg2 w _=>⟨.inl rfl,Y,aa g2 w⟩;have Q:0<q->(k:Int)<lf:=λh0=>by rw[zH (show((ts'.len:Nat):Int)>0 by omega)]at c;have:=zG c;omega
  have D:=V1 L m;have A:(Jv L m).filter (λi:Nat=>decide ((i:Int)<cK L m))=(Jv L m).take q:=by
   rw[f];refine EZ D hq (λi hi ah=>?_) λi hi ah=>?_;have h0:0<q:=by omega
   have h1:=Q h0;have e:k=(Jv L m)[q-1]'(by omega):=by rw[C,YN,YA (by omega)];rfl
   rcases ZX i (q-1)with h2|h2;have:=List.pairwise_iff_getElem.1 D i (q-1) hi (by omega) h2;omega;have:i=q-1:=by omega
   subst this;omega;exact(hp _ (by rw[List.mem_drop_iff_getElem];exact⟨i-q,by omega,by congr 1;omega⟩)).1
  have ae:lR L m=Ta:=Kp O (by rw[f];exact a0) (by rw[f];exact a1) λr x ak=>by
   rw[f]at ak ⊢;have an:r∉(Jv L m).take q:=λh=>by rw[<-A,zaq,zv,f]at h;omega
   rw[<-zan q (Jv L m)]at x;rcases YK.1 x with h|h;exact absurd h an;exact(hp r h).2
  refine⟨⟨h1.size,0,Te⟩,⟨rfl,by omega,by show(m:Int)<(s2.len:Int);omega⟩,?_⟩;rw[XW];refine B.set (by omega) λg2 w z2=>?_;intro g3;have k3:Keep g2.size g2 g3:=Keep.push _ _ (XV _);have B3:Blk g3 g2.size [zax .i64 (m:Int)].toArray:=Blk.new _ _ _;have z3:g3.size=g2.size+1:=XY _;clear_value g3;have aE:=w.k.size;have aA:=w.out.lt;have ax:=w.hb;have T3:CR g3 1 (((Jv L m).take q).map λi:Nat=>[zax .i64 (i:Int)]) ts' bt G:=w.top.frame λN=>k3.get bt (by rcases w.top.ro.at_ with⟨e5,e6⟩|⟨_,e6,_⟩;rcases N with N|N;exfalso;have:=w.top.ln;rw[e5]at this;exact N (zba.1 this.symm);exact absurd e6 N;exact e6.lt);refine CR.app (E:=(nI:ElemT _ _ _ _ 1 8)) (by omega) T3 B3 rfl (by intro u hu;simp at hu;rw[hu];rfl) (by rw[YF,ZP];omega) λs' g4 b' c4 T4 z4 w4 l4 f4=>⟨s',rfl,⟨m+1,_,b',c4,by rw[wrap64 (by omega) (by omega)];omega,l,NH O ae,⟨⟨by omega,λj hj=>?_⟩,?_,w.ln,?_,?_⟩,λi hi=>?_⟩,?_⟩;rw[f4 j (by omega) (by rcases w4 with⟨e,_⟩|e <;> omega),k3.get j (by omega)];exact w.k.get j hj;refine w.out.keep ?_;rw[f4 h1.size (by omega) (by rcases w4 with⟨e,_⟩|e <;> omega),k3.get _ (by omega)];rw[Kw,A,ZT];exact T4;rcases w4 with⟨e,_⟩|e <;> omega;rw[List.getElem?_set];by_cases e:m=i;subst e;rw[zb rfl,zb (by rw[B.ln];exact l),JD];rw[za e,ab i (by omega),Gn L m i (by omega),f];congr 1;have F:i∈Jv L m↔iU L m i<0:=by rw[Ar];rcases Qw L m i with⟨e7,_⟩|⟨p,e7,_⟩;exact⟨λ_=>by omega,λ_=>⟨by omega,e7⟩⟩;exact⟨λh=>by omega,λh=>by omega⟩
  by_cases y:i∈(Jv L m).drop q;rw[zb y,zb ⟨F.1 (List.mem_of_mem_drop y),(hp i y).1⟩];rw[za y,za];rintro⟨h6,h7⟩;have h8:=F.2 h6;rw[<-zan q (Jv L m)]at h8;rcases YK.1 h8 with h|h;rw[<-A,zaq,zv,f]at h;omega;exact y h;show L.length-(XS .i64 ((m:Int)+1)).toNat<L.length-((m:Nat):Int).toNat;rw[qz l (by omega)];simp only[XW];omega;have ai:m=L.length:=by have:=zG c;omega
  subst ai;have x:qc t=Ta:=by unfold qc;simp only[YH,zv];exact⟨⟨by omega,by omega⟩,by rw[<-hL];exact O⟩
  rw[x]at hR;have T:Keep h.size h g:=k1.trans S.k (by omega);have ac:AgM M g:=ag.keep T;have ho:outs=oR t.2:=by rw[<-hL];apply zab;intro i;by_cases hi:i<L.length;rw[hv i hi,Na hi];rw[ZQ (by rw[S.ln];omega),ZQ (by rw[UU];omega)]
  refine⟨MxL M g [h1.size],(outs,Ta),MxL.later ag T (by intro b hb;simp at hb;omega),⟨[_,_],⟨_,_,rfl,(hG rfl).2 ⟨_,rfl,Td ⟨h1.size,0,Te⟩,s2.len,?_,⟨?_,?_⟩,.inr ⟨h1.size,0,_,rfl,MxL.at (by simp) S.out,λi hi=>?_⟩⟩,_,rfl,rdBool _⟩,rfl⟩,by rw[ho];exact hR⟩;show zdx _ _ _=zdx _ _ _;rw[S.ln,hn];show outs.length<=_;rw[S.ln];omega;show outs.length<=_;rw[S.ln];omega;show cut (outs.map (zax .i64)).toArray (0+i*1) 1=[zax .i64 outs[i]];refine uj rfl λq hq=>?_;have am:q=0:=by omega
  subst am;have hi:i<outs.length:=hi;simp[hi]
end
end Go.X
end
section
namespace Go.X
open Go Go.ChangeMaps
section
variable {P:Program} {kt:TypeId}
def m9(l:List (Int×Value))(k:Int):Option Value:=match l with
 |[]=>Te
 |p::l=>if p.1=k then Td p.2 else m9 l k
def mr(l:List (Int×Value))(k:Int)(v:Value):List (Int×Value):=match l with
 |[]=>[(k,v)]
 |p::l=>if p.1=k then(k,v)::l else p::mr l k v
def lh(l:List (Int×Value)):List (Value×Value):=l.map λp=>(zax .i64 p.1,p.2)
structure MapTI (P:Program) (t kt et:TypeId):Prop where
 map:P.underlying t=Td (.map kt et)
 key:P.underlying kt=Td (.int .i64)
theorem CO(k:Int):∀(f:List MapEntry) (l:List (Int×Value)) (i:Nat),f.map (λe=>(e.key,e.val))=l.map (λp=>(zax .i64 p.1,p.2)) ->
  (m9 l k=Te/\zbr (.int .i64) (.int .i64 k) f i=Td Te)\/(∃j v e,m9 l k=Td v/\f[j]?=Td e/\e.key=.int .i64 k/\e.val=v/\zbr (.int .i64) (.int .i64 k) f i=Td (Td (i+j,v)) /\ ∀w,(f.modify j λe=>{ e with key:=.int .i64 k,val:=w }).map (λe=>(e.key,e.val))=(mr l k w).map λp=>(zax .i64 p.1,p.2))
 |[],l,i,h=>by
  have:l=[]:=by cases l <;> simp_all
  subst this;exact .inl ⟨rfl,rfl⟩
 |e::f,l,i,h=>by
  cases l with
  |nil=>simp at h
  |cons p l=>
   simp only[ZE,zbs,zar]at h;obtain⟨⟨h1,m⟩,n⟩:=h;by_cases c:p.1=k;refine .inr ⟨0,p.2,e,by simp[m9,c],rfl,by rw[h1,c],m,?_,λw=>?_⟩;have b:(k==p.1)=Ta:=by simpa using c.symm
   simp[zbr,zde,h1,m,b];simp[mr,c,n];have b:(k==p.1)=Tc:=by simpa using λe=>c e.symm
   rcases CO k f l (i+1) n with⟨g1,g2⟩|⟨j,v,u,g1,g2,x,o,t,r⟩;refine .inl ⟨by simp[m9,c,g1],?_⟩;simp[zbr,zde,h1,b,g2];refine .inr ⟨j+1,v,u,by simp[m9,c,g1],by simpa using g2,x,o,?_,λw=>?_⟩;simp[zbr,zde,h1,b,t];omega;simp[mr,c,h1,m,r w]
theorem RN(c:P.underlying kt=Td (.int .i64))(b:Bool)(k:Int)(h:zc):QExec P (Instr.checkKey b 10000 kt (.int .i64 k)) h ():=by intro B d;have e:=QExec.underlying (h:=h) c B d;unfold Instr.checkKey;rw[Sem.run_bind,e];rfl
theorem Gi(c:P.underlying kt=Td (.int .i64))(k:Int)(b:List MapEntry)(r:Option (Nat×Value))(h:zc)(e:zbr (.int .i64) (.int .i64 k) b 0=Td r):
  QExec P (Instr.findKey kt (.int .i64 k) b) h r:=by
 intro B d;have f:=QExec.underlying (h:=h) c B d;unfold Instr.findKey;rw[Sem.run_bind,f];simp only[Result.andThen_ok,e];rfl
theorem Uy{l:List (Int×Value)}{k:Int}{v:Value}(g:m9 l k=Te):mr l k v=l++[(k,v)]:=by
 induction l with
 |nil=>rfl
 |cons p l c=>simp only[m9]at g;split at g;cases g;rename_i b;simp[mr,b,c g]
theorem Ot{t kt et:TypeId}(T:MapTI P t kt et){h:zc}{m:Nat}{l:List (Int×Value)}(H:MapW h m (lh l))(k:Int)(v:Value){K:zc->Prop}
  (M:∀h':zc,MapW h' m (lh (mr l k v))->h'.size=h.size->(∀i,i≠m->h'[i]?=h[i]?)->K h'):XRunU P (zbc t (.map (Td m)) (.int .i64 k) v) h K:=by
 have u:=H.lt;obtain⟨f,c,h1,C,D,F⟩:=H;intro B d;have I:=QExec.underlying (h:=h) T.map B d;have L:=Qr (P:=P) h1 B d;have J:=RN T.key Tc k h B d;have b:∀o:Obj,(setObj m o).run P (mk B d h)=.ok () (mk B d (h.setIfInBounds m o)):=by intro o;have:(mk B d h).heap[m]?=Td (.map f c):=h1;simp[setObj,Sem.run,this];rfl
 unfold zbc;rcases CO k f.toList l 0 C with⟨g1,g2⟩|⟨j,v0,e,g1,g2,Z,g4,V,Q⟩;refine⟨d,h.setIfInBounds m (.map (f.push { key:=.int .i64 k,val:=v,born:=c }) (c+1)),?_,M _ ⟨f.push { key:=.int .i64 k,val:=v,born:=c },c+1,by simp[u],?_,?_,?_⟩ (by simp) (λi hi=>by rw[YV (Ne.symm hi)])⟩;rw[Sem.run_bind,I];simp only[Result.andThen_ok,Sem.run_bind,L,J];rw[Gi T.key k f.toList Te h g2 B d];simp only[Result.andThen_ok];exact b _;rw[Uy g1];unfold lh at C ⊢;simp[C];intro e z;simp at z;rcases z with z|rfl;have:=D e (by simpa using z);omega;simp;simp only[Array.toList_push,ZT,ZE,List.map_nil];rw[za7];refine⟨F,by simp,λx O y S e=>?_⟩;simp at S;obtain⟨A,p,rfl⟩:=ZI.1 O;have:=D A p;omega;have G:j<f.size:=by have:=(ZV.1 g2).1;simpa using this
 have n:((f.modify j λe=>{ e with key:=.int .i64 k,val:=v }).toList.map (·.born))=f.toList.map (·.born):=by apply zab;intro i;simp only[Array.toList_modify,zap,List.getElem?_modify];by_cases w:j=i;subst w;cases f.toList[j]? <;> simp;cases f.toList[i]? <;> simp[w]
 refine⟨d,_,?_,M (h.setIfInBounds m (.map (f.modify j λe=>{ e with key:=.int .i64 k,val:=v }) c)) ⟨f.modify j λe=>{ e with key:=.int .i64 k,val:=v },c,by simp[u],?_,?_,?_⟩ (by simp) (λi hi=>by rw[YV (Ne.symm hi)])⟩;rw[Sem.run_bind,I];simp only[Result.andThen_ok,Sem.run_bind,L,J];rw[Gi T.key k f.toList _ h V B d];simp only[Result.andThen_ok,YP];have r:((f[j]?).map (·.key)).getD (.int .i64 k)=.int .i64 k:=by
  have:f[j]?=Td e:=by simpa using g2
  rw[this];exact Z
 rw[r];have U:zch (.int .i64 k) (.int .i64 k)=pure (.int .i64 k):=by unfold zch;rw[zb (by show((zbh==zbh)&&(k==k))=Ta;simp)]
 rw[U];exact b _;have:=Q v;unfold lh;simpa using this;intro A p;have:A.born∈((f.modify j λe=>{ e with key:=.int .i64 k,val:=v }).toList.map (·.born)):=ZI.2 ⟨A,p,rfl⟩;rw[n]at this;obtain⟨N,E,Y⟩:=ZI.1 this;rw[<-Y];exact D N E;rw[n];exact F
end
end Go.X
end
section
namespace Go.X
open Go Go.Lib
section
def W6(L:List Int):List Nat:=(ZN L.length).filter λi=>(ZN L.length).all λj=>decide (j<=i)||decide (cK L j≠cK L i)
theorem GK{L:List Int}{i:Nat}:i∈W6 L↔i<L.length/\∀j,i<j->j<L.length->cK L j≠cK L i:=by unfold W6;rw[zaq,ZR,ZH];refine and_congr_right λ_=>⟨λh j h1 c=>?_,λh j b=>?_⟩;have:=h j (ZR.2 c);simp only[zbt,zv]at this;rcases this with h|h;omega;exact h;simp only[zbt,zv];by_cases e:j<=i;exact .inl e;exact .inr (h j (by omega) (ZR.1 b))
theorem Dg(L:List Int):(W6 L).Pairwise (· < ·):=by unfold W6;exact List.Pairwise.sublist List.filter_sublist List.pairwise_lt_range
def lJ(L:List Int)(m:Nat):List Nat->List Nat
 |[]=>[m]
 |p::P=>if cK L p=cK L m then m::P else p::lJ L m P
def kc(L:List Int):Nat->List Nat
 |0=>[]
 |m+1=>lJ L m (kc L m)
def mR(L:List Int)(i:Nat):Int×Value:=(cK L i,.int .i64 (i:Int))
theorem Cz(L:List Int)(m:Nat):∀P:List Nat,mr (P.map (mR L)) (cK L m) (.int .i64 (m:Int))=(lJ L m P).map (mR L)
 |[]=>rfl
 |p::P=>by rw[ZE,mr,lJ];by_cases h:cK L p=cK L m;rw[zb h,zb (show(mR L p).1=cK L m from h),ZE];rfl;rw[za h,za (show¬(mR L p).1=cK L m from h),ZE,Cz L m P]
theorem Ap{L:List Int}{m:Nat}:∀{P:List Nat},(P.map (cK L)).Nodup->∀i,i∈lJ L m P↔i=m\/(i∈P/\cK L i≠cK L m)
 |[],_,i=>by simp[lJ]
 |p::P,hn,i=>by rw[ZE,zaj]at hn;rw[lJ];by_cases h:cK L p=cK L m;rw[zb h,YB,YB];refine or_congr_right ⟨λhi=>⟨.inr hi,λe=>hn.1 ?_⟩,λhi=>?_⟩;rw[h,<-e];exact List.mem_map_of_mem hi;rcases hi.1 with rfl|b;exact absurd h hi.2;exact b;rw[za h,YB,YB,Ap hn.2 i];constructor;rintro(rfl|rfl|b);exact .inr ⟨.inl rfl,h⟩;exact .inl rfl;exact .inr ⟨.inr b.1,b.2⟩;rintro(rfl|⟨rfl|b,c⟩);exact .inr (.inl rfl);exact .inl rfl;exact .inr (.inr ⟨b,c⟩)
theorem Hx{L:List Int}{m:Nat}:∀{P:List Nat},(P.map (cK L)).Nodup->((lJ L m P).map (cK L)).Nodup
 |[],_=>by simp[lJ]
 |p::P,hn=>by have i:=hn;rw[ZE,zaj]at hn;rw[lJ];by_cases h:cK L p=cK L m;rw[zb h,ZE,zaj,<-h];exact hn;rw[za h,ZE,zaj];refine⟨λb=>?_,Hx hn.2⟩;obtain⟨q,c,e⟩:=ZI.1 b;rcases(Ap hn.2 q).1 c with rfl|⟨f,_⟩;exact h e.symm;exact hn.1 (e ▸ List.mem_map_of_mem f)
theorem yC(L:List Int):∀m,((kc L m).map (cK L)).Nodup/\∀i,i∈kc L m↔i<m/\∀j,i<j->j<m->cK L j≠cK L i
 |0=>⟨zb6,λi=>by simp[kc]⟩
 |m+1=>by
  obtain⟨h1,k⟩:=yC L m;refine⟨Hx h1,λi=>?_⟩;rw[kc,Ap h1,k];constructor;rintro(rfl|⟨⟨a,b⟩,c⟩);exact⟨by omega,λj _ _=>by omega⟩;refine⟨by omega,λj h l=>?_⟩;rcases ZX j m with f|f;exact b j h f;rw[show j=m from by omega];exact λe=>c e.symm
  rintro⟨a,b⟩;rcases ZX i m with f|f;exact .inr ⟨⟨f,λj h l=>b j h (by omega)⟩,λe=>b m f (by omega) e.symm⟩;exact .inl (by omega)
theorem FS{α β:Type}{f:α->β}{l:List α}(h:(l.map f).Nodup):l.Nodup:=by
 induction l with
 |nil=>exact zb6
 |cons x l c=>rw[ZE,zaj]at h;exact zaj.2 ⟨λb=>h.1 (List.mem_map_of_mem b),c h.2⟩
theorem JU(L:List Int):(kc L L.length).Perm (W6 L):=by obtain⟨h1,b⟩:=yC L L.length;refine(List.perm_ext_iff_of_nodup (FS h1) ((Dg L).imp λh=>Nat.ne_of_lt h)).2 λi=>?_;rw[b,GK]
end
section
variable {n:Nat}
def OkX(n:Nat)(X:List (Bt×Int)):Prop:=∀j (h:j<X.length),(n:Int)<=X[j].2/\X[j].2<=((n+j:Nat):Int)/\∀i (hi:i<X.length),i<j->X[j].2<=((n+i:Nat):Int)->X[j].2<=X[i].2
theorem OkX.nil(n:Nat):OkX n []:=λj h=>absurd h (zao j)
theorem OkX.app{X Y:List (Bt×Int)}(k:OkX n X)(l:OkX (n+X.length) Y):OkX n (X++Y):=by intro j h;rw[XX]at h;by_cases h1:j<X.length;rw[za8 h1];obtain⟨a,b,c⟩:=k j h1;refine⟨a,b,λi hi e f=>?_⟩;rw[za8 (by omega)];exact c i (by omega) e f;rw[zbm (by omega)];obtain⟨a,b,c⟩:=l (j-X.length) (by omega);refine⟨by omega,by omega,λi hi e f=>?_⟩;by_cases m:i<X.length;omega;rw[zbm (by omega)];exact c (i-X.length) (by omega) (by omega) (by omega)
theorem OkX.root{X:List (Bt×Int)}(h:OkX n X)(s:Bt):OkX n (X++[(s,(n:Int))]):=by
 intro j k;rw[XX,ZF]at k;by_cases h1:j<X.length;rw[za8 h1];obtain⟨a,b,c⟩:=h j h1;refine⟨a,b,λi hi e f=>?_⟩;rw[za8 (by omega)];exact c i (by omega) e f;have:j=X.length:=by omega
 subst this;rw[zbm (XV _)];refine⟨by simp,by simp;omega,λi hi e f=>?_⟩;rw[za8 (by omega)];have:=(h i (by omega)).1;simp;exact this
mutual
theorem v6:∀(v:Tr) (n:Nat),OkX n (im v n)
 |.mk k s ks xs,n=>by rw[im];refine OkX.root ?_ _;split;exact Ik xs ks n;split;exact F4 xs n;exact OkX.nil n
theorem F4:∀(l:List Tr) (n:Nat),OkX n (iz l n)
 |[],n=>by rw[iz];exact OkX.nil n
 |x::l,n=>by rw[iz];exact(v6 x n).app (F4 l _)
theorem Ik:∀(l:List Tr) (ks:List Bt) (n:Nat),OkX n (gR l ks n)
 |[],_,n=>by rw[gR];exact OkX.nil n
 |x::l,ks,n=>by rw[gR];have h1:=(v6 x n).root (nJ ks.head!);have b:=h1.app (Y:=gR l ks.tail (n+(im x n).length+1)) (by rw[XX,ZF,<-Nat.add_assoc];exact Ik l _ _);rw[YS]at b;exact b
end
def rR(X:List (Bt×Int)):List Bt×List Int:=(X.map (·.1),X.map (·.2))
theorem UV{w:Tr}(h:ny w<=512):qc (rR (im w 0))=Ta:=by
 have l:=rh w 0;unfold qc rR;simp only[YH,zv,YF];refine⟨⟨by simp,by omega⟩,pv.2 λj f=>W5.2 ?_⟩;have e:∀i (hi:i<(im w 0).length),cK ((im w 0).map (·.2)) i=(im w 0)[i].2:=λi hi=>by unfold cK;rw[YN,zap,YA hi];rfl
 obtain⟨a,b,c⟩:=v6 w 0 j f;rw[e j f];refine⟨by omega,by omega,λi hi k=>?_⟩;rw[e i (by omega)];exact c i (by omega) hi (by omega)
end
end Go.X
end
section
namespace Go.X
open Go Go.X Go.Proofs Go.RowKit
section
variable {g:zc} {b:Nat} {v:Tr}
theorem Ro:yc Tp 31=Ta:=by kernel_rfl
theorem P0:yf Tp 31=2:=by kernel_rfl
theorem L8{x y:Value}(B:Blk g b #[x,y]){s1 s2:Sl}{K:zc->Prop}(f:∀g',(∀j,j≠b->g'[j]?=g[j]?)->g'.size=g.size->Blk g' b #[aK s1,aK s2]->K g'):
  XRunU Tp (YG 31 (.pointer (Td ⟨b,0,Te⟩)) (.agg #[aK s1,aK s2])) g K:=by
 refine mV (vs:=[aK s1,aK s2]) Ro B rfl P0 (XV _) (λu c=>?_) λg' e i h=>f g' h i e;simp at c;rcases c with rfl|rfl <;> rfl
theorem Later.stay{h g g':zc}{M M':Fr}(L:Later h M g M')(l:h.size<=b)(k:M' b=Te)(f:∀j,j≠b->g'[j]?=g[j]?)(z:g'.size=g.size):Later h M g' M':= ⟨⟨by have:=L.keep.size;omega,λj i=>by rw[f j (by omega)];exact L.keep.get j i⟩,L.le,L.old,λc cs e=>by rw[f c (λh=>by subst h;rw[k]at e;cases e)];exact L.ag c cs e⟩
def Qi(v:Tr):(List Bt×List Int)×Int:=if zn v=Ta then(if 512<ny (zt v)then(([],[]),6)else(rR (im (zt v) 0),0))else(([],[]),1)
theorem Pe(h:zn v=Ta):Zw v=zt v:=by unfold Zw;rw[zb (Fu h)]
set_option maxRecDepth 100000 in
set_option maxHeartbeats 1000000 in
theorem WH{gl:Fr}(V:GL gl)(hb:Brn gl)(hv:Sm v){R:(List Bt×List Int)×Int->Prop}(C:R (Qi v)):PC Tp gl 14 [Arg.mk .tree v] [.pair (.row .str) (.row (.int .i64)),.int .i64] R:=by
 intro h M vs hM ag ha
 match vs,ha with
 |[u],⟨P,_⟩=>
  have P:RdV M .tree v u:=P;have H:=P;obtain⟨sk,si,rfl,rk,ri⟩:=qn P;apply PX.of;apply Uk v.kind v.text sk si;intro h1;have k1:Keep h.size h h1:=Keep.push _ _ (XV _);have z1:h1.size=h.size+1:=XY _;have B1:Blk h1 h.size #[.int .i64 v.kind,.string v.text,aK sk,aK si]:=Blk.new _ _ _;clear_value h1;intro x;have k2:Keep h1.size h1 x:=Keep.push _ _ (XV _);have z2:x.size=h1.size+1:=XY _;have R2:Blk x h1.size #[.slice Te 0 0,.slice Te 0 0]:=Blk.new _ _ _;clear_value x;have B2:=B1.ofKeep k2;have Z:Keep h.size h x:=k1.trans k2 (by omega);have L2:Later h M x M:=Later.same ag Z;have done:∀(g:zc) (M':Fr) (t:List Bt×List Int) (e:Int) (s1 s2:Sl),Later x M g M'->Rd M' (.row .str) t.1 [aK s1]->Rd M' (.row (.int .i64)) t.2 [aK s2]->R (t,e) ->
    XRunU Tp (YG 31 (.pointer (Td ⟨h1.size,0,Te⟩)) (.agg #[aK s1,aK s2])) g λg'=>∃Q S:Sl,zf g' ⟨h1.size,0,Te⟩ 0 [aK Q,aK S]/\∃M2 q,Later h M g' M2/\ig M2 [.pair (.row .str) (.row (.int .i64)),.int .i64] q (.tuple #[.agg #[aK Q,aK S],.int .i64 e])/\R q:=by
   intro g M' t e s1 s2 L Q S O;have nR:M' h1.size=Te:=by rw[L.old _ (by omega)];exact ag.none (by omega)
   refine L8 (R2.keep (L.keep.get _ (by omega))) λg' f z B=>⟨s1,s2,B.ld (cs:=[aK s1,aK s2]),M',(t,e),Later.stay (L2.trans L) (by omega) nR f z,⟨[_,_],⟨_,_,rfl,ng Q S,_,rfl,jJ _ _⟩,rfl⟩,O⟩
  refine⟨v.kind,v.text,sk,si,B2.ld (cs:=[_,_,aK sk,aK si]),?_⟩;refine(Jq V hv (R:=λr=>r=zn v) rfl).go (vs:=[.agg #[.int .i64 v.kind,.string v.text,aK sk,aK si]]) hM L2.ag (qk H ym) λw A M8 r I p O=>?_;subst O;refine⟨_,ib p,λy=>?_,λy=>?_⟩
  ·have y:zn v=Tc:=by simpa using y
   unfold Qi at C;rw[za (by rw[y];simp)]at C;exact done A M8 ([],[]) 1 ⟨Te,0,0⟩ ⟨Te,0,0⟩ I kW kW C
  have y:zn v=Ta:=by simpa using y
  unfold Qi at C;rw[zb y]at C;have z8:=I.keep.size;intro m;have aa:Keep A.size A m:=Keep.push _ _ (XV _);have ac:m.size=A.size+1:=XY _;have U:Blk m A.size #[.slice Te 0 0,.slice Te 0 0]:=Blk.new _ _ _;clear_value m;have l:Later x M m M8:=I.trans (Later.same I.ag aa);refine⟨v.kind,v.text,sk,si,(B2.keep (l.keep.get _ (by omega))).ld (cs:=[_,_,aK sk,aK si]),?_⟩;refine(ON V hv (R:=λr=>r=Zw v) rfl).go (vs:=[.agg #[.int .i64 v.kind,.string v.text,aK sk,aK si]]) (hM.trans l.le) l.ag (qk (H.mono l.le) ym) λw J D r i p O=>?_;subst O;have G:=Y2.1 p;obtain⟨xk,xi,rfl,y1,y2⟩:=qn G;refine⟨_,_,xk,xi,rfl,?_⟩;have hs:=Pe y;have ab:zn (Zw v)=Ta:=by rw[KW];exact y
  obtain⟨q1,q2,q3,q4⟩:=xj ab;have ae:=i.keep.size;have nB:D A.size=Te:=by rw[i.old _ (by omega)];exact I.ag.none (by omega)
  have HB:Tb A.size J D A.size [] []:=⟨⟨Te,0,0⟩,⟨Te,0,0⟩,[],[],rfl,U.keep (i.keep.get _ (by omega)),ORow.nil,ORow.nil,λc b=>(by cases b),λb=>(by cases b),λb=>(by cases b),nB,XV _⟩;refine XC.mono (E3 V hb (bR (Zw v)) (Zw v) (by omega) (XV _) q3 (PT hv) J D A.size [] [] _ i.ag (hM.trans (l.le.trans i.le)) HB (by omega) (YT _) G) ?_;rintro w h25 ⟨rfl,E,bs,T,s1,s2,b1,b2,rfl,B⟩;rw[za6,zag,hs]at B;have af:=T.grow;have N:Later x M h25 E:=by have hk:=l.keep;refine⟨⟨by omega,λj hj=>?_⟩,l.le.trans (i.le.trans T.le),λc b=>?_,T.ag⟩;rw[T.fr j (by omega) (by omega) (by simp),i.keep.get j (by omega)];exact hk.get j hj;rw[T.old c (by omega),i.old c (by omega)];exact l.old c b
  have n:=B.r1.len;rw[YF]at n;have ah:=rh (zt v) 0;refine⟨rfl,s1,by rw[add0];exact B.box.cellAdd (o:=0) (k:=0) rfl,λb=>?_,λb=>?_⟩
  ·have b:=zA b;have:512<ny (zt v):=by unfold iy at n;rw[ZP]at n;omega
   rw[zb this]at C;exact done h25 E ([],[]) 6 ⟨Te,0,0⟩ ⟨Te,0,0⟩ N kW kW C
  ·have b:=zG b;have:¬512<ny (zt v):=by unfold iy at n;rw[ZP]at n;omega
   rw[za this]at C;have F:=pe (X:=im (zt v) 0) (by omega);rw[F]at B;refine⟨s1,s2,by rw[add0];exact B.box.ld (cs:=[aK s1,aK s2]),?_⟩;have own:∀c∈b1++b2,x.size<=c:=λc b=>by rcases YK.1 b with h|h;have:=(B.r1.own c h).1;omega;have:=(B.r2.own c h).1;omega
   have Y:Later x M h25 (MxL E h25 (b1++b2)):=Later.own N own;exact done h25 _ (rR (im (zt v) 0)) 0 s1 s2 Y (B.r1.rd T.ag (λc b=>YM _ b) (by rw[YF];omega)) (B.r2.rd T.ag (λc b=>ZD _ b) (by rw[YF];omega)) C
end
section
variable {x y:Bool} {a b:Int}
theorem Ob(a b:Bt):(a.toList==b.toList)=decide (a=b):=by rw[Z7,Z7,YW,beq_iff_eq,zv,nK]
theorem HN:(bif x then Ta else y)=Ta↔x=Ta\/y=Ta:=by cases x <;> simp
theorem HX:(bif x then Ta else y)=Tc↔x=Tc/\y=Tc:=by cases x <;> simp
theorem TN:(bif x then y else Tc)=Ta↔x=Ta/\y=Ta:=by cases x <;> simp
theorem WU:(bif x then y else Tc)=Tc↔x=Tc\/y=Tc:=by cases x <;> simp
theorem lT(h:decide (a<b)=Ta):a<b:=zA h
theorem lI(h:decide (a<b)=Tc):¬a<b:=zG h
theorem jz{t:List Bt×List Int}(h:qc t=Ta):t.1.length=t.2.length/\t.2.length<=512/\lG t.2 t.2.length=Ta:=by unfold qc at h;simp only[YH,zv]at h;exact⟨h.1.1,by omega,h.2⟩
abbrev jM:Ty:=.pair (.row .str) (.row (.int .i64))
theorem Ak{gl:Fr}{t:List Bt×List Int}{R:Bool->Prop}(b:R (qc t)):PC Tp gl 21 [Arg.mk (.pair (.row .str) (.row (.int .i64))) t] [.bool] R:=by
 apply UZ;refine PD (t:=t) (R:=λr=>R r.2) ?_;cases h:qc t with
 |false=>rw[h]at b;exact b
 |true=>rw[h]at b;exact b
end
end Go.X
end
section
namespace Go.X
open Go Go.Proofs Go.Shelf Go.RowKit
section
def Vx:Go.Shelf.Ren:=⟨fun|189=>64|125=>114|257=>113|128=>177|129=>178|294=>168|295=>169|296=>170|297=>171|298=>172|299=>173|216=>174|300=>175|301=>176|328=>235|329=>236|330=>237|331=>238|332=>239|215=>240|343=>294|n=>n,fun|28=>29|3=>3|46=>123|0=>0|51=>176|53=>178|4=>4|183=>168|182=>167|131=>173|5=>5|9=>9|218=>245|222=>249|228=>299|229=>300|n=>n,fun|n=>n⟩
theorem Hy:Go.Proofs.Lays.n189 Tp Vx:=by constructor <;> intros <;> kernel_rfl
open Go.Sort Go.RowKit in
theorem WZ(blk off cap:Nat)(c:List Int)(w:World)(h:Holds (zax .i64) w blk off c.toArray)(b:blk<w.heap.size)(f:c.length<4611686018427387904):
  Calls Tp 64 #[.slice (Td ⟨blk,off,Te⟩) c.length cap] w λe w'=>
   e=.returned (.tuple #[])/\∃n os,w'=grow (putRow (zax .i64) (Sort.ahead w n) blk off (c.mergeSort λx y=>decide (x<=y)).toArray) os:=Any.slices_Sort_int Hy blk off cap c w h b f
open Go.RowKit Go.Sort in
theorem Xi(p:Option Addr)(cap:Nat)(w:World): Calls Tp 64 #[.slice p 0 cap] w λe w'=>e=.returned (.tuple #[])/\w'=w:=Any.slices_Sort_int_none Hy p cap w
end
end Go.X
end
section
namespace Go.X
open Go Go.Lib
section
def qT(b:List Bt)(i:Nat):Bt:=b.getD i ⟨#[]⟩
end
section
theorem Fl{α:Type}[DecidableEq α]:∀{xs ys:List α},xs.Nodup->(∀x∈xs,x∈ys)->xs.length<=ys.length
 |[],ys,_,_=>YT _
 |x::xs,ys,hn,h=>by
  rw[zaj]at hn;have f:=h x YJ;have:=Fl (ys:=ys.erase x) hn.2 λy c=>by have b:y≠x:=λe=>hn.1 (e ▸ c);exact(List.mem_erase_of_ne b).2 (h y (XZ _ c))
  have i:=List.length_pos_of_mem f;rw[List.length_erase_of_mem f]at this;rw[YL];omega
end
end Go.X
end
section
namespace Go.X
open Go Go.X Go.Proofs Go.RowKit Go.Sort Go.Shelf
section
variable {h:zc}
theorem RB{x:Int}{K:Value->zc->Prop}:Bm Tp 29 1 (.int .i64 x) h K=K (.slice (Td ⟨h.size,0,Te⟩) 1 1) (h.push (.cells #[.int .i64 x] 3)):=by kernel_rfl
theorem mapII:MapTI Tp 79 3 3:=⟨by kernel_rfl,by kernel_rfl⟩
theorem wT{base:Nat}{s:Sl}{xs:List Int}(H:Owns h base 3 1 s (xs.map (zax .i64))):s.len=xs.length:=by have:=H.length;simp at this;omega
theorem Vt{base:Nat}{s:Sl}{xs:List Int}(H:Owns h base 3 1 s (xs.map (zax .i64)))(r:xs.length<=1000000):
  XC Tp 64 #[.slice s.a s.len s.cap] h λv h'=>v=.tuple #[]/\Owns h' base 3 1 s ((xs.mergeSort λx y=>decide (x<=y)).map (zax .i64))/\h.size<=h'.size/\∀i,i<h.size->(∀p,s.a=Td p->i≠p.block)->h'[i]?=h[i]?:=by
 refine XC.of_below λB d=>?_;have f:s.len=xs.length:=wT H;rcases H.2 with⟨m,h0⟩|⟨g,cap,k,m,l,D,C,I,A,E⟩;have G:xs=[]:=YU (by omega);subst G;rw[h0];refine(Xi s.a s.cap (mk B d h)).mono ?_;rintro e w' ⟨rfl,rfl⟩;exact⟨_,rfl,rfl,rfl,rfl,rfl,by rw[List.mergeSort_nil];exact H,XV _,λ_ _ _=>rfl⟩;simp only[ZG]at m;obtain⟨u,_,rfl⟩:=m;have c:(mk B d h).heap[g]?=Td (.cells k 3 (0,0)):=D;have o:g<(mk B d h).heap.size:=(YE.1 c).1;have F:Holds (zax .i64) (mk B d h) g 0 xs.toArray:=holds_of_blockI c (by rw[<-f];simpa using E);have z:=WZ g 0 s.cap xs (mk B d h) F o (by omega);rw[<-f]at z;rw[u];refine z.mono ?_;rintro e w' ⟨rfl,n,os,rfl⟩;have b:=grownBy_sortedI (w:=mk B d h) (g:=g) (n:=n) (os:=os) (xs.mergeSort λx y=>decide (x<=y)).toArray;refine⟨_,rfl,b.os,b.tape,b.output,rfl,?_,b.size,λi hi j=>b.block i hi λe=>j _ rfl (by simpa using e)⟩;have t:=ownsRow_sortedI (w:=mk B d h) (base:=base) (n:=n) (os:=os) (ss:=xs) (ts:=xs.mergeSort λx y=>decide (x<=y)) (by simp) l c (by rw[<-f];exact C) I (by simpa using A);rw[<-f]at t;show World.ownsRow _ base _ 1 (.slice s.a s.len s.cap) s.len _;rw[u];exact t
theorem Owns.frzI{h g:zc}{M M':Fr}(L:Later h M g M'){s:Sl}{ks:List Int}{base:Nat}(o:Owns g base 3 1 s (ks.map (zax .i64)))(A:h.size<=base)(C:ks.length<=1000000):
  ∃l,Later h M g l/\Rd l (.row (.int .i64)) ks [aK s]:=by
 have p:=wT o;rcases o.2 with⟨j,h0⟩|⟨b,cap,f,j,n,r,z,B,y,u⟩;have t:ks=[]:=YU (by omega);subst t;simp only[ZG]at j;refine⟨M',L,⟨_,rfl,s.a,s.cap,?_,⟨by simp,by simp⟩,.inl rfl⟩⟩;show aK s=_;unfold aK;rw[h0];rfl;simp only[ZG]at j;obtain⟨w,_,m⟩:=j;have x:Blk g b f:=⟨_,r⟩;refine⟨MxL M' g [b],Later.own L (λc m=>by rw[YY.1 m];omega),⟨_,rfl,s.a,s.cap,?_,⟨by omega,by omega⟩,.inr ⟨b,0,f,w,MxL.at (by simp) x,λi hi=>?_⟩⟩⟩;show aK s=_;unfold aK;rw[p];show cut f (0+i*1) 1=[.int .i64 ks[i]];refine uj rfl λq D=>?_
 have k:q=0:=by omega
 subst k;have e:(f.toList.take (s.len*1))[i]?=(ks.map (zax .i64))[i]?:=by rw[u]
 rw[ZJ,zb (by omega)]at e;rw[show 0+i*1+0=i from by omega,e];simp[hi]
theorem Pn{L:List Int}{xs:List Nat}(h:xs.Perm (W6 L)):((xs.map λi:Nat=>(i:Int)).mergeSort λx y=>decide (x<=y))=(W6 L).map λi:Nat=>(i:Int):=by refine List.Perm.eq_of_pairwise (le:=λa b:Int=>decide (a<=b)=Ta) (λa b _ _ h1 e=>?_) (List.pairwise_mergeSort (λa b c h1 e=>?_) (λa b=>?_) _) (List.pairwise_map.2 ((Dg L).imp λh=>zH (by omega))) ((List.mergeSort_perm _ _).trans (h.map _));have:=zA h1;have:=zA e;omega;have:=zA h1;have:=zA e;exact zH (by omega);rw[zbt,zv,zv];omega
set_option maxRecDepth 100000 in
set_option maxHeartbeats 2000000 in
theorem HJ{gl:Fr}{t:List Bt×List Int}{R:List Int->Prop}(hR:R (if qc t=Ta then(W6 t.2).map (λi:Nat=>(i:Int))else [])):PC Tp gl 28 [Arg.mk (.pair (.row .str) (.row (.int .i64))) t] [.row (.int .i64)] R:=by
 intro h M vs hM ag ha
 match vs,ha with
 |[u],⟨hu,_⟩=>
  obtain⟨s1,s2,rfl,r1,r2⟩:=rQ (show RdV M (.pair (.row .str) (.row (.int .i64))) t u from hu);apply PX.of;obtain⟨l2,_,_⟩:=rowLen r2;apply Sw s1 s2;intro h1;have L1:Later h M h1 M:=Later.push ag _;have z1:h1.size=h.size+1:=XY _;have B1:Blk h1 h.size #[aK s1,aK s2]:=Blk.new _ _ _;clear_value h1;refine⟨s1,s2,B1.ld (cs:=[aK s1,aK s2]),?_⟩;refine(Ak (gl:=gl) (t:=t) (R:=λr=>r=qc t) rfl).go (vs:=[.agg #[aK s1,aK s2]]) hM L1.ag (qk (a:=Arg.mk (.pair (.row .str) (.row (.int .i64))) t) (ng r1 r2) ym) λw l Q r S aa hr=>?_;subst hr;have F:=L1.trans S;have z5:=S.keep.size;refine⟨_,ib aa,λc=>?_,λc=>?_⟩;have c:qc t=Tc:=by simpa using c
  rw[c]at hR;exact⟨Q,[],F,Y2.2 ((hG rfl).2 (kW (T:=.int .i64))),hR⟩;have c:qc t=Ta:=by simpa using c
  rw[c,zb rfl]at hR;obtain⟨q1,q2,q3⟩:=jz c;obtain⟨L,hL⟩:∃L,L=t.2:=⟨_,rfl⟩;rw[<-hL]at hR q2 q3 r2 l2;intro H;have k7:Keep l.size l H:=Keep.push _ _ (XV _);have z7:H.size=l.size+1:=XY _;have W7:MapW H l.size []:=MapW.new _;clear_value H;have B7:Blk H h.size #[aK s1,aK s2]:=(B1.keep (S.keep.get _ (by omega))).ofKeep k7;refine⟨s2,B7.cellAdd (o:=0) (k:=1) rfl,λi g=>∃m:Nat,i=(m:Int)/\m<=L.length/\g.size=H.size/\(∀j,j≠l.size->g[j]?=H[j]?)/\MapW g l.size (lh ((kc L m).map (mR L))),λi _=>L.length-i.toNat,⟨0,rfl,YT _,rfl,λ_ _=>rfl,W7⟩,?_⟩;rintro i g ⟨m,rfl,hm,zg,fg,W⟩;have kg:Keep l.size l g:=⟨by omega,λj C=>by rw[fg j (by omega)];exact k7.get j C⟩;have Lg:Later l Q g Q:=Later.same S.ag kg;refine⟨λE=>?_,λE=>?_⟩;have z:m<L.length:=by have:=lT E;omega
  obtain⟨b,o,e1,e2⟩:=vj Lg.ag (r2.mono F.le) (k:=m) z;have Y:L[m]=cK L m:=by unfold cK;rw[YN,YA z];rfl
  rw[Y]at e2;refine⟨⟨b,o,Te⟩,⟨e1,by omega,by omega⟩,cK L m,by rw[hH,XW];exact e2,?_⟩;refine Ot mapII W (cK L m) (.int .i64 (m:Int)) λg' W' z' f'=>⟨⟨m+1,by rw[qz z (by omega)],z,by omega,λj C=>(f' j C).trans (fg j C),?_⟩,by rw[qz z (by omega)];simp only[XW];omega⟩;rw[Cz]at W';exact W';have ac:m=L.length:=by have:=lI E;omega
  subst ac;obtain⟨ab,A⟩:=yC L L.length;have D:((lh ((kc L L.length).map (mR L))).map (·.1))=((kc L L.length).map (cK L)).map (zax .i64):=by unfold lh;rw[ZY,ZY,ZY];rfl
  have af:((lh ((kc L L.length).map (mR L))).map (·.1)).Nodup:=by rw[D];exact List.Pairwise.map _ (λa b ai e=>ai (by injection e)) ab
  refine A1 mapII.map W λae ar ak V=>⟨Td ⟨g.size,0,Te⟩,rfl,?_⟩;have al:Keep l.size l ae:=kg.trans ak (by omega);refine⟨λout g2=>∃xs:List Nat,xs.Nodup/\(∀x∈xs,x∈kc L L.length)/\MapIt g2 g.size l.size (lh ((kc L L.length).map (mR L))) (xs.reverse.map λi=>zax .i64 (cK L i))/\Owns g2 (g.size+1) 3 1 out ((xs.map λi:Nat=>(i:Int)).map (zax .i64))/\g.size+1<=g2.size/\Keep l.size l g2,λ_ g2=>leftN g2 g.size l.size,⟨[],zb6,λx c=>(by cases c),V,Owns.nil _ _ _ _,by omega,al⟩,?_⟩;rintro out g2 ⟨xs,J,B,it,o,au,U⟩;have an:xs.length<=L.length:=by have:=Fl (xs:=xs) (ys:=ZN L.length) J λx c=>ZR.2 ((A x).1 (B x c)).1;rwa[List.length_range]at this
  refine xX it af (by omega) (λP=>.inl ⟨rfl,(λE=>(by cases E)),λ_=>?_⟩) λk v I hk y am Z z3 f3 uR=>.inr ⟨k,v,rfl,λ_=>zZ Z ⟨k,v,rfl,?_⟩,λE=>(by cases E)⟩;have f:xs.Perm (W6 L):=by refine((List.perm_ext_iff_of_nodup J (FS ab)).2 λp=>⟨B p,λf=>?_⟩).trans (JU L);have aj:=P (.int .i64 (cK L p),.int .i64 (p:Int)) (by unfold lh;rw[ZY];exact ZI.2 ⟨p,f,rfl⟩);obtain⟨x,c,e⟩:=ZI.1 aj;injection e with _ e;have c:=List.mem_reverse.1 c;obtain⟨a1,a2⟩:=(A x).1 (B x c);obtain⟨b1,b2⟩:=(A p).1 f;rcases Nat.lt_trichotomy x p with h|h|h;exact absurd e.symm (a2 p h b1);rw[<-h];exact c;exact absurd e (b2 x h a1)
  refine XC.mono (Vt o (by rw[YF];omega)) ?_;rintro v g4 ⟨rfl,o4,z4,f4⟩;rw[Pn f]at o4;have Lf:Later l Q g4 Q:=Later.same S.ag ⟨by have:=U.size;omega,λj C=>by rw[f4 j (by have:=U.size;omega) λp f=>by have:=o.base_le p f;omega];exact U.get j C⟩;obtain⟨M6,L6,rd⟩:=Owns.frzI Lf o4 (by omega) (by rw[YF,f.symm.length_eq];omega);exact⟨rfl,M6,_,F.trans L6,Y2.2 ((hG rfl).2 rd),hR⟩;obtain⟨i,hi,rfl,rfl⟩:∃i,i∈kc L L.length/\k=.int .i64 (cK L i)/\v=.int .i64 (i:Int):=by unfold lh at I;rw[ZY]at I;obtain⟨i,hi,e⟩:=ZI.1 I;injection e with e1 e2;exact⟨i,hi,e1.symm,e2.symm⟩
  have ah:i∉xs:=λhm=>hk (ZI.2 ⟨i,List.mem_reverse.2 hm,rfl⟩);rw[RB];have G:Keep y.size y (y.push (.cells #[.int .i64 (i:Int)] 3)):=Keep.push _ _ (XV _);have z8:(y.push (.cells #[.int .i64 (i:Int)] 3)).size=y.size+1:=XY _;have V8:Blk (y.push (.cells #[.int .i64 (i:Int)] 3)) y.size #[.int .i64 (i:Int)]:=Blk.new _ _ _;generalize (y.push (.cells #[.int .i64 (i:Int)] 3))=h8 at G z8 V8 ⊢;have o3:Owns y (g.size+1) 3 1 out ((xs.map λi:Nat=>(i:Int)).map (zax .i64)):=o.keep λp f=>f3 _ (by have:=o.base_le p f;omega);have N:=o3.keepN G;have hl:=wT o;rw[YF]at hl;refine Zs (nI:ElemT _ _ _ _ 1 8) N (src:=⟨Td ⟨y.size,0,Te⟩,1,1⟩) (news:=[.int .i64 (i:Int)]) (n:=h8.size) ?_ rfl (by simp[Value.oneCell']) (by simp only;omega) (by simp only;omega) (by omega) λs' h4 p1 p2 O p4 p5=>⟨s',rfl,⟨xs++[i],?_,?_,?_,?_,by omega,?_⟩,?_⟩;refine .inr ⟨y.size,0,rfl,by omega,λi v Y=>?_⟩
  match i,Y with
  |0,Y=>cases Y;exact V8.cell rfl
  rw[za7];exact⟨J,by simp,λa ha b hb e=>by rw[YY]at hb;subst hb;subst e;exact ah ha⟩;intro x c;rcases YK.1 c with h|h;exact B x h;rw[YY.1 h];exact hi;rw[List.reverse_append];refine am.keep ?_ ?_;rw[O _ (by omega) λp f=>by have:=N.base_le p f;omega];exact G.get _ (by omega);rw[O _ (by omega) λp f=>by have:=N.base_le p f;omega];exact G.get _ (by omega);rw[ZT,ZT];exact p2;refine⟨by have:=U.size;omega,λj C=>?_⟩;rw[O j (by omega) λp f=>by have:=N.base_le p f;omega,G.get j (by omega),f3 j (by omega)];exact U.get j C;show leftN h4 g.size l.size<leftN g2 g.size l.size;rw[leftN.keep (h:=y) ?_ ?_];exact uR;rw[O _ (by omega) λp f=>by have:=N.base_le p f;omega];exact G.get _ (by omega);rw[O _ (by omega) λp f=>by have:=N.base_le p f;omega];exact G.get _ (by omega)
end
end Go.X
end
section
namespace Go.X
open Go Go.X Go.Proofs Go.RowKit
section
variable {gl:Fr} {v:Tr} {lv:Nat}
theorem Hv(j:GL gl)(c:Sm v){R:Bool->Prop}(h:R (zn v)):PC Tp gl 57 [Arg.mk .tree v] [.bool] R:=by
 apply XB;rw[j7];refine GZ v c.sz ⟨λr=>r=(iq v:Int),λ_=>CY v c.sz rfl,λr i=>⟨λb=>b=Zk (λx=>decide (x.kind≠7)&&zl x) v,λ_=>FF j Tc v c (PZ (λx=>by simp[zdp]) v),λb f=>?_⟩⟩;have e:(bif decide ((bR v:Int)<=4096)then decide (r<=32)else Tc)=Zd v:=by
  unfold Zd;cases hc:decide ((bR v:Int)<=4096)with
  |false=>(have:decide (bR v<=4096)=Tc:=by simp at hc ⊢;omega);rw[this];rfl
  |true=>
   have:decide (bR v<=4096)=Ta:=by simp at hc ⊢;omega
   rw[this,i hc,zI,zal,YW];simp;omega
 rw[e]at f ⊢;unfold zn at h;cases hs:Zd v with
 |false=>rw[hs]at h;exact h
 |true=>rw[hs]at h;rw[zI,f hs];exact h
def tK:Bt:=⟨#[48,49,50,51,52,53,54,55,56,57,97,98,99,100,101,102]⟩
theorem Sz:(ZN 32).all (λk=>(k==8||k==9||k==10||k==12||k==13)||(decide (iL (jU (zat k))=[92,117,48,48,ze tK (XS .u8 ((k:Int).tdiv 16)).toNat,ze tK ((k:Int).tmod 16).toNat]) && (decide (0<=XS .u8 ((k:Int).tdiv 16))&&decide (XS .u8 ((k:Int).tdiv 16)<16)&&decide (0<=(k:Int).tmod 16)&&decide ((k:Int).tmod 16<16))))=Ta:=by kernel_rfl
theorem SX{c:UInt8}(h:c.toNat<32)(l:c.toNat≠8)(k:c.toNat≠9)(i:c.toNat≠10)(j:c.toNat≠12)(f:c.toNat≠13):
  iL (jU c)=[92,117,48,48,ze tK (XS .u8 ((c.toNat:Int).tdiv 16)).toNat,ze tK ((c.toNat:Int).tmod 16).toNat]/\0<=XS .u8 ((c.toNat:Int).tdiv 16)/\XS .u8 ((c.toNat:Int).tdiv 16)<16/\0<=(c.toNat:Int).tmod 16/\(c.toNat:Int).tmod 16<16:=by
 have:=ZH.1 Sz c.toNat (ZR.2 h);rw[show zat c.toNat=c by simp]at this;simp only[zbt,YH,beq_iff_eq,zv]at this;rcases this with h|⟨a,⟨⟨b,c⟩,d⟩,e⟩;omega;exact⟨a,b,c,d,e⟩
theorem yH(l:Bs):(iL l).length=l.length:=by unfold iL;rw[YF]
theorem uQ{t:Bs}(H:t.length<=1000000000){R:Bt×Int->Prop}(h:R (bl (ik t).1,(ik t).2)):PC Tp gl 131 [Arg.mk .str (bl t)] [.str,.int .i64] R:=by
 apply Mi;refine A6 (by omega) λk=>?_;unfold ik at h;cases hu:Zv t with
 |false=>rw[hu]at h;exact⟨λ_=>h,λh=>(by cases h)⟩
 |true=>
  rw[hu,zb rfl]at h;refine⟨λh=>(by cases h),λ_=>?_⟩;rw[zk];refine⟨λo i=>∃k:Nat,i=k/\k<=t.length/\o=iL (34::hY (t.take k)),λ_ i=>t.length-i.toNat,⟨0,rfl,YT _,rfl⟩,?_⟩;rintro o i ⟨k,rfl,I,rfl⟩;have C:(hY (t.take k)).length<=6*t.length:=by have:=tT (t.take k);rw[ZP]at this;omega
  refine⟨λB=>?_,λB=>?_⟩
  ·have b:k<t.length:=by have:=lT B;omega
   have F:ze (bl t) ((k:Nat):Int).toNat=((t[k]:UInt8).toNat:Int):=by rw[XW,qt,YA b];rfl
   rw[F,qz b (by omega)];generalize D:t[k]=c;have p:hY (t.take (k+1))=hY (t.take k)++jU c:=by rw[YD b,HE,D];congr 1;unfold hY;simp
   have fin:∀X:List Int,X=iL (jU c)->((ZM (iL (34::hY (t.take k)))+ZM X)*1<=140737488355328/\((∃k2:Nat,((k+1:Nat):Int)=k2/\k2<=t.length/\iL (34::hY (t.take k))++X=iL (34::hY (t.take k2)))/\t.length-((k+1:Nat):Int).toNat<t.length-((k:Nat):Int).toNat)):=by rintro X rfl;have:=EN c;rw[yH,yH,YL];refine⟨by omega,⟨k+1,rfl,b,?_⟩,by simp only[XW];omega⟩;rw[p,<-zU];rfl
   have f:∀n:Nat,n<256->(((c.toNat:Int)==(n:Int))=Ta↔c=zat n):=λn z=>by rw[beq_iff_eq];constructor;intro e;apply zbi.1;rw[UInt8.toNat_ofNat'];omega;rintro rfl;rw[UInt8.toNat_ofNat'];omega
   have ne:∀n:Nat,n<256->((c.toNat:Int)==(n:Int))=Tc->c≠zat n:=λn z e h=>by rw[(f n z).2 h]at e;cases e
   refine⟨⟨by omega,by omega⟩,λh1=>?_,λh1=>⟨λu=>?_,λu=>⟨λx=>?_,λx=>⟨λw=>?_,λw=>⟨λy=>?_,λy=>⟨λA=>?_,λA=>⟨λm=>?_,λm=>?_⟩⟩⟩⟩⟩⟩⟩;have:c=34\/c=92:=by rcases HN.1 h1 with h|h;exact .inl ((f 34 (by omega)).1 h);exact .inr ((f 92 (by omega)).1 h)
   refine fin _ ?_;unfold jU;rw[zb this];rfl;all_goals obtain⟨j,l⟩:=HX.1 h1
   all_goals have j:=ne 34 (by omega) j
   all_goals have l:=ne 92 (by omega) l
   all_goals have G:¬(c=34\/c=92):=by rintro(e|e);exact j e;exact l e
   have e:=(f 8 (by omega)).1 u;refine fin _ ?_;rw[e];rfl;have e:=(f 12 (by omega)).1 x;refine fin _ ?_;rw[e];rfl;have e:=(f 10 (by omega)).1 w;refine fin _ ?_;rw[e];rfl;have e:=(f 13 (by omega)).1 y;refine fin _ ?_;rw[e];rfl;have e:=(f 9 (by omega)).1 A;refine fin _ ?_;rw[e];rfl;have m:c.toNat<32:=by have:=zA m;omega
   have r:∀n:Nat,n<256->((c.toNat:Int)==(n:Int))=Tc->c.toNat≠n:=λn z e h=>by have:=ne n z e;exact this (zbi.1 (by rw[UInt8.toNat_ofNat'];omega))
   obtain⟨e,b1,b2,b3,b4⟩:=SX m (r 8 (by omega) u) (r 9 (by omega) A) (r 10 (by omega) w) (r 12 (by omega) x) (r 13 (by omega) y);exact⟨rfl,by decide,⟨b1,b2⟩,rfl,by decide,⟨b3,b4⟩,fin _ e.symm⟩;have m:¬c.toNat<32:=by have:=zG m;omega
   refine fin _ ?_;unfold jU;rw[za G,za (show¬c=8 from ne 8 (by omega) u),za (show¬c=12 from ne 12 (by omega) x),za (show¬c=10 from ne 10 (by omega) w),za (show¬c=13 from ne 13 (by omega) y),za (show¬c=9 from ne 9 (by omega) A),za m];rfl
  have E:k=t.length:=by have:=lI B;omega
  subst E;rw[YR]at C ⊢;refine⟨by rw[yH,YL,ZF];omega,?_⟩;have:iL (34::hY t)++([34]:List Int)=iL (34::hY t++[34]):=by rw[zU];rfl
  rw[this,Da];exact h
theorem Tq{ps:List Bs}{n:Nat}(h:n<ps.length)(lv:Nat):(w7 Tc 0 lv (ps.take n)).length+ps[n].length+(if n=0 then 0 else 1)<=(w7 Tc 0 lv ps).length:=by have h1:=uf Tc 0 lv (ps:=ps) (n:=n+1) h;rw[uv Tc 0 lv h,XX,XX,XX]at h1;by_cases h0:n=0;rw[zb h0]at h1 ⊢;simp only[zag]at h1;omega;rw[za h0]at h1 ⊢;simp only[ZF]at h1;omega
def xm(v:Tr)(lv:Nat):List Bs:=if v.kind=6 then List.zipWith (jp Tc) v.keys (v.items.map λx=>Qv Tc 0 x (lv+1))else v.items.map λx=>Qv Tc 0 x (lv+1)
theorem T8(h:v.kind=6->v.keys.length=v.items.length):(xm v lv).length=v.items.length:=by unfold xm;split;rename_i b;rw[List.length_zipWith,YF,h b];omega;rw[YF]
theorem Nf(h:v.kind=5\/v.kind=6):Qv Tc 0 v lv=(if v.kind=6 then 123 else 91)::w7 Tc 0 (lv+1) (xm v lv)++[if v.kind=6 then 125 else 93]:=by
 have b:∀ps,jE Tc 0 lv ps=w7 Tc 0 (lv+1) ps:=λps=>by unfold jE Zf;split <;> simp
 rw[Yg];unfold xm;rcases h with h|h;rw[za (by omega),za (by omega),zb h,za (by omega),za (by omega),za (by omega),b];rw[za (by omega),za (by omega),za (by omega),zb h,zb h,zb h,zb h,b]
set_option maxHeartbeats 2000000 in
theorem Ep{gl:Fr}:∀(n:Nat) (v:Tr) (lv:Nat),bR v<=n->n<=5000->Sm v->Zk iB v=Ta->lv+iq v<=90->∀{R:Bt->Prop},R (bl (Qv Tc 0 v lv))->PC Tp gl 132 [Arg.mk .tree v,Arg.mk (.int .i64) (-1),Arg.mk (.int .i64) (lv:Int)] [.str] R
 |0,v,_,h,_,_,_,_,_,_=>by have:=Ye v;omega
 |n+1,v,lv,hz,hn,hsm,hok,hd,R,hR=>by
  have o:=Jr hok;have ab:=sY (ln:=Tc) (N:=0) (by omega) (bR v) v lv (XV _) hsm hd;have l:(Qv Tc 0 v lv).length<=200000000000:=by have:bR v*20000000<=5001*20000000:=ZK _ (by omega);omega
  apply Vw;refine⟨λh1=>?_,λh1=>?_⟩;have h1:v.kind=1:=by simpa using h1
  rw[Yg,zb h1]at hR;exact hR;have h1:¬v.kind=1:=by simpa using h1
  intro K2 T;suffices h23:K2 (v.kind==2||v.kind==3)by refine⟨λh=>?_,λh=>?_⟩;rw[h]at h23 ⊢;exact h23;rw[h]at h23;exact h23
  refine T _ ⟨λB=>?_,λB=>⟨λA=>?_,λA=>?_⟩⟩;have B:v.kind=2\/v.kind=3:=by simpa using B
  rw[Yg,za h1,za (by omega),za (by omega),za (by omega),Qj]at hR;exact hR;have A:v.kind=4:=by simpa using A
  rw[Yg,za h1,zb A]at hR;have w:=uQ (gl:=gl) (t:=lb v.text) (by have:=hsm.text;omega) (R:=λr=>R r.1) hR;rw[Qj]at w;exact w;have A:¬v.kind=4:=by simpa using A
  have B:¬(v.kind=2\/v.kind=3):=by simpa using B
  have V:v.kind=5\/v.kind=6:=by rcases KZ o with⟨k,_⟩|⟨k,_⟩|⟨k,_⟩|⟨k,_⟩|⟨k,_⟩|⟨k,_⟩ <;> omega
  have C:v.kind=6->v.keys.length=v.items.length:=λc=>by unfold iB at o;rw[YH]at o;exact(Ez o.2 c).2
  have O:=T8 (lv:=lv) C;have Y:=Nf (lv:=lv) V;rw[Y]at hR l;obtain⟨z,f⟩:∃z:UInt8,z=(if v.kind=6 then 123 else 91):=⟨_,rfl⟩;obtain⟨M,m⟩:∃M:UInt8,M=(if v.kind=6 then 125 else 93):=⟨_,rfl⟩;rw[<-f,<-m]at hR l;rw[XX,YL,ZF]at l;intro K6 S;suffices main:K6 (bl [z]) (bl [M])by
   refine⟨λc=>?_,λc=>?_⟩;have c:v.kind=6:=by simpa using c
   rw[zb c]at f m;rw[f,m]at main;exact main;have c:¬v.kind=6:=by simpa using c
   rw[za c]at f m;rw[f,m]at main;exact main
  refine S _ _ ⟨λh0=>?_,λh0=>?_⟩;have h0:v.items.length=0:=by simpa using h0
  refine⟨Qf (by simp),?_⟩;have:xm v lv=[]:=YU (by omega);rw[this]at hR;rw[zr];exact hR;refine⟨λs i=>∃k:Nat,i=k/\k<=v.items.length/\s=bl (z::w7 Tc 0 (lv+1) ((xm v lv).take k)),λ_ i=>v.items.length-i.toNat,⟨0,rfl,YT _,rfl⟩,?_⟩;rintro s i ⟨k,rfl,hk,rfl⟩;have af:=uf Tc 0 (lv+1) (ps:=xm v lv) (n:=k) (by omega);refine⟨λhc=>?_,λhc=>?_⟩;have p:k<v.items.length:=by have:=lT hc;omega
  have J:k<(xm v lv).length:=by omega
  have x:=Tq J (lv+1);have Z:=uv Tc 0 (lv+1) J;have u:=YI p;have ah:=qp u;have ae:=yK u;rw[qz p (by have:=hsm.items;omega)];have P:XS .i64 ((lv:Int)+1)=((lv+1:Nat):Int):=by rw[eK (by omega)];omega
  rw[P];obtain⟨pre,b⟩:∃pre:Bs,pre=z::w7 Tc 0 (lv+1) ((xm v lv).take k)++(if k=0 then []else [44]):=⟨_,rfl⟩;have aa:pre.length=1+(w7 Tc 0 (lv+1) ((xm v lv).take k)).length+(if k=0 then 0 else 1):=by rw[b];by_cases h0:k=0;rw[zb h0,zb h0,ZO,YL];omega;rw[za h0,za h0,XX,YL,ZF];omega
  intro Q D;suffices hmain:Q (bl pre)by
   refine⟨λhi=>?_,λhi=>?_⟩;have hi:¬k=0:=by have:=zA hi;omega
   rw[za hi]at b;refine⟨Qf (by simp only[YL,zag];omega),?_⟩;have e:bl (z::w7 Tc 0 (lv+1) ((xm v lv).take k))++(⟨#[44]⟩:Bt)=bl pre:=by rw[b];exact zr _ _
   rw[e];exact hmain;have hi:k=0:=by have:=zG hi;omega
   rw[zb hi,ZO]at b;rw[<-b];exact hmain
  refine D _ λai E=>?_;refine⟨λh=>(by cases h),λ_=>E _ λy G=>?_⟩;have j:∀q:Bs,(xm v lv)[k]=q++Qv Tc 0 v.items[k] (lv+1)->y (bl (pre++q)):=λq w=>G _ ⟨v.items[k],⟨by omega,X9 p⟩,by rw[j7];refine Ep n v.items[k] (lv+1) (by omega) (by omega) (hsm.item u) (jf hok u) (by omega) ?_;rw[w,XX]at x;refine⟨Qf (by rw[XX];omega),⟨k+1,rfl,p,?_⟩,by simp only[XW];omega⟩;rw[zr,Z,w,b];congr 1;simp[Zf]⟩;refine⟨λc=>?_,λc=>?_⟩;have c:v.kind=6:=by simpa using c
  have H:k<v.keys.length:=by have:=C c;omega
  have w:(xm v lv)[k]=((ik (lb v.keys[k])).1++[58])++Qv Tc 0 v.items[k] (lv+1):=by unfold xm jp;simp[c]
  have L:=j _ w;have I:=uQ (gl:=gl) (t:=lb v.keys[k]) (by have:=hsm.key (YI H);omega) (R:=λr=>zw ((bl pre).size+r.1.size)/\zw ((bl pre++r.1).size+(⟨#[58]⟩:Bt).size)/\(Tc=Ta->zw (((bl pre++r.1)++(⟨#[58]⟩:Bt)).size+(⟨#[32]⟩:Bt).size)/\y (((bl pre++r.1)++(⟨#[58]⟩:Bt))++(⟨#[32]⟩:Bt)))/\(Tc=Tc->y ((bl pre++r.1)++(⟨#[58]⟩:Bt)))) (by
   rw[w,XX,XX]at x;refine⟨Qf (by omega),?_,λh=>(by cases h),λ_=>?_⟩;show zw ((bl pre++bl (ik (lb v.keys[k])).1).size+(bl [58]).size);rw[zr];exact Qf (by rw[XX];simp only[ZF]at x ⊢;omega);have:(bl pre++bl (ik (lb v.keys[k])).1)++(⟨#[58]⟩:Bt)=bl (pre++((ik (lb v.keys[k])).1++[58])):=by show(bl pre++bl (ik (lb v.keys[k])).1)++bl [58]=_;rw[zr,zr,YS]
   rw[this];exact L)
  rw[Qj]at I;exact⟨v.keys[k],⟨by omega,kX H⟩,I⟩;have c:¬v.kind=6:=by simpa using c
  have L:=j [] (by unfold xm;simp[c]);rw[ZO]at L;exact L;have U:k=v.items.length:=by have:=lI hc;omega
  rw[U,<-O,YR];intro ac F;refine⟨λh=>(by cases h),λ_=>F _ ⟨Qf (by simp only[YL,zag];omega),?_⟩⟩;rw[zr];exact hR
theorem PW(f:GL gl)(c:Sm v){R:Bt×Int->Prop}(b:R (Y7 v)):PC Tp gl 73 [Arg.mk .tree v] [.str,.int .i64] R:=by
 apply V9;simp only[j7];refine Hv f c ?_;unfold Y7 at b;cases hr:zn v with
 |false=>rw[hr]at b;exact⟨λ_=>b,λh=>(by cases h)⟩
 |true=>rw[hr]at b;obtain⟨j,k,e,i⟩:=xj hr;exact⟨λh=>(by cases h),λ_=>Ep (bR v) v 0 (XV _) (by omega) c e (by omega) b⟩
end
end Go.X
end
section
namespace Go.X
open Go Go.X Go.Proofs Go.Lib
section
variable {gl:Fr}
theorem Ho:zm Tp 84=Ta:=by kernel_rfl
theorem F9(a b:Bt):(a.toList==b.toList)=decide (a=b):=by rw[YW];simp only[ByteArray.toList_eq,beq_iff_eq,zv];constructor;intro h;cases a;cases b;simpa using h;intro h;rw[h]
theorem FT{v:Tr}(h:zl v=Ta)(b:v.kind=6):v.keys.Nodup/\v.keys.length=v.items.length:=by refine⟨?_,IS h b⟩;unfold zl at h;simp[b]at h;have:=h.1.1;unfold ye at this;rw[YH]at this;simpa using this.2
set_option maxHeartbeats 1000000 in
theorem Rq:∀(n:Nat) (a b:Tr),bR a<=n->Sm a->Sm b->Zk zl a=Ta->Zk zl b=Ta->∀{R:Bool->Prop},R (yw a b)->PC Tp gl 84 [Arg.mk .tree a,Arg.mk .tree b] [.bool] R:=by
 intro n;induction n with
 |zero=>intro a _ h;have:=Ye a;omega
 |succ n ih=>
  intro a b hn O J P ob R C h M vs hM ag t
  match vs,t with
  |[u1,u2],⟨u,o,_⟩=>
  have u:RdV M .tree a u1:=u;have o:RdV M .tree b u2:=o;obtain⟨sk,si,rfl,rk,ri⟩:=qn u;obtain⟨tk,E,rfl,V,p⟩:=qn o;obtain⟨li,_,_⟩:=rowLen ri;obtain⟨I,_,_⟩:=rowLen p;apply PX.of;apply UX a.kind a.text sk si b.kind b.text tk E;intro h1 l;have k1:Keep h.size h h1:=Keep.push _ _ (XV _);have k2:Keep h1.size h1 l:=Keep.push _ _ (XV _);have b1:Blk h1 h.size (zj a.kind a.text sk si).toArray:=Blk.new _ _ _;have b2:Blk l h1.size (zj b.kind b.text tk E).toArray:=Blk.new _ _ _;have z1:h1.size=h.size+1:=XY _;have z2:l.size=h1.size+1:=XY _;clear_value h1 l;have c:=b1.ofKeep k2;have kk:Keep h.size h l:=k1.trans k2 (by omega);have B:Later h M l M:=Later.same ag kk;intro K5 Z;have k:∀x:Bool,(x=Ta->yw a b=Tc)->(x=Tc->a.kind=b.kind/\a.text=b.text/\a.items.length=b.items.length)->K5 x l:=by
   intro x af S;refine Z x l ⟨λf=>⟨M,_,B,Y2.2 (rdBool _),?_⟩,λf=>?_⟩;rw[af f]at C;exact C;obtain⟨e1,e2,Q⟩:=S f;have Y:yw a b=(if a.kind=6 then ku a.keys a.items b else kv a.items b.items):=by rw[Wz];simp[e1,e2,Q]
   rw[Y]at C;refine⟨a.kind,c.cellAdd (by rfl),λh6=>?_,λh6=>?_⟩;have e:¬a.kind=6:=by simpa using h6
   rw[za e,I9 _ _ Q]at C;refine⟨si,c.cellAdd (by rfl),E,b2.cellAdd (by rfl),?_⟩;refine(Kz (gl:=gl) Ho (q:=yw) (xs:=a.items) (ys:=b.items) (λx f y G=>ih x y (by have:=qp f;omega) (O.item f) (J.item G) (jf P f) (jf ob G) rfl) hM B.ag ri p).go λw ai ac r L j z=>?_;have z:r=_:=z;subst z;refine⟨_,ib j,ac,_,B.trans L,Y2.2 (rdBool _),?_⟩;rw[Q];simpa using C;have e:a.kind=6:=by simpa using h6
   rw[zb e,Hl _ _ _ (IS (Jr P) e)]at C;obtain⟨na,la⟩:=FT (Jr P) e;obtain⟨nb,lb⟩:=FT (Jr ob) (by rw[<-e1];exact e);refine⟨a.kind,a.text,sk,si,c.ld (cs:=zj a.kind a.text sk si),b.kind,b.text,tk,E,b2.ld (cs:=zj b.kind b.text tk E),?_⟩;refine xL na la O.items B.ag (qe rk ri) λak m1 ua A al ae ra w1=>⟨Td m1,rfl,A.get h1.size (by omega),?_⟩;have m:=B.ag.keep A;refine xL nb lb J.items m (qe V p) λab m2 ub F aj aa rb w2=>⟨Td m2,rfl,?_⟩;have H:Later h M ab M:=(B.trans (Later.same B.ag A)).trans (Later.same m F);refine(KU (gl:=gl) Ho (q:=yw) na la lb ae aa ⟨O.items,J.items⟩ (λx f y G=>ih x y (by have:=qp f;omega) (O.item f) (J.item G) (jf P f) (jf ob G) rfl) hM H.ag (w1.keep (F.get _ w1.lt)) w2 ra rb).go λw ah U r L j z=>?_;have z:r=_:=z;subst z;refine⟨_,ib j,U,_,H.trans L,Y2.2 (rdBool _),?_⟩;rw[Q];simpa using C
  refine⟨a.kind,c.cellAdd (by rfl),b.kind,b2.cellAdd (by rfl),λN=>k _ (λ_=>?_) (λi=>?_),λN=>?_⟩;rw[Wz];have:¬a.kind=b.kind:=by simpa using N
  simp[this];rw[N]at i;cases i;have T:a.kind=b.kind:=by simpa using N
  refine⟨a.text,c.cellAdd (by rfl),b.text,b2.cellAdd (by rfl),λD=>k _ (λ_=>?_) (λi=>?_),λD=>⟨si,c.cellAdd (by rfl),E,b2.cellAdd (by rfl),k _ (λi=>?_) (λi=>?_)⟩⟩;rw[Wz];have:¬a.text=b.text:=by rw[F9]at D;simpa using D
  simp[this];rw[D]at i;cases i;rw[Wz];have:¬a.items.length=b.items.length:=by rw[li,I]at i;simp at i;omega
  simp[this];have:a.text=b.text:=by rw[F9]at D;simpa using D
  exact⟨T,this,by rw[li,I]at i;simp at i;omega⟩
theorem Lt(l:GL gl){a b:Tr}(i:Sm a)(k:Sm b){R:Bool->Prop}(h:R (xx a&&(xx b&&yw a b))):PC Tp gl 46 [Arg.mk .tree a,Arg.mk .tree b] [.bool] R:=by
 apply Le;simp only[j7];refine vM l i ⟨λr=>r=xx b,λ_=>vM l k rfl,λr j=>⟨λx=>x=yw a b,λe=>?_,λx f=>?_⟩⟩;cases h1:xx a with
 |false=>rw[h1]at e;cases e
 |true=>rw[h1,zI]at e;have c:=j h1;rw[e]at c;exact Rq _ a b (XV _) i k (xM h1) (xM c.symm) rfl
 cases h1:xx a with
 |false=>rw[h1]at h;exact h
 |true=>
  rw[h1]at h f;have c:=j h1;subst c;simp only[zI,zal]at h f ⊢;cases h3:xx b with
  |false=>rw[h3]at h;exact h
  |true=>rw[h3]at h f;rw[zI,f rfl];exact h
end
section
variable {M gl:Fr} {o:cR} {R:Bool -> Prop}
abbrev il:Ty:=.pair .str (.pair (.row .str) (.pair (.row .str) .tree))
def jg(s:Bt)(sp sf:Sl)(v:Tr)(sk si:Sl):List Value:=[.string s,aK sp,aK sf,.int .i64 v.kind,.string v.text,aK sk,aK si]
theorem V6{u:Value}(h:RdV M il o u):∃sp sf sk si:Sl,u=.agg (jg o.1 sp sf o.2.2.2 sk si).toArray/\RdV M (.row .str) o.2.1 (aK sp)/\RdV M (.row .str) o.2.2.1 (aK sf)/\RdV M .tree o.2.2.2 (.agg (Js o.2.2.2 sk si).toArray):=by
 unfold RdV at h;simp only[iu,if_true]at h;obtain⟨cs,rfl,c1,c2,rfl,h1,z,C,rfl,m,B,i,rfl,n,r⟩:=h;have h1:c1=[.string o.1]:=h1;subst h1;obtain⟨A,w,a2,e,t,g2⟩:=m;obtain⟨y,p,j,c,k,x⟩:=n;subst w;subst p;subst t;subst k;have b:RdV M .tree o.2.2.2 (.agg i.toArray):=by unfold RdV;simp only[iu,if_true];exact⟨_,rfl,r⟩
 obtain⟨sk,si,f,_⟩:=qn b;have l:i=Js o.2.2.2 sk si:=by injection f with f;exact congrArg zcn f
 subst l;refine⟨⟨a2,o.2.1.length,e⟩,⟨j,o.2.2.1.length,c⟩,sk,si,rfl,?_,?_,b⟩;rw[hG rfl];exact⟨_,rfl,a2,e,rfl,g2⟩;rw[hG rfl];exact⟨_,rfl,j,c,rfl,x⟩
theorem Uv{v:Tr}(i:v.keys.length<=1000000000)(hi:v.items.length<=1000000000000)(h:R (lw v)):PC Tp gl 79 [Arg.mk .tree v] [.bool] R:=by
 apply SU;have e:(bif (bif ((v.kind:Int)==0)then((v.text:Bt).toList==((⟨#[]⟩:Bt):Bt).toList)else Tc)then((XS .i64 (((ZM v.keys:Nat):Int)+((ZM v.items:Nat):Int)):Int)==0)else Tc)=lw v:=by rw[eK (by omega),YW];unfold lw;simp only[zak,YH,beq_iff_eq,zv,ByteArray.toList_eq,lb];constructor;rintro⟨⟨h1,b⟩,c⟩;exact⟨h1,b,YU (by omega),YU (by omega)⟩;rintro⟨h1,b,c,f⟩;exact⟨⟨h1,b⟩,by rw[c,f];rfl⟩
 rw[e];exact h
theorem Lk{v:Tr}(h:R (lw v)):PC Tp gl 130 [Arg.mk .tree v] [.bool] R:=by
 apply UG;have e:(bif (bif (bif ((v.kind:Int)==0)then((v.text:Bt).toList==((⟨#[]⟩:Bt):Bt).toList)else Tc)then((((ZM v.keys:Nat):Int):Int)==0)else Tc)then((((ZM v.items:Nat):Int):Int)==0)else Tc)=lw v:=by rw[YW];unfold lw;simp only[zak,YH,beq_iff_eq,zv,ByteArray.toList_eq,lb];constructor;rintro⟨⟨⟨h1,b⟩,f⟩,c⟩;exact⟨h1,b,YU (by omega),YU (by omega)⟩;rintro⟨h1,b,f,c⟩;exact⟨⟨⟨h1,b⟩,by rw[f];rfl⟩,by rw[c];rfl⟩
 rw[e];exact h
theorem sN(s:Bt)(a:Array UInt8):(s.toList==(⟨a⟩:Bt).toList)=decide (lb s=a.toList):=by rw[YW];simp[ByteArray.toList_eq,lb]
structure OpS (o:cR):Prop where
 p:SL o.2.1
 f:SL o.2.2.1
 v:Sm o.2.2.2
theorem QS{s:Bt}{R:Bool×Bool×Bool->Prop}(h:R (j9 (lb s))):PC Tp gl 77 [Arg.mk .str s] [.bool,.bool,.bool] R:=by
 apply WN;simp only[sN];unfold j9 pB Jt vx ow rT r9 at h;intro K f;have yes:(lb s=[97,100,100]\/lb s=[114,101,112,108,97,99,101]\/lb s=[116,101,115,116])->K Ta:=λc=>f Ta ⟨λ_=>by rw[zb c]at h;exact h,(λc=>by cases c)⟩;have i:¬(lb s=[97,100,100]\/lb s=[114,101,112,108,97,99,101]\/lb s=[116,101,115,116])->K Tc:=λc=>f Tc ⟨(λc=>by cases c),λ_=>by rw[za c]at h;refine⟨λh1=>⟨λ_=>?_,λb=>?_⟩,λh1=>⟨λb=>?_,λb=>?_⟩⟩;rw[zb (.inl (by simpa using h1))]at h;exact h;rw[h1]at b;cases b;rw[zb (.inr (by simpa using b))]at h;exact h;rw[za (λe=>by rcases e with e|e <;> simp_all)]at h;exact h⟩;refine⟨λh1=>?_,λh1=>⟨λb=>?_,λb=>?_⟩⟩;rw[h1];exact yes (.inl (by simpa using h1));rw[b];exact yes (.inr (.inl (by simpa using b)));cases h3:decide (lb s=#[116,101,115,116].toList)with
 |true=>exact yes (.inr (.inr (by simpa using h3)))
 |false=>exact i (by rintro(e|e|e) <;> simp_all)
theorem U0{s:Bt}{R:Bool×Bool×Bool->Prop}(h:R (j9 (lb s))):PC Tp gl 128 [Arg.mk .str s] [.bool,.bool,.bool] R:=by
 apply Ni;simp only[sN];unfold j9 pB Jt vx ow rT r9 at h;intro K i;have yes:(lb s=[97,100,100]\/lb s=[114,101,112,108,97,99,101]\/lb s=[116,101,115,116])->K Ta:=λc=>i Ta ⟨λ_=>by rw[zb c]at h;exact h,(λc=>by cases c)⟩;have j:¬(lb s=[97,100,100]\/lb s=[114,101,112,108,97,99,101]\/lb s=[116,101,115,116])->K Tc:=λc=>i Tc ⟨(λc=>by cases c),λ_=>by
  rw[za c]at h;refine⟨λh0=>?_,λh0=>⟨λh1=>⟨λ_=>?_,λb=>?_⟩,λh1=>⟨λb=>?_,λb=>?_⟩⟩⟩;have e:lb s=[114,101,109,111,118,101]:=by simpa using h0
  rw[e]at h;exact h;rw[zb (.inl (by simpa using h1))]at h;exact h;rw[h1]at b;cases b;rw[zb (.inr (by simpa using b))]at h;exact h;rw[za (λf=>by rcases f with f|f <;> simp_all)]at h;have:decide (lb s=[114,101,109,111,118,101])=Tc:=by simpa using h0
  rw[this]at h;exact h⟩
 refine⟨λh1=>?_,λh1=>⟨λb=>?_,λb=>?_⟩⟩;rw[h1];exact yes (.inl (by simpa using h1));rw[b];exact yes (.inr (.inl (by simpa using b)));cases h3:decide (lb s=#[116,101,115,116].toList)with
 |true=>exact yes (.inr (.inr (by simpa using h3)))
 |false=>exact j (by rintro(f|f|f) <;> simp_all)
theorem PU(m:GL gl)(b:OpS o)(h:R (y8 o)):PC Tp gl 44 [Arg.mk il o] [.bool] R:=by
 apply SF;refine QS ?_;simp only[j7];intro K u;have j:y8 o=Tc->K Ta:=λw=>u Ta ⟨λ_=>by rw[w]at h;exact h,(λt=>by cases t)⟩;refine⟨λh1=>?_,λh1=>?_⟩;rw[h1];exact j (by unfold y8;simp at h1;simp[h1]);have n:(j9 (lb o.1)).2.2=Ta:=by simpa using h1
 refine v9 m b.p ⟨λc=>?_,λc=>?_⟩;rw[c];exact j (by unfold y8;simp at c;simp[c]);have k:yb o.2.1=Ta:=by simpa using c
 refine v9 m b.f ⟨λi=>?_,λi=>?_⟩;rw[i];exact j (by unfold y8;simp at i;simp[i]);have r:yb o.2.2.1=Ta:=by simpa using i
 have e:(bif (!(j9 (lb o.1)).2.1)then(decide (((ZM o.2.2.1:Nat):Int)>0))else Tc)=!((j9 (lb o.1)).2.1||decide (o.2.2.1=[])):=by
  rw[YW];cases(j9 (lb o.1)).2.1 with
  |true=>simp
  |false=>simp[zav]
 rw[e];cases h4:((j9 (lb o.1)).2.1||decide (o.2.2.1=[]))with
 |false=>exact j (by unfold y8;rw[h4];simp)
 |true=>
  have x:y8 o=(bif (j9 (lb o.1)).1 then zn o.2.2.2 else lw o.2.2.2):=by unfold y8;rw[n,k,r,h4];rfl
  rw[x]at h;refine u Tc ⟨(λt=>by cases t),λ_=>⟨λl=>?_,λl=>?_⟩⟩;rw[l]at h;exact Jq m b.v h;rw[l]at h;exact Uv (by have:=b.v.keys;omega) b.v.items h
theorem T1(k:GL gl)(b:OpS o)(h:R (y8 o)):PC Tp gl 71 [Arg.mk il o] [.bool] R:=by
 apply NS;refine U0 ?_;simp only[j7];refine xJ b.p (xJ b.f ?_);have e:(bif (bif (bif (!(j9 (lb o.1)).2.2)then Ta else(!yb o.2.1))then Ta else(!yb o.2.2.1))then Ta else(bif (!(j9 (lb o.1)).2.1)then(decide (((ZM o.2.2.1:Nat):Int)>0))else Tc))=!((j9 (lb o.1)).2.2&&(yb o.2.1&&(yb o.2.2.1&&((j9 (lb o.1)).2.1||decide (o.2.2.1=[]))))):=by
  have l:(decide (((ZM o.2.2.1:Nat):Int)>0))=!decide (o.2.2.1=[]):=by rw[YW];simp[zav]
  rw[l];cases(j9 (lb o.1)).2.2 <;> cases yb o.2.1 <;> cases yb o.2.2.1 <;> cases(j9 (lb o.1)).2.1 <;> cases decide (o.2.2.1=[]) <;> rfl
 rw[e];cases h4:((j9 (lb o.1)).2.2&&(yb o.2.1&&(yb o.2.2.1&&((j9 (lb o.1)).2.1||decide (o.2.2.1=[])))))with
 |false=>
  refine⟨λ_=>?_,λi=>by simp at i⟩;have:y8 o=Tc:=by unfold y8;cases h1:(j9 (lb o.1)).2.2 <;> cases h2:yb o.2.1 <;> cases h3:yb o.2.2.1 <;> simp[h1,h2,h3]at h4 ⊢;simp[h4]
  rw[this]at h;exact h
 |true=>
  refine⟨λi=>by simp at i,λ_=>?_⟩;have j:y8 o=(bif (j9 (lb o.1)).1 then zn o.2.2.2 else lw o.2.2.2):=by simp only[YH]at h4;unfold y8;rw[h4.1,h4.2.1,h4.2.2.1,h4.2.2.2];rfl
  rw[j]at h;refine⟨λc=>?_,λc=>?_⟩;rw[c]at h;exact Hv k b.v h;rw[c]at h;exact Lk h
theorem EH{sp sf sk si:Sl}(f:RdV M (.row .str) o.2.1 (aK sp))(c:RdV M (.row .str) o.2.2.1 (aK sf))(b:RdV M .tree o.2.2.2 (.agg (Js o.2.2.2 sk si).toArray)):RdV M il o (.agg (jg o.1 sp sf o.2.2.2 sk si).toArray):=by
 rw[hG rfl]at f c;unfold RdV at b ⊢;simp only[iu,if_true]at b ⊢;obtain⟨cs,e,b⟩:=b;have e:Js o.2.2.2 sk si=cs:=by injection e with e;simpa using congrArg zcn e
 subst e;exact⟨jg o.1 sp sf o.2.2.2 sk si,rfl,[.string o.1],_,rfl,rfl,[aK sp],_,rfl,f,[aK sf],_,rfl,c,b⟩
end
end Go.X
end
section
namespace Go.Proofs.YtplilfikcimcbaaGreatDoor
open Go Go.X Go.ChangeShapes Go.WideShapes Go.ChangeAt Go.RowKit Go.Lib
set_option linter.unusedVariables false
section
variable {cs:List Value} {H:Type} {held:Bool} {fuel:Nat}
theorem seven(h:cs.length=7):cs=(cs.drop 0).take 1++((cs.drop 1).take 1++((cs.drop 2).take 1++(cs.drop 3).take 4)):=by
 match cs,h with
 |[a,b,c,d,e,f,g],_=>rfl
theorem MC{enc:TypeId×Value->H}{W:World}{sp:Nat->Bool}{x:DataW H×List MemPlace}(h:DataW.trod enc ZB W 0 sp held fuel 50 cs=some x)(y:kQ ZB 50 x.1):∃o:cR,Rd (Fz W) il o cs:=by
 obtain⟨xs,n,rfl,C,A,e,b⟩:=DataW.trod_struct Tryz.underlying50 h;have i:cs.length=7:=A.trans (by kernel_rfl);have l:xs.length=4:=e;have g0:DataW.trod enc ZB W 0 sp held n 9 ((cs.drop 0).take (ZB.cellsOf 9))=xs[0]?:=b 0 _ rfl;have g1:DataW.trod enc ZB W 0 sp held n 22 ((cs.drop 1).take (ZB.cellsOf 22))=xs[1]?:=b 1 _ rfl;have g2:DataW.trod enc ZB W 0 sp held n 22 ((cs.drop 2).take (ZB.cellsOf 22))=xs[2]?:=b 2 _ rfl;have k:DataW.trod enc ZB W 0 sp held n 25 ((cs.drop 3).take (ZB.cellsOf 25))=xs[3]?:=b 3 _ rfl;rw[YA (by omega)]at g0 g1 g2 k;have c:∀(j:Nat) (t:TypeId) (r:j<xs.length),([9,22,22,25]:List TypeId)[j]?=some t->kQ ZB t (xs[j]).1:=λj t r z m D=>y m (by rw[C];unfold DataW.weights;rw[Tryz.underlying50];exact DataW.weights_mem_each (j:=j) (t:=t) (d:=(xs[j]).1) (by rw[<-z];rfl) (by rw[zap,YA r];rfl) m D);have c1:ZB.cellsOf 9=1:=by kernel_rfl
 have c2:ZB.cellsOf 22=1:=by kernel_rfl
 have B:ZB.cellsOf 25=4:=by kernel_rfl
 rw[c1]at g0;rw[c2]at g1 g2;rw[B]at k;obtain⟨s,u⟩:=BO Tryz.underlying9 g0;obtain⟨p,E⟩:=Ej g1 (c 1 _ (by omega) rfl);obtain⟨f,w⟩:=Ej g2 (c 2 _ (by omega) rfl);obtain⟨v,F⟩:=xN _ _ _ k (c 3 _ (by omega) rfl);exact⟨(s,p,f,v),_,_,seven i,u,_,_,rfl,E,_,_,rfl,w,F⟩
theorem VR{enc:TypeId×Value->H}{W:World}{sp:Nat->Bool}{x:DataW H×List MemPlace}(h:DataW.trod enc ZB W 0 sp held fuel 44 cs=some x)(b:kQ ZB 44 x.1):∃xs:List cR,Rd (Fz W) (.row il) xs cs:= yY (T:=il) Tryz.underlying44 (by kernel_rfl) (by decide) (by decide +kernel) (λ_ _ cs y c e=>MC c e) h b
end
end Go.Proofs.YtplilfikcimcbaaGreatDoor
end
section
namespace Go.X
open Go Go.X Go.Proofs Go.RowKit
section
variable {g:zc} {ks:List Bt} {bs:List Nat} {c:Nat}
def OPath(g:zc)(ks:List Bt)(bs:List Nat)(s:Sl):Prop:=
 s.len=ks.length/\ks.length<=s.cap/\ks.length<=140737488355328/\((ks=[]/\bs=[])\/∃b cs,bs=[b]/\s.a=Td ⟨b,0,Te⟩/\Blk g b cs/\cut cs 0 ks.length=ks.map ZC)
theorem OPath.frame{g g':zc}{s:Sl}(H:OPath g ks bs s)(f:∀b∈bs,g'[b]?=g[b]?):OPath g' ks bs s:=by obtain⟨h1,h,j,i⟩:=H;refine⟨h1,h,j,i.imp id ?_⟩;rintro⟨b,cs,rfl,c,k,e⟩;exact⟨b,cs,rfl,c,k.keep (f b (by simp)),e⟩
theorem OPath.nil:OPath g [] [] ⟨Te,0,0⟩:=⟨rfl,XV _,by simp,.inl ⟨rfl,rfl⟩⟩
theorem OPath.rd{M:Fr}{s:Sl}(H:OPath g ks bs s)(h:∀b∈bs,∀cs,Blk g b cs->M b=Td cs):Rd M (.row .str) ks [aK s]:=by
 obtain⟨h1,f,j,m⟩:=H;refine⟨_,rfl,s.a,s.cap,by rw[aK,h1],⟨j,f⟩,?_⟩;rcases m with⟨h0,_⟩|⟨b,cs,rfl,k,n,l⟩;exact .inl h0;refine .inr ⟨b,0,cs,k,h b (by simp) cs n,λi hi=>?_⟩;have e:(cut cs 0 ks.length)[i]?=Td (ZC ks[i]):=by rw[l,zap,YA hi];rfl
 rw[qj,zb hi,YP]at e;show cut cs (0+i*1) 1=[.string ks[i]];apply zab;intro q;rw[qj];by_cases c:q<1;have:q=0:=by omega
 subst this;rw[zb c,show 0+i*1+0=i by omega,e];rfl;rw[za c,ZQ (by simp;omega)]
structure DAx where
 sp:Sl
 bp:List Nat
 sk:Sl
 si:Sl
 bv:List Nat
abbrev DA:=List (cR×DAx)
def dC(p:cR×DAx):List Value:=jg p.1.1 p.2.sp ⟨Te,0,0⟩ p.1.2.2.2 p.2.sk p.2.si
def dO(p:cR×DAx)(c:Nat):Prop:=c∈p.2.bp\/c∈p.2.bv
def ia(na:DA)(sl:Sl)(b c:Nat):Prop:=(sl.cap≠0/\c=b)\/∃p∈na,dO p c
structure DI (lo:Nat) (g:zc) (M:Fr) (p:cR×DAx):Prop where
 path:OPath g p.1.2.1 p.2.bp p.2.sp
 frm:p.1.2.2.1=[]
 val:OT g p.1.2.2.2 p.2.bv (Js p.1.2.2.2 p.2.sk p.2.si)
 own:∀c,dO p c->lo<=c/\c<g.size/\M c=Te
 dj:∀c∈p.2.bp,c∉p.2.bv
structure DStp (lo:Nat) (g:zc) (M:Fr) (na:DA) (sl:Sl) (b:Nat) (cs:Array Value):Prop where
 cr:CR g 7 (na.map dC) sl b cs
 lb:sl.cap≠0->lo<=b/\b<g.size/\M b=Te
 nd:∀p∈na,DI lo g M p
 dj:∀(i j:Nat) (p p':cR×DAx) (c:Nat),na[i]?=Td p->na[j]?=Td p'->dO p c->dO p' c->i=j
 nb:∀p∈na,¬dO p b
section
variable {lo : Nat} {g g' : zc} {M M' : Fr} {na : DA} {sl : Sl} {b : Nat} {cs : Array Value} {p : cR × DAx}
theorem DI.frame(H:DI lo g M p)(hz:g.size<=g'.size)(f:∀c,dO p c->g'[c]?=g[c]?)(e:∀c,dO p c->M' c=Te):DI lo g' M' p:= ⟨H.path.frame λc b=>f c (.inl b),H.frm,H.val.frame λc b=>f c (.inr b),λc b=>⟨(H.own c b).1,by have:=(H.own c b).2.1;omega,e c b⟩,H.dj⟩
theorem DStp.len(H:DStp lo g M na sl b cs):sl.len=na.length:=by rw[H.cr.ln,YF]
theorem DStp.own(H:DStp lo g M na sl b cs)(h:ia na sl b c):lo<=c/\c<g.size/\M c=Te:=by rcases h with⟨h1,rfl⟩|⟨p,e,h⟩;exact H.lb h1;exact(H.nd p e).own c h
theorem DStp.frame(H:DStp lo g M na sl b cs)(hz:g.size<=g'.size)(f:∀c,ia na sl b c->g'[c]?=g[c]?)(j:∀c,ia na sl b c->M' c=Te):DStp lo g' M' na sl b cs:=by refine⟨H.cr.frame λh=>f b (.inl ⟨?_,rfl⟩),λh=>by have:=H.lb h;exact⟨this.1,by omega,j b (.inl ⟨h,rfl⟩)⟩,λp e=>(H.nd p e).frame hz (λc i=>f c (.inr ⟨p,e,i⟩)) λc i=>j c (.inr ⟨p,e,i⟩),H.dj,H.nb⟩;rcases h with h|h;have:=H.cr.ln;have k:=H.cr.ro.le;have:=zav.2 h;omega;exact h
theorem DStp.nil:DStp lo g M [] ⟨Te,0,0⟩ b cs:= ⟨⟨⟨XV _,.inl ⟨rfl,rfl⟩⟩,rfl,λi e h=>(by cases h)⟩,λh=>absurd rfl h,λp f=>(by cases f),λi j p k c h=>(by cases h),λp f=>(by cases f)⟩
theorem Oj(p:cR×DAx):∀u∈dC p,u.oneCell'=Ta:=by intro u b;unfold dC jg aK at b;simp at b;rcases b with rfl|rfl|rfl|rfl|rfl|rfl|rfl <;> rfl
theorem DStp.push{t e:TypeId}{O:Value}{bytes:Nat}(E:ElemT Tp t e O 7 bytes)(A:bytes<=1000){ty:TypeId}(ag:AgM M g)(H:DStp lo g M na sl b cs)(J:DI lo g M p)(ap:∀c,dO p c->¬ia na sl b c)(P:lo<=g.size){bv L:Nat}(Q:Blk g bv (dC p).toArray)(B:na.length<=1000000){K:Value->zc->Prop} (N:∀(n:Sl) (g':zc) (b':Nat) (cs':Array Value),DStp lo g' M (na++[p]) n b' cs'->g.size<=g'.size->(∀c,ia (na++[p]) n b' c->ia na sl b c\/dO p c\/g.size<=c)->(∀j,j<g.size->¬ia na sl b j->g'[j]?=g[j]?)->K (.slice n.a n.len n.cap) g'):
  yp Tp (YO #[t,t] ty #[.slice sl.a sl.len sl.cap,.slice (Td ⟨bv,0,Te⟩) 1 L]) g K:=by
 have z:∀c,g.size<=c->M c=Te:=by
  intro c k;cases e:M c with
  |none=>rfl
  |some cs=>have:=ag.lt e;omega
 refine CR.app E A H.cr Q rfl (Oj _) (by rw[YF];exact B) λn g' b' cs' C G x w I=>?_;have l:ia na sl b b'\/g.size<=b':=by rcases x with⟨u,S⟩|u;exact .inl (.inl ⟨by have:=H.cr.ro.le;omega,u⟩);exact .inr u
 have y:∀q∈na++[p],¬dO q b':=λq f k=>by rcases YK.1 f with f|f;rcases x with⟨u,_⟩|u;rw[u]at k;exact H.nb q f k;have:=((H.nd q f).own b' k).2.1;omega;rw[YY.1 f]at k;rcases l with h|h;exact ap b' k h;have:=(J.own b' k).2.1;omega
 have r:∀q∈na++[p],DI lo g M q:=λq f=>by rcases YK.1 f with f|f;exact H.nd q f;rw[YY.1 f];exact J
 refine N n g' b' cs' ⟨by rw[ZT];exact C,λ_=>?_,λq f=>?_,?_,y⟩ G (λc k=>?_) (λj D B=>I j D λe=>?_);rcases l with h|h;have:=H.own h;exact⟨this.1,w,this.2.2⟩;exact⟨by omega,w,z b' h⟩;exact(r q f).frame G (λc k=>I c ((r q f).own c k).2.1 λe=>y q f (e ▸ k)) λc k=>((r q f).own c k).2.2
 intro i j q F c hi D k o;have key:∀(i:Nat) (q:cR×DAx),(na++[p])[i]?=Td q->na[i]?=Td q\/(i=na.length/\q=p):=λi q hi=>by
  rw[List.getElem?_append]at hi;split at hi;exact .inl hi;rename_i h;cases h0:i-na.length with
  |zero=>rw[h0]at hi;exact .inr ⟨by omega,by simpa using hi.symm⟩
  |succ m=>rw[h0]at hi;simp at hi
 rcases key i q hi with h1|⟨h1,rfl⟩ <;> rcases key j F D with h2|⟨h2,rfl⟩;exact H.dj i j q F c h1 h2 k o;exact absurd (.inr ⟨q,zbb h1,k⟩) (ap c o);exact absurd (.inr ⟨F,zbb h2,o⟩) (ap c k);omega;rcases k with⟨_,rfl⟩|⟨q,f,k⟩;rcases l with h|h;exact .inl h;exact .inr (.inr h);rcases YK.1 f with f|f;exact .inl (.inr ⟨q,f,k⟩);rw[YY.1 f]at k;exact .inr (.inl k);subst e;rcases l with h|h;exact B h;omega
def mL(na:DA)(sl:Sl)(b:Nat):List Nat:=(if sl.cap=0 then []else [b])++na.flatMap λp=>p.2.bp++p.2.bv
theorem vB:c∈mL na sl b↔ia na sl b c:=by unfold mL ia dO;rw[YK,zcf];simp only[YK];by_cases h:sl.cap=0;simp[h];simp[h]
theorem DStp.rd(H:DStp lo g M na sl b cs)(ag:AgM M g)(A:na.length<=1000000):Rd (MxL M g (mL na sl b)) (.row il) (na.map (·.1)) [aK sl]:=by
 have w:=H.len;have z:=H.cr.ro.le;refine⟨_,rfl,sl.a,sl.cap,by rw[aK,w,YF],⟨by rw[YF];omega,by rw[YF];omega⟩,?_⟩;by_cases h0:na=[];subst h0;exact .inl rfl;obtain⟨y,j⟩:=H.cr.blk (by simpa using h0);have n:=zav.2 h0;refine .inr ⟨b,0,cs,y,MxL.at (vB.2 (.inl ⟨by omega,rfl⟩)) j,λi hi=>?_⟩;have f:i<na.length:=by simpa using hi
 have u:na[i]?=Td na[i]:=YA f;have k:na[i]∈na:=YI f;have e:=(H.cr.el i (dC na[i]) (by rw[zap,u];rfl)).2;have l:sz il=7:=rfl;rw[l,YP,e,zbl];have D:=H.nd _ k;have t:Rd (MxL M g (mL na sl b)) (.row .str) na[i].1.2.1 [aK na[i].2.sp]:=D.path.rd λc m cs' j=>MxL.at (vB.2 (.inr ⟨_,k,.inl m⟩)) j;have x:Rd (MxL M g (mL na sl b)) (.row .str) na[i].1.2.2.1 [aK ⟨Te,0,0⟩]:=by rw[D.frm];exact⟨_,rfl,Te,0,rfl,⟨by simp,by simp⟩,.inl rfl⟩
 have p:RdV (MxL M g (mL na sl b)) .tree na[i].1.2.2.2 (.agg (Js na[i].1.2.2.2 na[i].2.sk na[i].2.si).toArray):=by unfold RdV;simp only[iu,if_true];exact⟨_,rfl,D.val.rd λc m cs' j=>MxL.at (vB.2 (.inr ⟨_,k,.inr m⟩)) j⟩
 have:=EH (M:=MxL M g (mL na sl b)) (o:=na[i].1) (sf:=⟨Te,0,0⟩) ((hG rfl).2 t) ((hG rfl).2 x) p;unfold RdV at this;simp only[iu,if_true]at this;obtain⟨cs',h,r⟩:=this;have h:jg na[i].1.1 na[i].2.sp ⟨Te,0,0⟩ na[i].1.2.2.2 na[i].2.sk na[i].2.si=cs':=by injection h with h;simpa using congrArg zcn h
 subst h;exact r
end
end
end Go.X
end
section
namespace Go.X
open Go Go.X Go.Proofs Go.Sort Go.Lib
section
theorem Ia{P:Program}{t e:TypeId}{z:Value}{sz bytes:Nat}(T:ElemT P t e z sz bytes){ty:TypeId}{h:zc}{p:Addr}{n N:Nat}{olds:List Value}(F:olds.length=n*sz)(k:∀j v,olds[j]?=Td v->zd h (p.add j)=Td v) {src:Sl} {news:List Value} (I:Arr N h src.a news) (D:news.length=src.len*sz) (f:(n+src.len)*bytes<=140737488355328) (C:n+src.len<=4611686018427387904) {K:Value->zc->Prop} (h0:src.len=0->K (.slice (Td p) n n) h) (E:∀(c:Nat) (h':zc) (l:Array Value),0<src.len->n+src.len<=c->Blk h' h.size l->l.toList.take (olds++news).length=olds++news->Keep h.size h h'->K (.slice (Td ⟨h.size,0,Te⟩) (n+src.len) c) h'):
  yp P (YO #[t,t] ty #[.slice (Td p) n n,.slice src.a src.len src.cap]) h K:=by
 intro B d;obtain⟨i,hi,hz,r,x⟩:=T.info;have A:=T.slice;subst r x;by_cases y:src.len=0;refine⟨_,d,h,?_,h0 y⟩;rw[y];generalize src.a=q;cases q <;> simp[YO,run_underlying A,sizeOf,typeInfo,hi,Builtin.lenOf,zbv,loadCells,loadCellsFrom,storeCells];rcases I with m|⟨b,o,m,M,L⟩;subst m;have:=Nat.mul_pos (Nat.pos_of_ne_zero y) T.pos;simp at D;omega;rw[m];have G:=run_append_grow (P:=P) (ty:=ty) (w:=mk B d h) t e i z A hi hz p n n olds F (λj v J=>k j v J) ⟨b,o,Te⟩ src.len src.cap news D (λj u H=>by rw[zh];exact L j u H) (by omega) (by omega) (growslice_fits (by omega) f);refine⟨_,_,_,G,E _ _ (olds.toArray++news.toArray++Builtin.zeroCells z.cells (grownCap (mk B d h) (n+src.len) n e-(n+src.len))) (by omega) (grownCap_ge _ _ _ _) (Blk.new h _ e) ?_ (Keep.push _ _ (XV _))⟩;simp only[XX,Array.toList_append,YS];rw[<-YS,List.take_left' (by simp)]
end
end Go.X
end
section
namespace Go.X
section
section
variable (n m : Nat) (sa sb : Nat -> Nat) (c : Nat -> Nat -> Nat)
def jY:Nat->Nat->Nat->Nat
 |0,_,_=>0
 |f+1,i,j=>
  if n<=i then(if m<=j then 0 else sb j+jY f i (j+1))
  else if m<=j then sa i+jY f (i+1) j
  else min (min (c i j+jY f (i+1) (j+1)) (sa i+jY f (i+1) j)) (sb j+jY f i (j+1))
def jB(i j:Nat):Nat:=jY n m sa sb c (n-i+(m-j)) i j
def kO:Nat->Nat->Nat->List (Nat×Nat)
 |0,_,_=>[]
 |f+1,i,j=>
  if i<n/\j<m then
   if jB n m sa sb c i j=c i j+jB n m sa sb c (i+1) (j+1)then(i,j)::kO f (i+1) (j+1)
   else if jB n m sa sb c i j=sa i+jB n m sa sb c (i+1) j then kO f (i+1) j
   else kO f i (j+1)
  else []
def nG(i j:Nat):List (Nat×Nat):=kO n m sa sb c (n-i+(m-j)) i j
end
variable {n m : Nat} {sa sb : Nat -> Nat} {c : Nat -> Nat -> Nat}
theorem Zi:∀(f e i j:Nat),n-i+(m-j)<=f->n-i+(m-j)<=e->jY n m sa sb c f i j=jY n m sa sb c e i j
 |0,0,i,j,_,_=>rfl
 |0,e+1,i,j,h,_=>by unfold jY;rw[zb (by omega),zb (by omega)]
 |f+1,0,i,j,_,h=>by unfold jY;rw[zb (by omega),zb (by omega)]
 |f+1,e+1,i,j,h,h'=>by unfold jY;by_cases h1:n<=i;rw[zb h1,zb h1];by_cases b:m<=j;rw[zb b,zb b];rw[za b,za b,Zi f e i (j+1) (by omega) (by omega)];rw[za h1,za h1];by_cases b:m<=j;rw[zb b,zb b,Zi f e (i+1) j (by omega) (by omega)];rw[za b,za b,Zi f e (i+1) j (by omega) (by omega),Zi f e i (j+1) (by omega) (by omega),Zi f e (i+1) (j+1) (by omega) (by omega)]
theorem MP(i j:Nat):jB n m sa sb c i j=
  if n<=i then(if m<=j then 0 else sb j+jB n m sa sb c i (j+1))
  else if m<=j then sa i+jB n m sa sb c (i+1) j
  else min (min (c i j+jB n m sa sb c (i+1) (j+1)) (sa i+jB n m sa sb c (i+1) j)) (sb j+jB n m sa sb c i (j+1)):=by
 unfold jB;rw[Zi _ (n-i+(m-j)+1) i j (XV _) (by omega)];conv=>lhs;unfold jY
 by_cases h1:n<=i;rw[zb h1,zb h1];by_cases b:m<=j;rw[zb b,zb b];rw[za b,za b,Zi (n-i+(m-j)) _ i (j+1) (by omega) (XV _)];rw[za h1,za h1];by_cases b:m<=j;rw[zb b,zb b,Zi (n-i+(m-j)) _ (i+1) j (by omega) (XV _)];rw[za b,za b,Zi (n-i+(m-j)) _ (i+1) j (by omega) (XV _),Zi (n-i+(m-j)) _ i (j+1) (by omega) (XV _),Zi (n-i+(m-j)) _ (i+1) (j+1) (by omega) (XV _)]
theorem W8:∀(f b i j:Nat),n-i+(m-j)<=f->n-i+(m-j)<=b->kO n m sa sb c f i j=kO n m sa sb c b i j
 |0,0,i,j,_,_=>rfl
 |0,b+1,i,j,h,_=>by unfold kO;rw[za (by omega)]
 |f+1,0,i,j,_,h=>by unfold kO;rw[za (by omega)]
 |f+1,b+1,i,j,h,h'=>by unfold kO;by_cases h1:i<n/\j<m;rw[zb h1,zb h1,W8 f b (i+1) j (by omega) (by omega),W8 f b i (j+1) (by omega) (by omega),W8 f b (i+1) (j+1) (by omega) (by omega)];rw[za h1,za h1]
theorem Lj(i j:Nat):nG n m sa sb c i j=
  if i<n/\j<m then
   if jB n m sa sb c i j=c i j+jB n m sa sb c (i+1) (j+1)then(i,j)::nG n m sa sb c (i+1) (j+1)
   else if jB n m sa sb c i j=sa i+jB n m sa sb c (i+1) j then nG n m sa sb c (i+1) j
   else nG n m sa sb c i (j+1)
  else []:=by
 unfold nG;rw[W8 _ (n-i+(m-j)+1) i j (XV _) (by omega)];conv=>lhs;unfold kO
 by_cases h1:i<n/\j<m;rw[zb h1,zb h1,W8 (n-i+(m-j)) _ (i+1) j (by omega) (XV _),W8 (n-i+(m-j)) _ i (j+1) (by omega) (XV _),W8 (n-i+(m-j)) _ (i+1) (j+1) (by omega) (XV _)];rw[za h1,za h1]
def Rising(i j n m:Nat):List (Nat×Nat)->Prop
 |[]=>True
 |p::M=>i<=p.1/\j<=p.2/\p.1<n/\p.2<m/\Rising (p.1+1) (p.2+1) n m M
theorem Rising.less{i j h f n m:Nat}(hi:h<=i)(k:f<=j):∀{M:List (Nat×Nat)},Rising i j n m M->Rising h f n m M
 |[],_=>trivial
 |_::_,⟨a,b,c,d,e⟩=>⟨by omega,by omega,c,d,e⟩
theorem sM:∀(f i j:Nat),Rising i j n m (kO n m sa sb c f i j)
 |0,i,j=>trivial
 |f+1,i,j=>by unfold kO;split;rename_i h;split;exact⟨XV _,XV _,h.1,h.2,sM f _ _⟩;split;exact(sM f _ _).less (Nat.le_succ _) (XV _);exact(sM f _ _).less (XV _) (Nat.le_succ _);trivial
end
end Go.X
end
section
namespace Go.X
open Go Go.Lib
section
def Jw(v:Tr)(k:Bt):Tr:=v.items.getD (idxOfS v.keys k).toNat zT
def iK(v:Tr)(i:Nat):Tr:=v.items.getD i zT
def iQ(i:Nat):Bt:=bl (Lib.itoa (i:Int))
def oU(p:List Bt):cR:=(bl r9,p,[],zT)
def oq(p:List Bt)(w:Tr):cR:=(bl pB,p,[],w)
def kH(p:List Bt)(w:Tr):cR:=(bl Jt,p,[],w)
def jO(D:List Bt->Tr->Tr->List cR)(p:List Bt)(a b:Tr):List cR:=
 ((zq a.keys).filter λk=>!b.keys.contains k).map (λk=>oU (p++[k])) ++
  (((zq a.keys).filter λk=>b.keys.contains k).flatMap (λk=>D (p++[k]) (Jw a k) (Jw b k)) ++
   ((zq b.keys).filter λk=>!a.keys.contains k).map (λk=>oq (p++[k]) (Jw b k)))
def jR(D:List Bt->Tr->Tr->List cR)(p:List Bt)(a b:Tr)(m:List (Nat×Nat)):List cR:=
 m.flatMap (λq=>D (p++[iQ q.1]) (iK a q.1) (iK b q.2)) ++
  (((ZN a.items.length).filter λi=>!(m.map (·.1)).contains i).reverse.map (λi=>oU (p++[iQ i])) ++
   ((ZN b.items.length).filter λi=>!(m.map (·.2)).contains i).map (λi=>oq (p++[iQ i]) (iK b i)))
section
variable (rw : List Tr -> List Tr -> Option (List (Nat × Nat)))
def jK:Nat->List Bt->Tr->Tr->List cR
 |0,_,_,_=>[]
 |f+1,p,a,b=>
  if yw a b then []
  else if a.kind=6/\b.kind=6 then jO (jK f) p a b
  else if a.kind=5/\b.kind=5 then(match rw a.items b.items with
   |some m=>jR (jK f) p a b m
   |none=>[kH p b])
  else [kH p b]
end
end
section
variable {α:Type} {i:Nat} {v a b:Tr}
theorem Ac{α:Type}(g:α->Nat)(p:α->Bool):∀l:List α,(l.map g).sum=((l.filter p).map g).sum+((l.filter λx=>!p x).map g).sum
 |[]=>rfl
 |x::l=>by have:=Ac g p l;cases h:p x;rw[List.filter_cons_of_neg (by simp[h]),List.filter_cons_of_pos (by simp[h])];simp only[ZE,List.sum_cons];omega;rw[List.filter_cons_of_pos h,List.filter_cons_of_neg (by simp[h])];simp only[ZE,List.sum_cons];omega
theorem xU{α:Type}(g:α->Nat)(b:∀x,1<=g x):∀l:List α,l.length<=(l.map g).sum
 |[]=>XV _
 |x::l=>by have:=xU g b l;have:=b x;simp only[ZE,List.sum_cons,YL];omega
theorem FG{α:Type}(g g':α->Nat):∀l:List α,(l.map λx=>g x+g' x).sum=(l.map g).sum+(l.map g').sum
 |[]=>rfl
 |x::l=>by have:=FG g g' l;simp only[ZE,List.sum_cons]at this ⊢;omega
theorem Cb{α:Type}{g g':α->Nat}:∀{l:List α},(∀x∈l,g x<=g' x)->(l.map g).sum<=(l.map g').sum
 |[],_=>XV _
 |x::l,h=>by have:=Cb (l:=l) λy b=>h y (XZ _ b);have:=h x (YJ ..);simp only[ZE,List.sum_cons];omega
theorem sQ{g:α->Nat}{l b:List α}(h:l.Perm b):(l.map g).sum=(b.map g).sum:=(h.map g).sum_nat
theorem sC{A B:List α}(c:A.Nodup)(b:B.Nodup)(h:∀x,x∈A↔x∈B):A.Perm B:=(List.perm_ext_iff_of_nodup c b).2 h
theorem rN:∀l:List Tr,Zz l=(l.map bR).sum
 |[]=>rfl
 |x::l=>by rw[ZE,List.sum_cons,<-rN l];rfl
theorem uW(v:Tr):1<=bR v:=by cases v;unfold bR;omega
theorem Ie{α β:Type}{A:List α}{B:List β}{M:List (α×β)}{ga:α->Nat}{gb:β->Nat}{D:α×β->Nat}(b:α->Bool)(pb:β->Bool) (h1:(A.filter b).Perm (M.map (·.1))) (c:(B.filter pb).Perm (M.map (·.2))) (h:∀x,1<=ga x) (e:∀x,1<=gb x) (f:∀q∈M,D q<=ga q.1+gb q.2):
  (A.filter λx=>!b x).length+(M.map D).sum+(B.filter λx=>!pb x).length<=(A.map ga).sum+(B.map gb).sum:=by
 have s1:=Ac ga b A;have s2:=Ac gb pb B;rw[sQ h1,ZY]at s1;rw[sQ c,ZY]at s2;have j:=xU ga h (A.filter λx=>!b x);have k:=xU gb e (B.filter λx=>!pb x);have t:=Cb f;have i:=FG (λq:α×β=>ga q.1) (λq=>gb q.2) M;simp only[Function.comp_def]at s1 s2;omega
theorem Zx{i j n m:Nat}:∀{M:List (Nat×Nat)},Rising i j n m M->(∀q∈M,i<=q.1/\q.1<n/\j<=q.2/\q.2<m)/\(M.map (·.1)).Nodup/\(M.map (·.2)).Nodup
 |[],_=>⟨λq f=>(nomatch f),zb6,zb6⟩
 |p::M,⟨a,b,c,d,e⟩=>by obtain⟨h,u,v⟩:=Zx e;refine⟨λq f=>?_,?_,?_⟩;rcases YB.1 f with rfl|f;exact⟨a,c,b,d⟩;have:=h q f;omega;rw[ZE,zaj];refine⟨λk=>?_,u⟩;obtain⟨q,f,e⟩:=ZI.1 k;have:=h q f;omega;rw[ZE,zaj];refine⟨λk=>?_,v⟩;obtain⟨q,f,e⟩:=ZI.1 k;have:=h q f;omega
theorem Hi(v:Tr):(ZN v.items.length).map (iK v)=v.items:=by refine List.ext_getElem (by simp) λi h1 b=>?_;rw[zbl,List.getElem_range];unfold iK;rw[YN,YA b];rfl
theorem Ht{l:List Bt}(h:l.Nodup)(hi:i<l.length):idxOfS l l[i]=(i:Int):=by rcases pq l[i] l 0 with⟨_,b⟩|⟨k,h1,b,c⟩;exact absurd (YI hi) b;unfold idxOfS;rw[h1,YP];rw[YA b]at c;rw[(List.getElem_inj h).1 (ZA c)]
theorem wF(e:v.keys.Nodup)(b:v.keys.length=v.items.length):v.keys.map (Jw v)=v.items:=by refine List.ext_getElem (by simp[b]) λi h1 c=>?_;rw[zbl];unfold Jw;rw[Ht e (by omega),XW,YN,YA c];rfl
theorem nF(h:Zk zl v=Ta)(b:v.kind=6):v.keys.Nodup/\v.keys.length=v.items.length:=by cases v;rename_i k s ks xs;unfold Zk at h;rw[YH]at h;have h:=h.1;have b:k=6:=b;subst b;simp[zl,ye,Tr.kind,Tr.keys,Tr.items]at h;exact⟨h.1.1.2,h.1.2⟩
theorem sD(e:v.keys.Nodup)(b:v.keys.length=v.items.length){k:Bt}(c:k∈v.keys):Jw v k∈v.items:=by rw[<-wF e b];exact ZI.2 ⟨k,c,rfl⟩
theorem uL(h:i<v.items.length):iK v i∈v.items:=by unfold iK;rw[YN,YA h];exact YI h
theorem T6{D:List Bt->Tr->Tr->List cR}{p:List Bt}(na:a.keys.Nodup)(c:b.keys.Nodup)(la:a.keys.length=a.items.length)(lb:b.keys.length=b.items.length)
  (i:∀p x y,x∈a.items->y∈b.items->(D p x y).length<=bR x+bR y):(jO D p a b).length<=Zz a.items+Zz b.items:=by
 have f:=qy a.keys;have pb:=qy b.keys;have h:∀k,k∈zq a.keys↔k∈a.keys:=λk=>f.mem_iff;have l:∀k,k∈zq b.keys↔k∈b.keys:=λk=>pb.mem_iff;have H:=Ie (A:=zq a.keys) (B:=zq b.keys) (M:=((zq a.keys).filter λk=>b.keys.contains k).map λk=>(k,k)) (ga:=λk=>bR (Jw a k)) (gb:=λk=>bR (Jw b k)) (D:=λq=>(D (p++[q.1]) (Jw a q.1) (Jw b q.2)).length) (λk=>b.keys.contains k) (λk=>a.keys.contains k) (by rw[ZY];simp only[Function.comp_def,List.map_id'];exact List.Perm.refl _) (by rw[ZY];simp only[Function.comp_def,List.map_id'];refine sC ((pb.nodup_iff.2 c).filter _) ((f.nodup_iff.2 na).filter _) λx=>?_;rw[zaq,zaq,h,l,List.contains_iff_mem,List.contains_iff_mem];exact And.comm) (λ_=>uW _) (λ_=>uW _) (by intro q j;obtain⟨k,e,rfl⟩:=ZI.1 j;rw[zaq,h,List.contains_iff_mem]at e;exact i _ _ _ (sD na la e.1) (sD c lb e.2));rw[sQ f,sQ pb]at H;have m:(a.keys.map λk=>bR (Jw a k)).sum=Zz a.items:=by rw[rN,<-wF na la,ZY];rfl
 have n:(b.keys.map λk=>bR (Jw b k)).sum=Zz b.items:=by rw[rN,<-wF c lb,ZY];rfl
 rw[m,n,ZY]at H;unfold jO;rw[XX,XX,YF,YF,List.length_flatMap];simp only[Function.comp_def]at H;omega
theorem VF{D:List Bt->Tr->Tr->List cR}{p:List Bt}{m:List (Nat×Nat)}(j:Rising 0 0 a.items.length b.items.length m)
  (f:∀p x y,x∈a.items->y∈b.items->(D p x y).length<=bR x+bR y):(jR D p a b m).length<=Zz a.items+Zz b.items:=by
 obtain⟨e,k,n⟩:=Zx j;have H:=Ie (A:=ZN a.items.length) (B:=ZN b.items.length) (M:=m) (ga:=λi=>bR (iK a i)) (gb:=λi=>bR (iK b i)) (D:=λq=>(D (p++[iQ q.1]) (iK a q.1) (iK b q.2)).length) (λi=>(m.map (·.1)).contains i) (λi=>(m.map (·.2)).contains i) (sC (zc9.filter _) k λx=>by rw[zaq,ZR,List.contains_iff_mem];refine⟨λh=>h.2,λh=>⟨?_,h⟩⟩;obtain⟨q,c,rfl⟩:=ZI.1 h;exact(e q c).2.1) (sC (zc9.filter _) n λx=>by rw[zaq,ZR,List.contains_iff_mem];refine⟨λh=>h.2,λh=>⟨?_,h⟩⟩;obtain⟨q,c,rfl⟩:=ZI.1 h;exact(e q c).2.2.2) (λ_=>uW _) (λ_=>uW _) (λq c=>f _ _ _ (uL (e q c).2.1) (uL (e q c).2.2.2));have l:((ZN a.items.length).map λi=>bR (iK a i)).sum=Zz a.items:=by
  conv=>rhs;rw[<-Hi a]
  rw[rN,ZY];rfl
 have o:((ZN b.items.length).map λi=>bR (iK b i)).sum=Zz b.items:=by
  conv=>rhs;rw[<-Hi b]
  rw[rN,ZY];rfl
 rw[l,o]at H;unfold jR;rw[XX,XX,YF,YF,List.length_flatMap,List.length_reverse];omega
theorem te{rw:List Tr->List Tr->Option (List (Nat×Nat))}(c:∀us ws m,rw us ws=Td m->Rising 0 0 us.length ws.length m):
  ∀(f:Nat) (p:List Bt) (a b:Tr),Zk zl a=Ta->Zk zl b=Ta->(jK rw f p a b).length<=bR a+bR b
 |0,p,a,b,_,_=>YT _
 |f+1,p,a,b,ha,hb=>by have n:=wy a;have tb:=wy b;have e:∀p x y,x∈a.items->y∈b.items->(jK rw f p x y).length<=bR x+bR y:=λp x y j i=>te c f p x y (jf ha j) (jf hb i);unfold jK;split;exact YT _;split;rename_i h;obtain⟨na,la⟩:=nF ha h.1;obtain⟨k,lb⟩:=nF hb h.2;have:=T6 (p:=p) na k la lb e;omega;split;split;rename_i m l;have:=VF (p:=p) (c _ _ _ l) e;omega;show 1<=_;omega;show 1<=_;omega
end
section
variable {α:Type} {a b:Tr}
theorem zO:∀{xs ys:List Tr},xs.length=ys.length->(∀(i:Nat) (h1:i<xs.length) (b:i<ys.length),yw xs[i] ys[i]=Ta)->kv xs ys=Ta
 |[],[],_,_=>by unfold kv;rfl
 |x::xs,y::ys,hl,h=>by unfold kv;have h0:yw x y=Ta:=h 0 (Nat.succ_pos _) (Nat.succ_pos _);rw[h0,zO (Nat.succ.inj hl) λi h1 b=>h (i+1) (Nat.succ_lt_succ h1) (Nat.succ_lt_succ b)];rfl
 |[],_::_,hl,_=>nomatch hl
 |_::_,[],hl,_=>nomatch hl
theorem yT{b:Tr}(l:b.keys.length=b.items.length):∀{ks:List Bt} {xs:List Tr},ks.length=xs.length->(∀(i:Nat) (h1:i<ks.length) (c:i<xs.length),ks[i]∈b.keys/\yw xs[i] (Jw b ks[i])=Ta)->ku ks xs b=Ta
 |[],[],_,_=>by unfold ku;rfl
 |k::ks,x::xs,hl,h=>by
  unfold ku;rw[yT l (Nat.succ.inj hl) λi h1 c=>h (i+1) (Nat.succ_lt_succ h1) (Nat.succ_lt_succ c)];obtain⟨h1,c⟩:=h 0 (Nat.succ_pos _) (Nat.succ_pos _);have h1:k∈b.keys:=h1;have c:yw x (Jw b k)=Ta:=c;rcases pq k b.keys 0 with⟨_,f⟩|⟨j,f,m,_⟩;exact absurd h1 f;have e:idxOfS b.keys k=(j:Int):=by unfold idxOfS;rw[f,YP]
  unfold Jw at c;rw[e,XW,YN,YA (by omega:j<b.items.length)]at c;rw[e,XW,YA (by omega:j<b.items.length)];have c:yw x b.items[j]=Ta:=c;simp[c]
 |[],_::_,hl,_=>nomatch hl
 |_::_,[],hl,_=>nomatch hl
theorem E7{n m:Nat}:∀{M:List (Nat×Nat)} {i j:Nat},i<=n->j<=m->Rising i j n m M->(∀k,i<=k->k<n->k∈M.map (·.1))->(∀k,j<=k->k<m->k∈M.map (·.2))->n-i=m-j/\∀k,k<n-i->(i+k,j+k)∈M
 |[],i,j,hi,hj,_,h1,h2=>by have a:n<=i:=Nat.le_of_not_lt λh=>nomatch h1 i (XV _) h;have b:m<=j:=Nat.le_of_not_lt λh=>nomatch h2 j (XV _) h;exact⟨by omega,λk l=>by omega⟩
 |p::M,i,j,hi,hj,⟨a,b,c,d,e⟩,h1,h2=>by
  have r:=(Zx e).1;have t:p.1=i:=by rcases YB.1 (h1 i (XV _) (by omega))with h|h;exact h.symm;obtain⟨q,o,e⟩:=ZI.1 h;have:=r q o;omega
  have w:p.2=j:=by rcases YB.1 (h2 j (XV _) (by omega))with h|h;exact h.symm;obtain⟨q,o,e⟩:=ZI.1 h;have:=r q o;omega
  have z:Rising (i+1) (j+1) n m M:=by rw[<-t,<-w];exact e
  have x:i+1<=n:=by omega
  have y:j+1<=m:=by omega
  obtain⟨u,v⟩:=E7 x y z (λk l f=>by
    rcases YB.1 (h1 k (by omega) f)with h|h;have h:k=p.1:=h;omega
    ·exact h) (λk l f=>by
    rcases YB.1 (h2 k (by omega) f)with h|h;have h:k=p.2:=h;omega;exact h)
  refine⟨by omega,λk l=>?_⟩;cases k with
  |zero=>rw[show(i+0,j+0)=p from Prod.ext t.symm w.symm];exact YJ ..
  |succ k=>have:=v k (by omega);rw[show i+(k+1)=i+1+k by omega,show j+(k+1)=j+1+k by omega];exact XZ _ this
theorem sF{p:α->Bool}{l:List α}(h:l.filter (λx=>!p x)=[]):∀x∈l,p x=Ta:=λx b=>by cases e:p x;have:x∈l.filter λx=>!p x:=zaq.2 ⟨b,by simp[e]⟩;rw[h]at this;exact nomatch this;rfl
theorem D4{α β:Type}{g:α->List β}{l:List α}(h:l.flatMap g=[]):∀x∈l,g x=[]:=λx b=>by have:=List.flatMap_eq_nil_iff.1 h;exact this x b
theorem KM{D:List Bt->Tr->Tr->List cR}{p:List Bt}(na:a.keys.Nodup)(l:b.keys.Nodup)(la:a.keys.length=a.items.length)(lb:b.keys.length=b.items.length)(c:a.kind=6)(f:b.kind=6)(r:a.text=b.text)
  (t:∀p x y,x∈a.items->y∈b.items->D p x y=[]->yw x y=Ta) (h:jO D p a b=[]):yw a b=Ta:=by
 unfold jO at h;obtain⟨h1,h⟩:=zcd.1 h;obtain⟨n,z⟩:=zcd.1 h;have m:=qy a.keys;have pb:=qy b.keys;have e:∀k∈a.keys,k∈b.keys:=λk c=>List.contains_iff_mem.1 (sF (List.map_eq_nil_iff.1 h1) k (m.mem_iff.2 c));have u:∀k∈b.keys,k∈a.keys:=λk c=>List.contains_iff_mem.1 (sF (List.map_eq_nil_iff.1 z) k (pb.mem_iff.2 c));have k2:∀k∈a.keys,yw (Jw a k) (Jw b k)=Ta:=λk c=>t _ _ _ (sD na la c) (sD l lb (e k c)) (D4 n k (zaq.2 ⟨m.mem_iff.2 c,List.contains_iff_mem.2 (e k c)⟩));have w:a.keys.length=b.keys.length:=(sC na l λx=>⟨e x,u x⟩).length_eq;have A:ku a.keys a.items b=Ta:=yT lb la λi j o=>by refine⟨e _ (YI j),?_⟩;have:=k2 _ (YI j);unfold Jw at this;rw[Ht na j,XW,YN,YA o]at this;exact this
 rw[Wz];simp[c,f,r,A,<-la,<-lb,w]
theorem MW{D:List Bt->Tr->Tr->List cR}{p:List Bt}{m:List (Nat×Nat)}(C:Rising 0 0 a.items.length b.items.length m)(c:a.kind=5)(f:b.kind=5)(u:a.text=b.text)
  (w:∀p x y,x∈a.items->y∈b.items->D p x y=[]->yw x y=Ta) (h:jR D p a b m=[]):yw a b=Ta:=by
 unfold jR at h;obtain⟨t,h⟩:=zcd.1 h;obtain⟨h1,A⟩:=zcd.1 h;have r:∀k,0<=k->k<a.items.length->k∈m.map (·.1):=λk _ c=>List.contains_iff_mem.1 (sF (p:=λi=>(m.map (·.1)).contains i) (List.reverse_eq_nil_iff.1 (List.map_eq_nil_iff.1 h1)) k (ZR.2 c));have z:∀k,0<=k->k<b.items.length->k∈m.map (·.2):=λk _ c=>List.contains_iff_mem.1 (sF (p:=λi=>(m.map (·.2)).contains i) (List.map_eq_nil_iff.1 A) k (ZR.2 c));obtain⟨n,e⟩:=E7 (YT _) (YT _) C r z;have B:kv a.items b.items=Ta:=zO (by omega) λi o j=>by have l:=e i (by omega);rw[YP]at l;have:=w _ _ _ (uL o) (uL j) (D4 t _ l);unfold iK at this;rw[YN,YA o,YN,YA j]at this;exact this
 rw[Wz];have n:a.items.length=b.items.length:=by omega
 simp[c,f,u,B,n]
theorem tw:∀{l:List Tr} {x:Tr},x∈l->iq x<=X7 l
 |y::l,x,h=>by unfold X7;rcases YB.1 h with rfl|h;omega;have:=tw h;omega
theorem sW{v:Tr}(h:Zk zl v=Ta)(b:v.kind=5\/v.kind=6):lb v.text=[]:=by have h:=Jr h;unfold zl at h;rcases b with e|e <;> simp[e]at h <;> simp[h]
theorem HM{rw:List Tr->List Tr->Option (List (Nat×Nat))}(j:∀us ws m,rw us ws=Td m->Rising 0 0 us.length ws.length m):
  ∀(f:Nat) (p:List Bt) (a b:Tr),iq a<=f->Zk zl a=Ta->Zk zl b=Ta->jK rw f p a b=[]->yw a b=Ta
 |0,p,a,b,hf,_,_,_=>by have:=X8 a;omega
 |f+1,p,a,b,hf,ha,hb,h=>by have l:∀p x y,x∈a.items->y∈b.items->jK rw f p x y=[]->yw x y=Ta:=λp x y k n=>HM j f p x y (by have:=tw k;have:=X8 a;omega) (jf ha k) (jf hb n);unfold jK at h;split at h;assumption;split at h;rename_i c;obtain⟨na,la⟩:=nF ha c.1;obtain⟨o,i⟩:=nF hb c.2;exact KM na o la i c.1 c.2 (nK.1 (by rw[sW ha (Or.inr c.1),sW hb (Or.inr c.2)])) l h;split at h;rename_i e;split at h;rename_i m r;exact MW (j _ _ _ r) e.1 e.2 (nK.1 (by rw[sW ha (Or.inl e.1),sW hb (Or.inl e.2)])) l h;exact nomatch h;exact nomatch h
theorem TL{rw:List Tr->List Tr->Option (List (Nat×Nat))}{f:Nat}{p:List Bt}(h:yw a b=Ta):jK rw f p a b=[]:=by
 cases f with
 |zero=>rfl
 |succ f=>unfold jK;rw[zb h]
end
end Go.X
end
section
namespace Go.X
open Go Go.X Go.Proofs Go.Lib
section
variable {v x:Tr} {l:List Tr} {k:Nat}
structure GV (v:Tr):Prop where
 r:zn v=Ta
 s:Sm v
theorem OY(h:zn v=Ta)(c:x∈v.items):zn x=Ta:=by unfold zn Zd at h ⊢;rw[YH,YH]at h ⊢;have h1:=qp c;have e:=tw c;have f:=X8 v;have a:=zA h.1.1;have b:=zA h.1.2;exact⟨⟨zH (by omega),zH (by omega)⟩,jf h.2 c⟩
theorem GV.item(H:GV v)(b:x∈v.items):GV x:=⟨OY H.r b,H.s.item b⟩
theorem GV.open(H:GV v):xx v=Ta:=TY H.r
theorem GV.ok(H:GV v):Zk zl v=Ta:=xM H.open
theorem GV.dp(H:GV v):iq v<=32:=by have h:=H.r;unfold zn Zd at h;rw[YH,YH]at h;exact zA h.1.2
theorem GV.sz(H:GV v):bR v<=4096:=TB H.open
theorem GV.len(H:GV v):v.items.length<=4096:=by have:=H.sz;have:=Zc v.items;have:=wy v;omega
theorem GV.keys(H:GV v)(b:v.kind=6):v.keys.Nodup/\v.keys.length=v.items.length:=nF H.ok b
theorem TV(v:Tr):(Qi v).1.1.length<=512/\(Qi v).1.2.length<=512:=by unfold Qi;split;split;exact⟨YT _,YT _⟩;rename_i h;have:=rh (zt v) 0;unfold rR;simp only[YF];omega;exact⟨YT _,YT _⟩
def j3(l:List Tr):Nat:=(l.map λv=>(Qi v).1.1.length).sum
def w8(l:List Tr):Option (List (List Bt×List Int)):=if 64<l.length\/(l.any λv=>decide ((Qi v).2≠0))=Ta\/512<j3 l then Te else Td (l.map λv=>(Qi v).1)
def mz:Option (List (List Bt×List Int))->List (List Bt×List Int)×Int
 |some x=>(x,0)
 |none=>([],6)
theorem Kk(b:k<l.length):j3 (l.take (k+1))=j3 (l.take k)+(Qi l[k]).1.1.length:=by unfold j3;rw[YD b,ZT,List.sum_append];simp
theorem Ps:j3 (l.take k)<=j3 l:=by
 unfold j3;conv=>rhs;rw[<-zan k l]
 rw[ZT,List.sum_append];omega
theorem Nq{q:Tr->Bool}(b:k<l.length):(l.take (k+1)).any q=((l.take k).any q||q l[k]):=by rw[YD b,List.any_append];simp
theorem Sy(b:k<l.length)(h:(Qi l[k]).2≠0\/512<j3 (l.take (k+1))):w8 l=Te:=by unfold w8;rw[zb];rcases h with h|h;exact .inr (.inl (zc8.2 ⟨l[k],YI b,by simpa using h⟩));exact .inr (.inr (zbu h Ps))
theorem Ms(h1:l.length<=64)(b:(l.any λv=>decide ((Qi v).2≠0))=Tc)(c:j3 l<=512):w8 l=Td (l.map λv=>(Qi v).1):=by unfold w8;rw[za];rintro(h|h|h);omega;rw[b]at h;exact nomatch h;omega
section
variable {gl : Fr}
theorem Cs(t:GL gl)(x:Brn gl)(u:∀v∈l,GV v)(A:l.length<=1000000){R:List (List Bt×List Int)×Int->Prop}(h:R (mz (w8 l))):PC Tp gl 182 [Arg.mk (.row .tree) l] [.row jM,.int .i64] R:=by
 apply RL;refine⟨λi=>∃k:Nat,i=k/\k<=l.length,λi=>l.length-i.toNat,⟨0,rfl,YT _⟩,?_⟩;rintro i ⟨k,rfl,y⟩;refine⟨λj=>?_,λj=>?_⟩;have b:k<l.length:=by simp at j;omega
 have m:=u _ (YI b);refine⟨l[k],⟨by omega,by rw[XW];exact YA b⟩,?_⟩;rw[j7];refine Jq t m.s ?_;rw[m.r];refine⟨λe=>(by cases e),λ_=>?_⟩;rw[qz b (by omega)];exact⟨⟨k+1,rfl,b⟩,by simp only[XW];omega⟩;refine⟨λc=>?_,λc=>?_⟩;have:w8 l=Te:=by unfold w8;rw[zb (.inl (by simp at c;omega))]
 rw[this]at h;exact h;have c:l.length<=64:=by simp at c;omega
 refine⟨λout left i=>∃k:Nat,i=k/\k<=l.length/\out=(l.take k).map (λv=>(Qi v).1)/\left=512-(j3 (l.take k):Int)/\j3 (l.take k)<=512/\((l.take k).any λv=>decide ((Qi v).2≠0))=Tc,λ_ _ i=>l.length-i.toNat,⟨0,rfl,YT _,rfl,rfl,YT _,rfl⟩,?_⟩;rintro out left i ⟨k,rfl,y,rfl,rfl,w,p⟩;refine⟨λj=>?_,λj=>?_⟩;have b:k<l.length:=by simp at j;omega
 have m:=u _ (YI b);refine⟨l[k],⟨by omega,by rw[XW];exact YA b⟩,?_⟩;rw[j7];refine WH t x m.s ?_;have z:=(TV l[k]).1;have hL:=Kk b;rw[eK (n:=512-(j3 (l.take k):Int)-((Qi l[k]).1.1.length:Nat)) (by omega)];refine⟨λe=>?_,λe=>?_⟩;have:w8 l=Te:=Sy b (by
  by_cases f:(Qi l[k]).2=0;right;rw[f]at e;have:512-(j3 (l.take k):Int)-((Qi l[k]).1.1.length:Nat)<0:=by simpa using e
  omega;exact .inl f)
 rw[this]at h;exact h;have o:(Qi l[k]).2=0/\¬512-(j3 (l.take k):Int)-((Qi l[k]).1.1.length:Nat)<0:=by cases f:((Qi l[k]).2 != 0);rw[f]at e;exact⟨by simpa using f,by simpa using e⟩;rw[f]at e;exact nomatch e
 rw[qz b (by omega)];refine⟨by simp;omega,⟨k+1,rfl,b,?_,by omega,by omega,?_⟩,by simp only[XW];omega⟩;rw[YD b,ZT];rfl;rw[Nq b,p];simpa using o.1;have:k=l.length:=by simp at j;omega
 subst this;rw[YR]at w p ⊢;rw[Ms c p w]at h;exact h
end
end
end Go.X
end
section
namespace Go.X
section
variable {x:Nat}
section
variable (la lb : Nat -> Nat) (tn : Nat -> Nat -> Nat)
def gF(P:Nat->Nat->Nat)(fa fb:Nat):Nat->Nat->Nat->Nat
 |0,x,y=>x+y
 |_+1,0,y=>y
 |_+1,x+1,0=>x+1
 |f+1,x+1,y+1=>min (1+min (gF P fa fb f x (y+1)) (gF P fa fb f (x+1) y))
   (if la (fa+x)=fa/\lb (fb+y)=fb then gF P fa fb f x y+tn (fa+x) (fb+y)else gF P fa fb f (la (fa+x)-fa) (lb (fb+y)-fb)+P (fa+x) (fb+y))
def gN(P:Nat->Nat->Nat)(fa fb x y:Nat):Nat:=gF la lb tn P fa fb (x+y) x y
end
def Frs(la:Nat->Nat)(fa x:Nat):Prop:=∀k,k<x->fa<=la (fa+k)/\la (fa+k)<=fa+k
theorem Frs.less{la:Nat->Nat}{fa x b:Nat}(h:Frs la fa x)(e:b<=x):Frs la fa b:=λk c=>h k (by omega)
variable {la lb : Nat -> Nat} {tn : Nat -> Nat -> Nat} {P P' : Nat -> Nat -> Nat} {fa fb : Nat}
theorem mO:∀(f c x y:Nat),Frs la fa x->Frs lb fb y->x+y<=f->x+y<=c->gF la lb tn P fa fb f x y=gF la lb tn P fa fb c x y
 |f,c,0,y,_,_,_,_=>by cases f <;> cases c <;> simp[gF]
 |f,c,x+1,0,_,_,_,_=>by cases f <;> cases c <;> simp[gF]
 |0,c,x+1,y+1,_,_,h,_=>by omega
 |f+1,0,x+1,y+1,_,_,_,h=>by omega
 |f+1,c+1,x+1,y+1,ha,hb,h,h'=>by have a:=ha x (by omega);have b:=hb y (by omega);unfold gF;rw[mO f c x (y+1) (ha.less (by omega)) hb (by omega) (by omega),mO f c (x+1) y ha (hb.less (by omega)) (by omega) (by omega),mO f c x y (ha.less (by omega)) (hb.less (by omega)) (by omega) (by omega),mO f c (la (fa+x)-fa) (lb (fb+y)-fb) (ha.less (by omega)) (hb.less (by omega)) (by omega) (by omega)]
theorem Bh(y:Nat):gN la lb tn P fa fb 0 y=y:=by unfold gN;cases y <;> simp[gF]
theorem CW(x:Nat):gN la lb tn P fa fb x 0=x:=by unfold gN;cases x <;> simp[gF]
theorem CP{x y:Nat}(h:Frs la fa (x+1))(f:Frs lb fb (y+1)):gN la lb tn P fa fb (x+1) (y+1)=min (1+min (gN la lb tn P fa fb x (y+1)) (gN la lb tn P fa fb (x+1) y))
  (if la (fa+x)=fa/\lb (fb+y)=fb then gN la lb tn P fa fb x y+tn (fa+x) (fb+y)else gN la lb tn P fa fb (la (fa+x)-fa) (lb (fb+y)-fb)+P (fa+x) (fb+y)):=by
 have a:=h x (by omega);have b:=f y (by omega);have e:=h.less (Nat.le_succ x);have c:=f.less (Nat.le_succ y);unfold gN;rw[show x+1+(y+1)=(x+y+1)+1 by omega,gF];rw[mO (x+y+1) (x+(y+1)) x (y+1) e f (by omega) (by omega),mO (x+y+1) (x+1+y) (x+1) y h c (by omega) (by omega),mO (x+y+1) (x+y) x y e c (by omega) (by omega),mO (x+y+1) (la (fa+x)-fa+(lb (fb+y)-fb)) _ _ (h.less (by omega)) (f.less (by omega)) (by omega) (by omega)]
theorem uH:∀(n x y:Nat),x+y<=n->Frs la fa x->Frs lb fb y->gN la lb tn P fa fb x y<=x+y
 |n,0,y,_,_,_=>by rw[Bh];omega
 |n,x+1,0,_,_,_=>by rw[CW];omega
 |0,x+1,y+1,h,_,_=>by omega
 |n+1,x+1,y+1,h,ha,hb=>by have h1:=uH n x (y+1) (by omega) (ha.less (by omega)) hb;rw[CP ha hb];omega
end
section
def Rt(la:Nat->Nat)(n:Nat):Prop:=∀i,i<n->la i<=i/\∀k,k<i->la i<=k->la i<=la k
theorem Rt.frs{la:Nat->Nat}{n i:Nat}(h:Rt la n)(hi:i<n):Frs la (la i) (i+1-la i):=λk c=>by obtain⟨a,b⟩:=h i hi;have:=(h (la i+k) (by omega)).1;by_cases e:la i+k=i;rw[e];omega;exact⟨b _ (by omega) (by omega),this⟩
section
variable (la lb : Nat -> Nat) (tn : Nat -> Nat -> Nat)
def oG(P:Nat->Nat->Nat)(c b:Nat):Nat->Nat->Nat:=λi j=>if la i=la c/\lb j=lb b/\i<=c/\j<=b then gN la lb tn P (la c) (lb b) (i+1-la c) (j+1-lb b)else P i j
end
variable {la lb : Nat -> Nat} {tn : Nat -> Nat -> Nat} {n m : Nat}
def rO(la lb:Nat->Nat)(tn:Nat->Nat->Nat)(e:List Nat)(P:Nat->Nat->Nat)(f:List Nat):Nat->Nat->Nat:=f.foldl (λP c=>e.foldl (λP b=>oG la lb tn P c b) P) P
end
end Go.X
end
section
namespace Go.X
open Go Go.Lib
section
def aR(t:List Bt×List Int)(i:Nat):Nat:=(cK t.2 i).toNat
def eR(s t:List Bt×List Int)(i j:Nat):Nat:=if qT s.1 i=qT t.1 j then 0 else 1
theorem o5{t:List Bt×List Int}(h:lG t.2 t.2.length=Ta):Rt (aR t) t.2.length:=λi hi=>by obtain⟨a,b,c⟩:=W5.1 (pv.1 h i hi);refine⟨by unfold aR;omega,λk e f=>?_⟩;have:=c k e (by unfold aR at f;omega);unfold aR;omega
def sS(s t:List Bt×List Int):Nat->Nat->Nat:=rO (aR s) (aR t) (eR s t) (W6 t.2) (λ_ _=>0) (W6 s.2)
theorem BS{la:Nat->Nat}{n:Nat}(h:Rt la n):Frs la 0 n:=λk b=>⟨YT _,by rw[YP];exact(h k b).1⟩
end
end Go.X
end
section
namespace Go.X
section
abbrev io:=List Bt×List Int
abbrev oL:=Int×Int
def nE(p:Nat×Nat):oL:=((p.1:Int),(p.2:Int))
def sG(e:Int)(s t:io):Int×Int:=if(qc s&&qc t)=Ta then((gN (aR s) (aR t) (eR s t) (sS s t) 0 0 s.2.length t.2.length:Nat),0)else(0,e)
theorem TP{t:io}(h:qc t=Ta):t.1.length=t.2.length/\lG t.2 t.2.length=Ta:=by unfold qc at h;simp only[YH,zv]at h;exact⟨h.1.1,h.2⟩
theorem vg{t:io}(h:qc t=Ta){i:Nat}(hi:i<t.2.length):cK t.2 i=((aR t i:Nat):Int):=by have:=(W5.1 (pv.1 (TP h).2 i hi)).1;unfold aR;omega
end
end Go.X
end
section
namespace Go.X
open Go Go.X Go.Proofs Go.Lib
section
variable {us ws:List Tr}
abbrev jN:Ty:=.pair (.int .i64) (.int .i64)
def Yi(s t:io):Nat:=gN (aR s) (aR t) (eR s t) (sS s t) 0 0 s.2.length t.2.length
def dK:io:=([],[])
section
variable (x y : List io)
def AI:List (Nat×Nat):=nG x.length y.length (λi=>(x.getD i dK).1.length) (λj=>(y.getD j dK).1.length) (λi j=>Yi (x.getD i dK) (y.getD j dK)) 0 0
def fR:Nat->Nat->Nat:=jB x.length y.length (λi=>(x.getD i dK).1.length) (λj=>(y.getD j dK).1.length) (λi j=>Yi (x.getD i dK) (y.getD j dK))
end
def kf(us ws:List Tr):Option (List (Nat×Nat)):=match w8 us with
 |none=>Te
 |some x=>match w8 ws with
  |none=>Te
  |some y=>Td (AI x y)
def nc(us ws:List Tr):List oL×Int×Int:=match w8 us with
 |none=>([],0,6)
 |some x=>match w8 ws with
  |none=>([],0,6)
  |some y=>((AI x y).map nE,((fR x y 0 0:Nat):Int),0)
theorem I4{l:List Tr}{x:List io}(h:w8 l=Td x):x.length=l.length:=by unfold w8 at h;split at h;exact nomatch h;rw[<-ZA h,YF]
theorem Qx:∀us ws m,kf us ws=Td m->Rising 0 0 us.length ws.length m:=λus ws m h=>by unfold kf at h;split at h;exact nomatch h;rename_i x c;split at h;exact nomatch h;rename_i y b;rw[<-ZA h,<-I4 c,<-I4 b];exact sM _ _ _
theorem JR{m:List (Nat×Nat)}(h:kf us ws=Td m):∃c,nc us ws=(m.map nE,c,0):=by unfold kf at h;unfold nc;split at h;exact nomatch h;rename_i x e;split at h;exact nomatch h;rename_i y b;rw[<-ZA h];exact⟨_,rfl⟩
theorem R3(h:kf us ws=Te):nc us ws=([],0,6):=by unfold kf at h;unfold nc;split at h;rfl;rename_i x b;split at h;rfl;exact nomatch h
abbrev dR:Nat->List Bt->Tr->Tr->List cR:=jK kf
section
variable {gl : Fr}
section
variable {a b : Tr} {p : List Bt} {D : List Bt -> Tr -> Tr -> List cR}
end
end
end
end Go.X
end
section
namespace Go.X
open Go Go.X Go.Proofs Go.RowKit
section
variable {M:Fr} {h h':zc} {n i b pb m:Nat} {x y:Int} {K:zc -> Prop} {Q:Int -> Prop}
theorem AgM.off{h g:zc}(ag:AgM M h)(f:∀b c,M b=Td c->g[b]?=h[b]?):AgM M g:=λb c e=>by rw[f b c e];exact ag b c e
theorem nt(h:y=x+1)(h0:0<=x)(h1:x<(n:Int)):n-y.toNat<n-x.toNat:=by omega
def km(n:Nat)(f:Nat->Nat):List Value:=(ZN n).map λi=>zax .i64 ((f i:Nat):Int)
theorem pz(n:Nat)(f:Nat->Nat):(km n f).length=n:=by simp[km]
theorem ul{f:Nat->Nat}(h:i<n):(km n f)[i]?=Td (.int .i64 ((f i:Nat):Int)):=by simp[km,h]
theorem NJ{f b:Nat->Nat}(e:∀i,i<n->f i=b i):km n f=km n b:=zbp λi hi=>by rw[e i (ZR.1 hi)]
theorem Rs{f:Nat->Nat}{i x:Nat}:(km n f).set i (.int .i64 ((x:Nat):Int))=km n λj=>if j=i then x else f j:=by apply zab;intro j;rw[List.getElem?_set];by_cases c:j<n;rw[ul c,ul c,pz];by_cases e:i=j;subst e;rw[zb rfl,zb c,zb rfl];rw[za e,za λh=>e h.symm];rw[ZQ (by rw[pz];omega),ZQ (by rw[pz];omega),pz];split;split;rename_i a b;omega;rfl;rfl
def IntB(h:zc)(b n:Nat)(f:Nat->Nat):Prop:=Blk h b (km n f).toArray
theorem IntB.keep{f:Nat->Nat}(H:IntB h b n f)(k:h'[b]?=h[b]?):IntB h' b n f:=Blk.keep H k
theorem IntB.ext{f c:Nat->Nat}(H:IntB h b n f)(e:∀i,i<n->f i=c i):IntB h b n c:=by unfold IntB;rw[<-NJ e];exact H
theorem IntB.cell{f:Nat->Nat}(H:IntB h b n f)(hi:i<n):zd h ⟨b,i,Te⟩=Td (.int .i64 ((f i:Nat):Int)):= Blk.cell H (by rw[<-ZZ];exact ul hi)
theorem IntB.set{f:Nat->Nat}(H:IntB h b n f){i x:Nat}(hi:i<n)(k:∀h',IntB h' b n (λj=>if j=i then x else f j)->h'.size=h.size->(∀j,j≠b->h'[j]?=h[j]?)->K h'):
  XRunU Tp (YG 3 (.pointer (Td ⟨b,i,Te⟩)) (.int .i64 ((x:Nat):Int))) h K:=by
 refine Q5 GB (by kernel_rfl) H (by rw[zcl,pz];exact hi) rfl λg' c m l=>k g' ?_ m l;unfold IntB;rw[<-Rs];have e:(km n f).toArray.setIfInBounds i (.int .i64 ((x:Nat):Int))=((km n f).set i (.int .i64 ((x:Nat):Int))).toArray:=by simp
 rw[e]at c;exact c
theorem VL(n:Nat):za9 n (zax .i64 0)=km n λ_=>0:=by apply zab;intro i;rw[List.getElem?_replicate];by_cases hi:i<n;rw[zb hi,ul hi];rfl;rw[za hi,ZQ (by rw[pz];omega)]
theorem Aw{t:TypeId}(E:ElemT Tp t 3 (.int .i64 0) 1 8)(c:n<=1000000){K:Value->zc->Prop}(b:∀h',h'=h.push (.cells (km n λ_=>0).toArray 3)->IntB h' h.size n (λ_=>0)->Keep h.size h h'->h'.size=h.size+1->K (aK ⟨Td ⟨h.size,0,Te⟩,n,n⟩) h'):
  yp Tp (ZW t (.int .i64 (n:Int)) (.int .i64 (n:Int))) h K:=by
 refine sI E rfl (by omega) c ?_;rw[VL];exact b _ rfl (Blk.new _ _ _) (Keep.push _ _ (XV _)) (XY _)
def Bl(n m:Nat)(B:Nat->Nat):List Value:=(ZN n).map λi=>aK ⟨Td ⟨B i,0,Te⟩,m,m⟩
structure Mat (h:zc) (pb:Nat) (B:Nat->Nat) (n m:Nat) (P:Nat->Nat->Nat):Prop where
 top:Blk h pb (Bl n m B).toArray
 row:∀i,i<n->IntB h (B i) m (P i)
 inj:∀i j,i<n->j<n->B i=B j->i=j
 hb:∀i,i<n->pb<B i
theorem Mat.keep{B:Nat->Nat}{P:Nat->Nat->Nat}(H:Mat h pb B n m P)(b:h'[pb]?=h[pb]?)(k:∀i,i<n->h'[B i]?=h[B i]?):Mat h' pb B n m P:= ⟨H.top.keep b,λi hi=>(H.row i hi).keep (k i hi),H.inj,H.hb⟩
theorem Mat.ext{B:Nat->Nat}{P P':Nat->Nat->Nat}(H:Mat h pb B n m P)(e:∀i j,i<n->j<m->P i j=P' i j):Mat h pb B n m P':= ⟨H.top,λi hi=>(H.row i hi).ext λj b=>e i j hi b,H.inj,H.hb⟩
theorem Mat.at_{B:Nat->Nat}{P:Nat->Nat->Nat}(H:Mat h pb B n m P)(hi:i<n):zd h ⟨pb,i,Te⟩=Td (aK ⟨Td ⟨B i,0,Te⟩,m,m⟩):= H.top.cell (by rw[<-ZZ];simp[Bl,hi])
theorem Mat.set{B:Nat->Nat}{P:Nat->Nat->Nat}(H:Mat h pb B n m P){i j x:Nat}(hi:i<n)(p:j<m)(r:∀h',Mat h' pb B n m (λa b=>if a=i/\b=j then x else P a b)->h'.size=h.size->(∀k,k≠B i->h'[k]?=h[k]?)->K h'):
  XRunU Tp (YG 3 (.pointer (Td ⟨B i,j,Te⟩)) (.int .i64 ((x:Nat):Int))) h K:=by
 refine(H.row i hi).set p λh' h1 l c=>r h' ⟨H.top.keep (c _ (by have:=H.hb i hi;omega)),λa f=>?_,H.inj,H.hb⟩ l c;by_cases e:a=i;subst e;exact h1.ext λb o=>by by_cases e:b=j;rw[zb e,zb ⟨rfl,e⟩];rw[za e,za λh=>e h.2]
 refine((H.row a f).keep (c _ λh=>e (H.inj a i f hi h))).ext λb o=>?_;rw[za λh=>e h.1]
def Cel(h:zc)(lo:Nat)(s:Sl)(x y v:Nat):Prop:=∃(a:Addr) (s2:Sl) (a2:Addr),s.a=Td a/\x<s.len/\zd h (a.add (x*1))=Td (aK s2)/\s2.a=Td a2/\y<s2.len/\zd h (a2.add (y*1))=Td (.int .i64 ((v:Nat):Int))/\a.block<lo/\a2.block<lo
theorem Cel.rd{lo:Nat}{s:Sl}{i j v:Nat}(C:Cel h lo s i j v)(e:x=(i:Int))(b:y=(j:Int))(c:Q ((v:Nat):Int)):
  ∃a:Addr,(s.a=Td a/\0<=x/\x<((s.len:Nat):Int))/\∃s2:Sl,zd h (a.add (x.toNat*1))=Td (aK s2)/\∃a2:Addr,(s2.a=Td a2/\0<=y/\y<((s2.len:Nat):Int))/\∃v:Int,zd h (a2.add (y.toNat*1))=Td (.int .i64 v)/\Q v:=by
 subst e;subst b;obtain⟨a,s2,a2,f,o,k,m,n,l,_,_⟩:=C;exact⟨a,⟨f,by omega,by omega⟩,s2,by rw[XW];exact k,a2,⟨m,by omega,by omega⟩,_,by rw[XW];exact l,c⟩
theorem oT(ag:AgM M h){xs:List Int}{s:Sl}(H:Rd M (.row (.int .i64)) xs [aK s])(f:x=(i:Int))(hi:i<xs.length)(e:Q (cK xs i)):
  ∃a:Addr,(s.a=Td a/\0<=x/\x<((s.len:Nat):Int))/\∃v:Int,zd h (a.add (x.toNat*1))=Td (.int .i64 v)/\Q v:=by
 subst f;obtain⟨b,o,j,c⟩:=vj ag H (k:=i) hi;have l:xs[i]=cK xs i:=by unfold cK;rw[YN,YA hi];rfl
 rw[l]at c;obtain⟨m,_,_⟩:=rowLen H;exact⟨_,⟨j,by omega,by omega⟩,_,by rw[hH,XW];exact c,e⟩
theorem Dm(ag:AgM M h){xs:List Bt}{s:Sl}(H:Rd M (.row .str) xs [aK s])(e:x=(i:Int))(hi:i<xs.length){Q:Bt->Prop}(b:Q (qT xs i)):
  ∃a:Addr,(s.a=Td a/\0<=x/\x<((s.len:Nat):Int))/\∃v:Bt,zd h (a.add (x.toNat*1))=Td (.string v)/\Q v:=by
 have c:xs[i]=qT xs i:=by unfold qT;rw[YN,YA hi];rfl
 rw[<-c]at b;exact l8 ag H hi e rfl b
end
end Go.X
end
section
namespace Go.X
section
theorem Ko(i:Int)(f:Int)(h:zc)(R:Value->zc->Prop) (H:yp Tp (ZW 29 (iV (XS .i64 ((XS .i64 (i+1))*(XS .i64 (f+1))))) (iV (XS .i64 ((XS .i64 (i+1))*(XS .i64 (f+1)))))) h (λb c=>∃d,b=aK d/\let e:=c.push (.cells #[iV (XS .i64 (f+1)),aK d] 371);R (.pointer (Td ⟨c.size,0,Te⟩)) e)):
  XC Tp 381 #[.int .i64 i,.int .i64 f] h R:=
 XF ⟨[],[],[]⟩ [.tmp 4] 15 Tryz.func381 H
theorem WX(g0:Option Addr)(i:Int)(j:Int)(h:zc)(R:Value->zc->Prop) (H:∃b,g0=Td b/\∃c,zd h (XT b 1)=Td (aK c)/\∃d,g0=Td d/\∃e,zd h (XT d 0)=Td (iV e)/\∃f,(c.a=Td f/\0<=(XS .i64 ((XS .i64 ((XS .i64 ((XS .i64 (i+1))*e))+j))+1):Int)/\(XS .i64 ((XS .i64 ((XS .i64 ((XS .i64 (i+1))*e))+j))+1):Int)<(c.len:Int))/\R (.pointer (Td (f.add ((XS .i64 ((XS .i64 ((XS .i64 ((XS .i64 (i+1))*e))+j))+1):Int).toNat*1)))) h):
  XC Tp 351 #[.pointer g0,.int .i64 i,.int .i64 j] h R:=
 XF ⟨[],[],[]⟩ [.tmp 6] 22 Tryz.func351 H
theorem JL(m:Option Addr)(k:Int)(l:Int)(h:zc)(R:Value->zc->Prop) (H:∃b,m=Td b/\∃c,zd h (XT (XT b 0) 0)=Td (aK c)/\∃d,(c.a=Td d/\0<=k/\k<c.len)/\∃e,zd h (d.add (k.toNat*1))=Td (.string e)/\∃f,m=Td f/\∃g,zd h (XT (XT f 2) 0)=Td (aK g)/\∃i,(g.a=Td i/\0<=l/\l<g.len)/\∃j,zd h (i.add (l.toNat*1))=Td (.string j)/\((e.toList==j.toList)=Ta->R (iV 0) h)/\((e.toList==j.toList)=Tc->R (iV 1) h)):
  XC Tp 382 #[.pointer m,.int .i64 k,.int .i64 l] h R:=
 XF ⟨[],[],[]⟩ [.tmp 6] 24 Tryz.func382 H
theorem Xj(r0:Option Addr)(be:Int)(bj:Int)(bg:Int)(bi:Int)(h:zc)(R:Value->zc->Prop) (H:XC Tp 381 #[iV (XS .i64 (bj-be)),iV (XS .i64 (bi-bg))] h (λb c=>∃d:Option Addr,b=.pointer d/\∃(e:Int->zc->Prop) (f:Int->zc->Nat),e be c/\∀g:Int,∀i:zc,e g i->((decide (g<bj)=Ta->XC Tp 351 #[.pointer d,iV (XS .i64 (g-be)),iV (-1)] i (λj k=>∃l:Option Addr,j=.pointer l/\∃m,l=Td m/\XRunU Tp (YG 3 (.pointer (Td m)) (iV (XS .i64 ((XS .i64 (g-be))+1)))) k (λn=>(e (XS .i64 (g+1)) n/\f (XS .i64 (g+1)) n<f g i))))/\(decide (g<bj)=Tc->∃(o:Int->zc->Prop) (p:Int->zc->Nat),o bg i/\∀q:Int,∀r:zc,o q r->((decide (q<bi)=Ta->XC Tp 351 #[.pointer d,iV (-1),iV (XS .i64 (q-bg))] r (λs t=>∃u:Option Addr,s=.pointer u/\∃v,u=Td v/\XRunU Tp (YG 3 (.pointer (Td v)) (iV (XS .i64 ((XS .i64 (q-bg))+1)))) t (λw=>(o (XS .i64 (q+1)) w/\p (XS .i64 (q+1)) w<p q r))))/\(decide (q<bi)=Tc->∃(x:Int->zc->Prop) (y:Int->zc->Nat),x be r/\∀z:Int,∀A:zc,x z A->((decide (z<bj)=Ta->∃(B:Int->zc->Prop) (C:Int->zc->Nat),B bg A/\∀D:Int,∀E:zc,B D E->((decide (D<bi)=Ta->∀F:Int->zc->Prop,(∀G:Int,∀I:zc,(∃J,r0=Td J/\∃L,zd I (XT (XT J 0) 1)=Td (aK L)/\∃M,(L.a=Td M/\0<=z/\z<L.len)/\∃N,zd I (M.add (z.toNat*1))=Td (iV N)/\∃O,r0=Td O/\∃P,zd I (XT (XT O 2) 1)=Td (aK P)/\∃Q,(P.a=Td Q/\0<=D/\D<P.len)/\∃S,zd I (Q.add (D.toNat*1))=Td (iV S)/\∀T:Int->zc->Prop,(∀U:Int,∀V:zc,(XC Tp 351 #[.pointer d,iV (XS .i64 (z-be)),iV (XS .i64 (D-bg))] V (λW X=>∃Y:Option Addr,W=.pointer Y/\∃Z,Y=Td Z/\XRunU Tp (YG 3 (.pointer (Td Z)) (iV U)) X (λaa=>(B (XS .i64 (D+1)) aa/\C (XS .i64 (D+1)) aa<C D E))))->T U V)->((bif (N==be)then(S==bg)else Tc)=Ta->∀ab:Int->zc->Prop,(∀ac:Int,∀ad:zc,(∃ae,r0=Td ae/\∃af,zd ad (XT ae 4)=Td (aK af)/\∃ag,(af.a=Td ag/\0<=z/\z<af.len)/\∃ah,zd ad (ag.add (z.toNat*1))=Td (aK ah)/\∃ai,(ah.a=Td ai/\0<=D/\D<ah.len)/\XRunU Tp (YG 3 (.pointer (Td (ai.add (D.toNat*1)))) (iV ac)) ad (λaj=>T ac aj))->ab ac ad)->let ak:Int->zc->Prop:=λal (am:zc)=>(ab (if al<G then al else G) am);XC Tp 351 #[.pointer d,iV (XS .i64 ((XS .i64 (z-be))-1)),iV (XS .i64 ((XS .i64 (D-bg))-1))] I (λan ao=>∃ap:Option Addr,an=.pointer ap/\∃aq,ap=Td aq/\(∃ar,zd ao aq=Td (iV ar)/\XC Tp 382 #[.pointer r0,iV z,iV D] ao (λau av=>∃aw,au=iV aw/\ak (XS .i64 (ar+aw)) av))/\(XC Tp 382 #[.pointer r0,iV z,iV D] ao (λax ay=>∃az,ax=iV az/\∃aA,zd ay aq=Td (iV aA)/\ak (XS .i64 (aA+az)) ay))))/\((bif (N==be)then(S==bg)else Tc)=Tc->∃aB,r0=Td aB/\∃aC,zd I (XT aB 4)=Td (aK aC)/\∃aD,(aC.a=Td aD/\0<=z/\z<aC.len)/\∃aE,zd I (aD.add (z.toNat*1))=Td (aK aE)/\∃aF,(aE.a=Td aF/\0<=D/\D<aE.len)/\∃aG,zd I (aF.add (D.toNat*1))=Td (iV aG)/\XC Tp 351 #[.pointer d,iV (XS .i64 ((XS .i64 (N-be))-1)),iV (XS .i64 ((XS .i64 (S-bg))-1))] I (λaH aI=>∃aJ:Option Addr,aH=.pointer aJ/\∃aL,aJ=Td aL/\(aI)[((aF.add (D.toNat*1)):Addr).block]?=(I)[((aF.add (D.toNat*1)):Addr).block]?/\(aI)[((aD.add (z.toNat*1)):Addr).block]?=(I)[((aD.add (z.toNat*1)):Addr).block]?/\(aI)[((XT aB 4):Addr).block]?=(I)[((XT aB 4):Addr).block]?/\∃aM,zd aI aL=Td (iV aM)/\(aI)[((aF.add (D.toNat*1)):Addr).block]?=(I)[((aF.add (D.toNat*1)):Addr).block]?/\(aI)[((aD.add (z.toNat*1)):Addr).block]?=(I)[((aD.add (z.toNat*1)):Addr).block]?/\(aI)[((XT aB 4):Addr).block]?=(I)[((XT aB 4):Addr).block]?/\T (if(XS .i64 (aM+aG))<G then XS .i64 (aM+aG)else G) aI)))->F G I)->let aN:Int->Int->zc->Prop:=λaO aP (aQ:zc)=>(F (XS .i64 (1+(if aO<aP then aO else aP))) aQ);let aS:Addr->Int->zc->Prop:=λ(aT:Addr) aU (aV:zc)=>(∃aW,zd aV aT=Td (iV aW)/\aN aW aU aV);XC Tp 351 #[.pointer d,iV (XS .i64 ((XS .i64 (z-be))-1)),iV (XS .i64 (D-bg))] E (λaX aY=>∃aZ:Option Addr,aX=.pointer aZ/\∃a0,aZ=Td a0/\(∃a1,zd aY a0=Td (iV a1)/\XC Tp 351 #[.pointer d,iV (XS .i64 (z-be)),iV (XS .i64 ((XS .i64 (D-bg))-1))] aY (λa2 a3=>∃a4:Option Addr,a2=.pointer a4/\∃a5,a4=Td a5/\aS a5 a1 a3))/\(XC Tp 351 #[.pointer d,iV (XS .i64 (z-be)),iV (XS .i64 ((XS .i64 (D-bg))-1))] aY (λa6 a7=>∃a8:Option Addr,a6=.pointer a8/\∃a9,a8=Td a9/\(∃ba,zd a7 a0=Td (iV ba)/\aS a9 ba a7)/\(∃bb,zd a7 a9=Td (iV bb)/\∃bc,zd a7 a0=Td (iV bc)/\aN bb bc a7)))))/\(decide (D<bi)=Tc->(x (XS .i64 (z+1)) E/\y (XS .i64 (z+1)) E<y z A))))/\(decide (z<bj)=Tc->R (.pointer d) A)))))))):
  XC Tp 350 #[.pointer r0,.int .i64 be,.int .i64 bj,.int .i64 bg,.int .i64 bi] h R:=
 XF ⟨[(20,8000),(22,8000),(17,8000)],[(3,[(12,.one (.int .i64))]),(7,[(13,.one (.int .i64))]),(11,[(14,.one (.int .i64))]),(14,[(15,.one (.int .i64))])],[(18,[(18,.one (.int .i64))]),(23,[(18,.one (.int .i64))]),(21,[(18,.one (.int .i64))])]⟩ [.tmp 10] 175 Tryz.func350 H
theorem XG(b:Sl)(c:Sl)(d:Sl)(e:Sl)(h:zc)(R:Value->zc->Prop) (H:let f:=h.push (.cells #[aK b,aK c] 31);let g:=f.push (.cells #[aK d,aK e] 31);∃i j,zf g ⟨h.size,0,Te⟩ 0 [aK i,aK j]/\XC Tp 21 #[.agg #[aK i,aK j]] g (λk l=>∃m,k=.bool m/\∃n o,((!(!m))=Ta->zf l ⟨f.size,0,Te⟩ 0 [aK n,aK o])/\∃p:Value->zc->Prop,((!(!m))=Ta->XC Tp 21 #[.agg #[aK n,aK o]] l (λq r=>∃s,q=.bool s/\p (.bool s) r))/\((!(!m))=Tc->∃t,p (.bool t) l)/\((!(!m))=Ta->∀u v,p u v->∃w,u=.bool w)/\∀x:Bool,∀y,p (.bool x) y->((bif (!m)then Ta else(!x))=Ta->R (.tuple #[.pointer Te,.bool Tc]) y)/\((bif (!m)then Ta else(!x))=Tc->∃z A,zf y ⟨h.size,0,Te⟩ 0 [aK z,aK A]/\∃B C,zf y ⟨f.size,0,Te⟩ 0 [aK B,aK C]/\∃D,zd y (XT ⟨h.size,0,Te⟩ 0)=Td (aK D)/\(y)[(⟨f.size,0,Te⟩:Addr).block]?=(y)[(⟨f.size,0,Te⟩:Addr).block]?/\(y)[(⟨h.size,0,Te⟩:Addr).block]?=(y)[(⟨h.size,0,Te⟩:Addr).block]?/\yp Tp (ZW 74 (iV (D.len:Int)) (iV (D.len:Int))) y (λE F=>∃G,E=aK G/\(F)[(⟨f.size,0,Te⟩:Addr).block]?=(y)[(⟨f.size,0,Te⟩:Addr).block]?/\(F)[(⟨h.size,0,Te⟩:Addr).block]?=(y)[(⟨h.size,0,Te⟩:Addr).block]?/\let I:=F.push (.cells #[aK z,aK A,aK B,aK C,aK G] 368);∃J:Addr,Td ⟨F.size,0,Te⟩=Td J/\∃L,zd I (XT J 4)=Td (aK L)/\∃(M:Int->zc->Prop) (N:Int->zc->Nat),M 0 I/\∀O:Int,∀P:zc,M O P->((decide (O<L.len)=Ta->∃Q:Addr,Td ⟨F.size,0,Te⟩=Td Q/\∃S,zd P (XT Q 4)=Td (aK S)/\∃T,zd P (XT ⟨f.size,0,Te⟩ 0)=Td (aK T)/\(P)[((XT Q 4):Addr).block]?=(P)[((XT Q 4):Addr).block]?/\yp Tp (ZW 29 (iV (T.len:Int)) (iV (T.len:Int))) P (λU V=>∃W,U=aK W/\∃X,(S.a=Td X/\0<=O/\O<S.len)/\(V)[((XT Q 4):Addr).block]?=(P)[((XT Q 4):Addr).block]?/\XRunU Tp (YG 29 (.pointer (Td (X.add (O.toNat*1)))) (aK W)) V (λY=>(M (XS .i64 (O+1)) Y/\N (XS .i64 (O+1)) Y<N O P))))/\(decide (O<L.len)=Tc->∃Z aa,zf P ⟨h.size,0,Te⟩ 0 [aK Z,aK aa]/\XC Tp 28 #[.agg #[aK Z,aK aa]] P (λab ac=>∃ad,ab=aK ad/\∃(ae:Int->zc->Prop) (af:Int->zc->Nat),ae 0 ac/\∀ag:Int,∀ah:zc,ae ag ah->((decide (ag<ad.len)=Ta->∃ai,(ad.a=Td ai/\0<=ag/\ag<ad.len)/\∃aj,zd ah (ai.add (ag.toNat*1))=Td (iV aj)/\∃ak al,zf ah ⟨f.size,0,Te⟩ 0 [aK ak,aK al]/\XC Tp 28 #[.agg #[aK ak,aK al]] ah (λam an=>∃ao,am=aK ao/\∃(ap:Int->zc->Prop) (aq:Int->zc->Nat),ap 0 an/\∀ar:Int,∀au:zc,ap ar au->((decide (ar<ao.len)=Ta->∃av,(ao.a=Td av/\0<=ar/\ar<ao.len)/\∃aw,zd au (av.add (ar.toNat*1))=Td (iV aw)/\∃ax,zd au (XT ⟨h.size,0,Te⟩ 1)=Td (aK ax)/\∃ay,(ax.a=Td ay/\0<=aj/\aj<ax.len)/\∃az,zd au (ay.add (aj.toNat*1))=Td (iV az)/\∃aA,zd au (XT ⟨f.size,0,Te⟩ 1)=Td (aK aA)/\∃aB,(aA.a=Td aB/\0<=aw/\aw<aA.len)/\∃aC,zd au (aB.add (aw.toNat*1))=Td (iV aC)/\XC Tp 350 #[.pointer (Td ⟨F.size,0,Te⟩),iV az,iV (XS .i64 (aj+1)),iV aC,iV (XS .i64 (aw+1))] au (λaD aE=>∃aF:Option Addr,aD=.pointer aF/\(ap (XS .i64 (ar+1)) aE/\aq (XS .i64 (ar+1)) aE<aq ar au)))/\(decide (ar<ao.len)=Tc->(ae (XS .i64 (ag+1)) au/\af (XS .i64 (ag+1)) au<af ag ah)))))/\(decide (ag<ad.len)=Tc->R (.tuple #[.pointer (Td ⟨F.size,0,Te⟩),.bool Ta]) ah))))))))):
  XC Tp 349 #[.agg #[.slice b.a b.len b.cap,.slice c.a c.len c.cap],.agg #[.slice d.a d.len d.cap,.slice e.a e.len e.cap]] h R:=
 XF ⟨[(3,8000),(7,8000),(15,8000)],[(5,[(33,.one (.int .i64))]),(10,[(50,.one (.int .i64))]),(13,[(57,.one (.int .i64))])],[]⟩ [.tmp 4,.tmp 5] 80 Tryz.func349 H
theorem LB(b:Sl)(c:Sl)(d:Sl)(e:Sl)(h:zc)(R:Value->zc->Prop) (H:let f:=h.push (.cells #[aK b,aK c] 31);let g:=f.push (.cells #[aK d,aK e] 31);∃i j,zf g ⟨h.size,0,Te⟩ 0 [aK i,aK j]/\∃k l,zf g ⟨f.size,0,Te⟩ 0 [aK k,aK l]/\XC Tp 349 #[.agg #[aK i,aK j],.agg #[aK k,aK l]] g (λm n=>∃o:Option Addr,∃p,m=.tuple #[.pointer o,.bool p]/\((!p)=Ta->R (.tuple #[iV 0,iV 1]) n)/\((!p)=Tc->∃q,zd n (XT ⟨h.size,0,Te⟩ 0)=Td (aK q)/\∃r,zd n (XT ⟨f.size,0,Te⟩ 0)=Td (aK r)/\XC Tp 350 #[.pointer o,iV 0,iV (q.len:Int),iV 0,iV (r.len:Int)] n (λs t=>∃u:Option Addr,s=.pointer u/\XC Tp 351 #[.pointer u,iV (XS .i64 ((q.len:Int)-1)),iV (XS .i64 ((r.len:Int)-1))] t (λv w=>∃x:Option Addr,v=.pointer x/\∃y,x=Td y/\∃z,zd w y=Td (iV z)/\R (.tuple #[iV z,iV 0]) w))))):
  XC Tp 296 #[.agg #[.slice b.a b.len b.cap,.slice c.a c.len c.cap],.agg #[.slice d.a d.len d.cap,.slice e.a e.len e.cap]] h R:=
 XF ⟨[],[],[]⟩ [.tmp 4,.tmp 5] 35 Tryz.func296 H
end
end Go.X
end
section
namespace Go.X
open Go Go.X Go.Proofs Go.RowKit
section
variable {x y A:Nat} {h:zc} {K:Value -> zc -> Prop}
theorem QN{W x y c f:Nat}(h1:y<W)(h:f<W)(e:x*W+y=c*W+f):x=c/\y=f:=by
 have a:(x*W+y) / W=x:=by rw[zcm,Nat.mul_add_div (by omega),Nat.div_eq_of_lt h1,zco]
 have b:(c*W+f) / W=c:=by rw[zcm,Nat.mul_add_div (by omega),Nat.div_eq_of_lt h,zco]
 have:x=c:=by rw[<-a,<-b,e]
 subst this;exact⟨rfl,by omega⟩
theorem Nt{W A x y:Nat}(b:x<A)(c:y<W):x*W+y<A*W:=by have:(x+1)*W<=A*W:=ZK _ b;rw[zcz]at this;omega
set_option maxRecDepth 100000 in
theorem Mp{A B:Nat}(hA:A<=900)(n:B<=900) (l:∀g,IntB g h.size ((A+1)*(B+1)) (λ_=>0)->Blk g (h.size+1) #[.int .i64 ((B+1:Nat):Int),aK ⟨Td ⟨h.size,0,Te⟩,(A+1)*(B+1),(A+1)*(B+1)⟩]->Keep h.size h g->g.size=h.size+2->K (.pointer (Td ⟨h.size+1,0,Te⟩)) g):
  XC Tp 381 #[.int .i64 (A:Int),.int .i64 (B:Int)] h K:=by
 apply Ko;have m:(A+1)*(B+1)<=901*901:=zci (by omega) (by omega);have j:XS .i64 ((XS .i64 ((A:Int)+1))*(XS .i64 ((B:Int)+1)))=(((A+1)*(B+1):Nat):Int):=by rw[zu (by omega),zu (by omega),<-Int.natCast_mul,wrap64 (by omega) (by omega)]
 rw[j,zu (by omega:B<9223372036854775807)];refine Aw (nI:ElemT _ _ _ _ 1 8) (by omega) λh1 _ i f k=>⟨_,rfl,?_⟩;intro b;have k2:Keep h1.size h1 b:=Keep.push _ _ (XV _);have e:Blk b h1.size #[.int .i64 ((B+1:Nat):Int),aK ⟨Td ⟨h.size,0,Te⟩,(A+1)*(B+1),(A+1)*(B+1)⟩]:=Blk.new _ _ _;have c:b.size=h1.size+1:=XY _;clear_value b;rw[k]at e c ⊢;exact l b (i.keep (k2.get _ (by omega))) e (f.trans k2 (by omega)) c
set_option maxRecDepth 100000 in
theorem Pr{gb cb W N:Nat}(B:Blk h gb #[.int .i64 (W:Int),aK ⟨Td ⟨cb,0,Te⟩,N,N⟩]){i j:Int}(hi:i=(x:Int)-1)(f:j=(y:Int)-1)(r:x*W+y<N)(p:N<=1000000)(b:x<=100000)(c:W<=100000)
  (l:K (.pointer (Td ⟨cb,x*W+y,Te⟩)) h):XC Tp 351 #[.pointer (Td ⟨gb,0,Te⟩),.int .i64 i,.int .i64 j] h K:=by
 apply WX;have m:x*W<=100000*100000:=zci b c;have e:XS .i64 ((XS .i64 ((XS .i64 ((XS .i64 (i+1))*(W:Int)))+j))+1)=((x*W+y:Nat):Int):=by rw[hi,f,wrap64 (n:=(x:Int)-1+1) (by omega) (by omega),show(x:Int)-1+1=(x:Int)by omega,<-Int.natCast_mul,wrap64 (n:=((x*W:Nat):Int)) (by omega) (by omega),wrap64 (n:=((x*W:Nat):Int)+((y:Int)-1)) (by omega) (by omega),wrap64 (by omega) (by omega)];omega
 refine⟨_,rfl,_,B.cellAdd (o:=0) (k:=1) rfl,_,rfl,_,B.cellAdd (o:=0) (k:=0) rfl,?_⟩;rw[e];refine⟨_,⟨rfl,by omega,by show((x*W+y:Nat):Int)<(N:Int);omega⟩,?_⟩;rw[hH,XW,YP,zac];exact l
structure TwoT (M:Fr) (s t:io) (a1 a2 b1 b2:Sl):Prop where
 sl:Rd M (.row .str) s.1 [aK a1]
 si:Rd M (.row (.int .i64)) s.2 [aK a2]
 tl:Rd M (.row .str) t.1 [aK b1]
 ti:Rd M (.row (.int .i64)) t.2 [aK b2]
 rs:qc s=Ta
 rt:qc t=Ta
set_option maxRecDepth 100000 in
theorem IM{M:Fr}{s t:io}{a1 a2 b1 b2 ps:Sl}{e:Nat}(ag:AgM M h)(T:TwoT M s t a1 a2 b1 b2)(B:Blk h e #[aK a1,aK a2,aK b1,aK b2,aK ps]){i j:Nat}(hi:i<s.1.length)(f:j<t.1.length)
  (b:K (.int .i64 ((eR s t i j:Nat):Int)) h):XC Tp 382 #[.pointer (Td ⟨e,0,Te⟩),.int .i64 (i:Int),.int .i64 (j:Int)] h K:=by
 apply JL;refine⟨_,rfl,a1,B.cellAdd (o:=0) (k:=0) rfl,Dm ag T.sl rfl hi ⟨_,rfl,b1,B.cellAdd (o:=0) (k:=2) rfl,Dm ag T.tl rfl f ?_⟩⟩;unfold eR at b;rw[Ob];refine⟨λc=>?_,λc=>?_⟩;rw[zb (zA c)]at b;exact b;rw[za (zG c)]at b;exact b
end
end Go.X
end
