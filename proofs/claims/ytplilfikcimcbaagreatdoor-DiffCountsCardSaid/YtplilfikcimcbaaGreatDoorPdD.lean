/- A part of the proof: nothing is stated here for its own sake. -/
import Derived.Test.YtplilfikcimcbaaGreatDoorPdC
import Derived.Lib.AppendZerosOnto
import Derived.RangeFuncCalls
open _root_.Go.Addr renaming add->XT
open _root_.Array renaming ext_getElem?->zdf,getD_eq_getD_getElem?->zas,getElem?_append_left->zb0,getElem?_eq_getElem->zae,getElem?_eq_some_iff->YE,getElem?_push->zau,getElem?_setIfInBounds_ne->YV,getElem?_setIfInBounds_self_of_lt->zbf,getElem?_toList->ZZ,replicate->za0,size_push->XY,toList->zcn
open _root_.BitVec renaming ofInt->zaz
open _root_.Bool renaming and_eq_true->YH,and_false->zdl,and_true->zcq,eq_iff_iff->YW,true_and->zal
open _root_.Go.Builtin renaming append_->YO,len_->zb4
open _root_.Go.Code renaming cond->zdn,region->zdq
open _root_.Go.Deferred renaming ofValue->zc7
open _root_.Go.Extern.AbiNoEscape renaming same->zdz
open _root_.False renaming elim->zc0
open _root_.Go.Instr renaming entry->zc3,keyThatStays->zch,lookup->zbe,makeSlice->ZW,mapUpdate->zbc,next->zcg,range->zdg,storeAt->YG
open _root_.Int renaming toNat_natCast->XW
open _root_.Go.IntKind renaming bits->zah,wrap->XS
open _root_.List renaming all_append->zb9,all_cons->zcr,all_eq_false->zc1,all_eq_true->ZH,append_assoc->YS,append_nil->ZO,cons_append->ZU,drop_drop->zcv,drop_eq_getElem_cons->zaf,drop_eq_nil_of_le->zaw,drop_zero->za2,eq_nil_of_length_eq_zero->YU,exists_cons_of_ne_nil->zb1,ext_getElem?->zab,filter_cons->zb3,flatMap_append->zb2,flatMap_cons->za1,getElem?_append_left->zbn,getElem?_append_right->zbg,getElem?_eq_getElem->YA,getElem?_eq_none->ZQ,getElem?_eq_some_iff->ZV,getElem?_map->zap,getElem_append_left->za8,getElem_append_right->zbm,getElem_mem->YI,getElem_of_mem->zca,length->ZM,length_append->XX,length_cons->YL,length_drop->zai,length_eq_zero_iff->zba,length_map->YF,length_nil->zag,length_pos_iff->zav,length_replicate->zbq,length_singleton->ZF,length_take->ZP,map_append->ZT,map_cons->ZE,map_map->ZY,mem_append->YK,mem_append_left->YM,mem_append_right->ZD,mem_cons->YB,mem_cons_of_mem->XZ,mem_cons_self->YJ,mem_flatMap->zcf,mem_iff_getElem->zb7,mem_map->ZI,mem_of_mem_take->zbz,mem_range->ZR,mem_singleton->YY,nil_append->za6,nodup_append->za7,nodup_cons->zaj,nodup_nil->zb6,not_mem_nil->zcx,range->ZN,replicate->za9,take_append_drop->zan,take_length->YR,take_of_length_le->ZS,take_succ_cons->zct,take_succ_eq_append_getElem->YD,take_take->zdj,take_zero->zdm,zip_cons_cons->zbw
open _root_.List.cons renaming injEq->zbs
open _root_.Nat renaming add_mul->za4,add_zero->zco,blt_eq->zbo,eq_of_beq_eq_true->YC,le_of_ble_eq_true->za3,le_of_lt->zdc,le_refl->XV,le_trans->zay,lt_or_ge->ZX,min_eq_left->zck,mul_le_mul->zci,mul_le_mul_right->ZK,mul_one->zac,one_mul->zc5,succ_mul->zcz,zero_add->YP,zero_le->YT,zero_mul->zda
open _root_.Go.Next renaming value->zcp
open _root_.Go.Op renaming bytesLess->zcc
open _root_.Option renaming bind_some->zbj,map_eq_some_iff->zbk,map_some->zds
open _root_.Option.some renaming inj->ZA,injEq->XU
open _root_.Go.Region renaming wanted->za5
open _root_.Go.Proofs.Tryz renaming prog->ZB,underlying5->zdb
open _root_.UInt8 renaming ofNat->zat,toNat_inj->zbi
open _root_.Go.Utf8 renaming decode->zdu
open _root_.Go.Value renaming slice->zdx,string->ZC
open _root_.Go.Value.slice renaming injEq->ZG
set_option linter.unusedVariables false
set_option maxRecDepth 100000
namespace Go.X
end Go.X
namespace Go.Proofs
end Go.Proofs
open Go Go.X Go.Proofs
open _root_.Bool renaming true->Ta,false->Tc
open _root_.Option renaming some->Td,none->Te
section
namespace Go.X
section
variable {h:zc} {e:TypeId} {M:Fr} {K:Value -> zc -> Prop} {cs:Array Value} {k:Nat} {vs:List Value}
theorem pp:ElemT Tp 22 9 (.string ⟨#[]⟩) 1 16:=⟨by kernel_rfl,⟨Tryz.t9,by kernel_rfl,by kernel_rfl,by kernel_rfl,by kernel_rfl⟩,rfl,by omega⟩
theorem D7:ElemT Tp 23 25 (.agg #[.int .i64 0,.string ⟨#[]⟩,.slice Te 0 0,.slice Te 0 0]) 4 72:=⟨by kernel_rfl,⟨Tryz.t25,by kernel_rfl,by kernel_rfl,by kernel_rfl,by kernel_rfl⟩,rfl,by omega⟩
theorem F3{h h':zc}{sz:Nat}(k:Keep (h.size+1) (h.push (.cells #[] e)) h')(base:Nat)(b:base<=h.size):Owns h' base e sz ⟨Td ⟨h.size,0,Te⟩,0,0⟩ []:=by refine⟨by simp,.inr ⟨h.size,0,#[],rfl,b,?_,XV _,YT _,by simp,by simp⟩⟩;show h'[h.size]?=_;rw[k.get _ (by omega)];exact qm _ _
theorem TU(ag:AgM M h){ks:List Bt}{s:Sl}(w:Rd M (.row .str) ks [aK s])(E:ks.length*16<=140737488355328)
  (x:∀(c:Sl) (h':zc),Keep h.size h h'->c.len=ks.length->Owns h' h.size 9 1 c (ks.map ZC)->K (aK c) h'):XC Tp 210 #[aK s] h K:=by
 obtain⟨e,B,z⟩:=rowLen w;obtain⟨s2,f,_,_,cells,C,r⟩:=Rd.rowC ag w;simp only[aK,ZG]at f;have j:s2.a=s.a:=f.1.symm;have:=VJ C;subst this;rw[j]at r;apply Qh s;refine⟨λk=>?_,λk=>?_⟩;have l:ks=[]:=by rcases r with h0|⟨b,o,m,_⟩;simpa using h0;rw[m]at k;cases k
 subst l;exact x ⟨Te,0,0⟩ h (Keep.refl _ _) rfl (Owns.nil _ _ _ _);intro g;have u:Keep h.size h g:=Keep.push _ _ (XV _);have G:g.size=h.size+1:=XY _;have y:Owns g h.size 9 1 ⟨Td ⟨h.size,0,Te⟩,0,0⟩ []:=F3 (Keep.refl _ _) _ (XV _);clear_value g;refine Zs pp y (src:=⟨s.a,s.len,s.cap⟩) (news:=ks.map ZC) (n:=h.size) (r.keep u) (by simp[e]) (by simp[Value.oneCell']) (by simp only;omega) (by simp only;omega) (by omega) λc h' m f A F D=>⟨c,rfl,x c h' ?_ (by simp at m;omega) (by simpa using f)⟩;refine⟨by omega,λi hi=>(A i (by omega) λp t=>?_).trans (u.get i hi)⟩;simp only[XU]at t;subst t;simp only;omega
theorem UH(ag:AgM M h){xs:List Tr}{s:Sl}(z:Rd M (.row .tree) xs [aK s])(G:xs.length*72<=140737488355328)
  (x:∀(c:Sl) (h':zc) (cells:List Value),Keep h.size h h'->c.len=xs.length->Owns h' h.size 25 4 c cells->RowC M .tree xs cells->K (aK c) h'):XC Tp 211 #[aK s] h K:=by
 obtain⟨e,D,B⟩:=rowLen z;obtain⟨s2,j,_,_,cells,k,u⟩:=Rd.rowC ag z;simp only[aK,ZG]at j;have m:s2.a=s.a:=j.1.symm;rw[m]at u;have f:cells.length=xs.length*4:=k.1;apply xh s;refine⟨λr=>?_,λr=>?_⟩;have l:cells=[]:=by rcases u with h0|⟨b,o,t,_⟩;exact h0;rw[t]at r;cases r
 subst l;have:xs.length=0:=by simp at f;omega
 exact x ⟨Te,0,0⟩ h [] (Keep.refl _ _) (by simp[this]) (Owns.nil _ _ _ _) k;intro g;have w:Keep h.size h g:=Keep.push _ _ (XV _);have F:g.size=h.size+1:=XY _;have A:Owns g h.size 25 4 ⟨Td ⟨h.size,0,Te⟩,0,0⟩ []:=F3 (Keep.refl _ _) _ (XV _);clear_value g;refine Zs D7 A (src:=⟨s.a,s.len,s.cap⟩) (news:=cells) (n:=h.size) (u.keep w) (by rw[f,e]) k.one (by simp only;omega) (by simp only;omega) (by omega) λc h' t j C H E=>⟨c,rfl,x c h' cells ?_ (by simp at t;omega) (by simpa using j) k⟩;refine⟨by omega,λi hi=>(C i (by omega) λp y=>?_).trans (w.get i hi)⟩;simp only[XU]at y;subst y;simp only;omega
theorem Owns.blk{base:Nat}{sz:Nat}{s:Sl}{cells:List Value}(H:Owns h base e sz s cells):(s.len=0/\cells=[]/\s.cap=0)\/∃b cs,s.a=Td ⟨b,0,Te⟩/\base<=b/\Blk h b cs/\s.cap*sz<=cs.size/\cut cs 0 (s.len*sz)=cells/\s.len<=s.cap:=by rcases H.2 with⟨c,h0⟩|⟨g,cap,f,c,l,m,i,n,j,k⟩;left;have:=H.1;rw[h0,zda]at this;simp only[ZG]at c;exact⟨h0,YU this,c.2.2⟩;right;simp only[ZG]at c;refine⟨g,f,c.1,l,⟨e,m⟩,?_,by unfold cut;rw[za2];exact k,by rw[c.2.2];exact i⟩;rw[j,c.2.2];exact XV _
theorem Vm{n i k:Nat}(h:i+k<=n):(List.drop i (cut cs 0 n)).take k=cut cs i k:=by unfold cut;rw[za2,List.drop_take,zdj,zck (by omega)]
theorem rW{h:zc}{b:Nat}{cs:Array Value}(H:Blk h b cs):∀{vs:List Value} {o i:Nat},cut cs (o+i) vs.length=vs->zf h ⟨b,o,Te⟩ i vs
 |[],_,_,_=>trivial
 |v::vs,o,i,e=>by
  unfold cut at e;have c:o+i<cs.toList.length:=by rcases ZX (o+i) cs.toList.length with f|f;exact f;rw[zaw f]at e;simp at e
  rw[zaf c,YL,zct]at e;injection e with e1 e2;refine⟨?_,rW H (i:=i+1) e2⟩;refine H.cellAdd ?_;rw[zae (by simpa using c),<-e1];simp
theorem AU:cut vs.toArray 0 vs.length=vs:=by unfold cut;simp
theorem Ig:yc Tp 25=Ta:=by kernel_rfl
theorem Dp:yf Tp 25=4:=by kernel_rfl
theorem Av:yc Tp 22=Ta:=by kernel_rfl
theorem xT:yf Tp 22=1:=by kernel_rfl
theorem JY:yc Tp 23=Ta:=by kernel_rfl
theorem TE:yf Tp 23=1:=by kernel_rfl
def zj(k:Int)(s:Bt)(sk si:Sl):List Value:=[.int .i64 k,.string s,aK sk,aK si]
theorem Em(k:Int)(s:Bt)(sk si:Sl):∀u∈zj k s sk si,u.oneCell'=Ta:=by intro u b;simp[zj]at b;rcases b with rfl|rfl|rfl|rfl <;> simp[Value.oneCell',aK]
theorem DX(k:Int)(s:Bt)(sk si:Sl):(Value.agg #[.int .i64 k,.string s,aK sk,aK si]).cells.toList=zj k s sk si:=rfl
theorem CK(h:cs.size=vs.length):jc cs 0 vs=vs.toArray:=by unfold jc;rw[zdm,za6,YP,<-h];have:cs.toList.drop cs.size=[]:=zaw (by simp);rw[this,ZO]
theorem w5{b:Nat}(H:Blk h b cs)(e:cs.size=4)(k:Int)(s:Bt)(sk si:Sl){K:zc->Prop}
  (i:∀h':zc,Blk h' b (zj k s sk si).toArray->h'.size=h.size->(∀j,j≠b->h'[j]?=h[j]?)->K h'):XRunU Tp (YG 25 (.pointer (Td ⟨b,0,Te⟩)) (.agg #[.int .i64 k,.string s,.slice sk.a sk.len sk.cap,.slice si.a si.len si.cap])) h K:=
 mV (vs:=zj k s sk si) Ig H (DX k s sk si) Dp (by rw[e];exact XV _) (Em k s sk si) λh' c l f=>i h' (by rw[CK (by rw[e];rfl)]at c;exact c) l f
theorem wU{bf:Nat->List Nat}{k x:Nat}:x∈(ZN k).flatMap bf↔∃j,j<k/\x∈bf j:=by simp[zcf]
structure CI (h2 h':zc) (M:Fr) (v:Tr) (b1 b2:Nat) (s1 s2:Sl) (bk bb:List Nat) (b:Nat) (cs:Array Value) (bf:Nat->List Nat) (k:Nat):Prop where
 ag:AgM M h'
 box1:Blk h' b1 (zj v.kind v.text s1 s2).toArray
 box2:∃c2:Array Value,Blk h' b2 c2/\c2.size=4
 keys:OKeys h' v.keys bk s1
 hz:(v.items=[]/\bb=[]/\s2.cap=0)\/(bb=[b]/\s2.a=Td ⟨b,0,Te⟩/\Blk h' b cs/\s2.cap*4<=cs.size)
 did:∀i (hx:i<v.items.length),i<k->OT h' v.items[i] (bf i) (cut cs (i*4) 4)
 todo:∀i (hx:i<v.items.length),k<=i->RdV M .tree v.items[i] (.agg (cut cs (i*4) 4).toArray)
 nd:(bk++(bb++(ZN k).flatMap bf)).Nodup
 big:∀x∈bk++(bb++(ZN k).flatMap bf),h2.size<=x
set_option maxHeartbeats 4000000 in
theorem U7(n:Nat):∀(v:Tr),bR v<=n->Sm v->∀{h:zc} {M:Fr} {u:Value},AgM M h->RdV M .tree v u ->
  XC Tp 151 #[u] h λw h'=>Keep h.size h h'/\∃bs sk si,w=.agg #[.int .i64 v.kind,.string v.text,aK sk,aK si]/\OT h' v bs (zj v.kind v.text sk si)/\∀b∈bs,h.size<=b:=by
 induction n with
 |zero=>intro v hn;have:=Ye v;omega
 |succ n ih=>
 intro v hn hv h M u ag hu;obtain⟨sk,si,rfl,rk,ri⟩:=qn hu;have aV:=hv.items;have aT:=hv.keys;apply NK v.kind v.text sk si;intro h1 t;have kh:Keep h.size h t:=(Keep.push h (.cells (zj v.kind v.text sk si).toArray 25) (XV _)).trans (Keep.push h1 _ (XV _)) (by show h.size<=h1.size;simp[h1]);have s1:h1.size=h.size+1:=XY _;have s2:t.size=h1.size+1:=XY _;have b1:Blk t h.size (zj v.kind v.text sk si).toArray:=by have:Blk h1 h.size (zj v.kind v.text sk si).toArray:=Blk.new _ _ _;exact this.ofKeep (Keep.push _ _ (XV _))
 have b2:Blk t h1.size (zj 0 ⟨#[]⟩ ⟨Te,0,0⟩ ⟨Te,0,0⟩).toArray:=Blk.new _ _ _;clear_value h1 t;have Z:=ag.keep kh;refine⟨sk,b1.cellAdd (o:=0) (k:=2) rfl,si,b1.cellAdd (o:=0) (k:=3) rfl,?_⟩;refine TU Z rk (by omega) λc1 h3 S l3 o3=>⟨c1,rfl,S.get _ (by rw[zh];show h.size<t.size;omega),?_⟩;have aN:=Z.keep S;refine UH aN ri (by omega) λc2 h4 cells k4 l4 o4 rc=>⟨c2,rfl,?_⟩;have am:=(b1.ofKeep S).ofKeep k4;have ae:=(b2.ofKeep S).ofKeep k4;have z3:=S.size;have z4:=k4.size;rw[show XT ⟨h.size,0,Te⟩ 2=⟨h.size,2,Te⟩from zh _ _ _,show XT ⟨h.size,0,Te⟩ 3=⟨h.size,3,Te⟩from zh _ _ _];refine mV (vs:=[aK c1]) Av am rfl xT (by simp[zj]) (by simp[Value.oneCell',aK]) λh5 al z5 f5=>?_;refine mV (vs:=[aK c2]) JY al rfl TE (by simp[zj,jc]) (by simp[Value.oneCell',aK]) λh6 D z6 f6=>?_;have aE:jc (jc (zj v.kind v.text sk si).toArray 2 [aK c1]) 3 [aK c2]=(zj v.kind v.text c1 c2).toArray:=by simp[jc,zj]
 rw[aE]at D;have A:∀j,j≠h.size->h6[j]?=h4[j]?:=λj z=>(f6 j z).trans (f5 j z);refine⟨c2,D.cell (o:=3) rfl,?_⟩;have ar:Keep h.size h h6:=⟨by omega,λi hi=>by rw[A i (by omega),k4.get i (by omega),S.get i (by omega)];exact kh.get i hi⟩;obtain⟨bk,G,ak,au,ai⟩:∃bk,OKeys h6 v.keys bk c1/\bk.Nodup/\(∀x∈bk,t.size<=x)/\(∀x∈bk,x<h3.size):=by rcases Owns.blk o3 with⟨h0,U,Q⟩|⟨b,cs,N,e2,e3,e4,e5,e6⟩;exact⟨[],⟨l3,by omega,by(have:v.keys.length=0:=by omega);omega,.inl ⟨by simpa using U,rfl,Q⟩⟩,zb6,by simp,by simp⟩;refine⟨[b],⟨l3,by omega,by omega,.inr ⟨b,cs,rfl,N,(e3.ofKeep k4).keep (A b (by omega)),by omega,by rw[<-l3];simpa using e5⟩⟩,by simp,by simpa using e2,by simpa using e3.lt⟩
 obtain⟨bb,b,cs,af,p,O,Y,C⟩:∃(bb:List Nat) (b:Nat) (cs:Array Value),v.items.length<=c2.cap/\((v.items=[]/\bb=[]/\c2.cap=0)\/(bb=[b]/\c2.a=Td ⟨b,0,Te⟩/\Blk h6 b cs/\c2.cap*4<=cs.size))/\(∀i,i<v.items.length->cut cs (i*4) 4=(cells.drop (i*4)).take 4)/\bb.Nodup/\∀x∈bb,h3.size<=x:=by
  rcases Owns.blk o4 with⟨h0,U,Q⟩|⟨b,cs,N,e2,e3,e4,e5,e6⟩;have:v.items.length=0:=by omega
  exact⟨[],0,#[],by omega,.inl ⟨YU this,rfl,Q⟩,λi hi=>by omega,zb6,by simp⟩;refine⟨[b],b,cs,by omega,.inr ⟨rfl,N,e3.keep (A b (by omega)),e4⟩,λi hi=>?_,by simp,by simpa using e2⟩;rw[<-e5,Vm (by rw[l4];omega)]
 have aj:CI t h6 M v h.size h1.size c1 c2 bk bb b cs (λ_=>[]) 0:={
  ag:=ag.keep ar,box1:=D,box2:=⟨_,ae.keep (A _ (by omega)),rfl⟩,keys:=G,hz:=p,did:=λi _ hi=>by omega
  todo:=λi f _=>by rw[O i f];have:=rc.2 i f;unfold RdV;simp only[iu,if_true];exact⟨_,rfl,this⟩
  nd:=by simp only[List.range_zero,List.flatMap_nil,ZO];rw[za7];exact⟨ak,Y,λx f y hy e=>by have:=ai x f;have:=C y hy;omega⟩
  big:=by simp only[List.range_zero,List.flatMap_nil,ZO,YK];rintro x (f|f);exact au x f;have:=C x f;omega }
 refine⟨λi h'=>∃(k:Nat) (cs:Array Value) (bf:Nat->List Nat),i=(k:Int)/\k<=v.items.length/\Keep h.size h h'/\t.size<=h'.size/\CI t h' M v h.size h1.size c1 c2 bk bb b cs bf k,λi _=>v.items.length-i.toNat,⟨0,cs,_,rfl,by omega,ar,by omega,aj⟩,?_⟩;clear aj O p G D al am ae A f5 f6 o3 o4 rc;rintro i h7 ⟨k,cs,bf,rfl,hk,k7,z7,I⟩;refine⟨λU=>?_,λU=>?_⟩;have r:k<v.items.length:=by simp at U;omega
 rcases I.hz with⟨h0,_⟩|⟨p,N,hb,aA⟩;rw[h0]at r;simp at r;have O:v.items.length*4<=cs.size:=by omega
 have aO:=I.todo k r (XV _);obtain⟨tk,ti,q,aH,aD⟩:=qn aO;have aa:cut cs (k*4) 4=zj v.items[k].kind v.items[k].text tk ti:=by injection q with q;exact congrArg zcn q
 refine⟨⟨b,0,Te⟩,⟨N,by omega,by omega⟩,v.items[k].kind,v.items[k].text,tk,ti,?_,?_⟩;rw[zh,XW,YP];exact rW hb (vs:=zj v.items[k].kind v.items[k].text tk ti) (o:=k*4) (i:=0) aa;intro h8;have z8:h8.size=h7.size+1:=XY _;have k8:Keep h7.size h7 h8:=Keep.push _ _ (XV _);have b8:Blk h8 h7.size (zj 0 ⟨#[]⟩ ⟨Te,0,0⟩ ⟨Te,0,0⟩).toArray:=Blk.new _ _ _;clear_value h8;refine w5 b8 rfl _ _ _ _ λh9 b9 z9 f9=>?_;have k9:Keep h7.size h7 h9:=⟨by omega,λj z=>by rw[f9 j (by omega)];exact k8.get j z⟩;have box1:=I.box1.ofKeep k9;refine⟨c2,box1.cell (o:=3) rfl,v.items[k].kind,v.items[k].text,tk,ti,rW b9 (vs:=zj v.items[k].kind v.items[k].text tk ti) (o:=0) (i:=0) AU,?_⟩;have hm:v.items[k]∈v.items:=YI r;have aQ:=qp hm;refine(ih v.items[k] (by omega) (hv.item hm) (I.ag.keep k9) (qe aH aD)).mono ?_;rintro w h10 ⟨E,bs,dk,di,rfl,ot,L⟩;refine⟨v.items[k].kind,v.items[k].text,dk,di,rfl,⟨b,0,Te⟩,⟨N,by omega,by omega⟩,E.get _ box1.lt,?_⟩;have ax:=(hb.ofKeep k9).ofKeep E;have aP:=E.size;rw[zh,XW,YP];refine mV (vs:=zj v.items[k].kind v.items[k].text dk di) Ig ax (DX _ _ _ _) Dp (by show k*4+4<=cs.size;omega) (Em _ _ _ _) λaG aC aZ ah=>?_;have an:Keep h7.size h7 h10:=k9.trans E (by omega);have aF:=hb.lt;have V:∀x,x≠b->x<h7.size->aG[x]?=h7[x]?:=λx f hl=>by rw[ah x f];exact an.get x hl
 have az:∀x∈bk++(bb++(ZN k).flatMap bf),t.size<=x:=I.big;have C:t.size<=b:=az b (by rw[p];simp);have ac:=I.nd;rw[za7]at ac;obtain⟨aS,ab,aI⟩:=ac;rw[za7]at ab;obtain⟨aY,aU,aJ⟩:=ab;have B:∀x∈bk++(bb++(ZN k).flatMap bf),x<h7.size:=by intro x f;rw[YK,YK]at f;rcases f with f|f|f;obtain⟨_,_,_,q4⟩:=I.keys;rcases q4 with⟨_,rfl,_⟩|⟨b',cs',rfl,_,e,_⟩;cases f;simp at f;subst f;exact e.lt;rw[p]at f;simp at f;subst f;exact aF;obtain⟨j,z,f⟩:=wU.1 f;exact(I.did j (by omega) z).lt x f
 have G:∀x∈bk,x≠b:=λx f e=>aI x f b (by rw[p];simp) e;have aB:∀j,j<k->∀x∈bf j,x≠b:=λj z x f e=>aJ b (by rw[p];simp) x (wU.2 ⟨j,z,f⟩) e.symm;have ay:∀x∈bs,x≠b:=λx f e=>by have:=L x f;omega
 have H:(ZN (k+1)).flatMap (λj=>if j=k then bs else bf j)=(ZN k).flatMap bf++bs:=by
  rw[List.range_succ,zb2];congr 1;have:∀(l:List Nat),(∀x∈l,x<k)->l.flatMap (λj=>if j=k then bs else bf j)=l.flatMap bf:=by
   intro l;induction l with
   |nil=>intro _;rfl
   |cons a l aM=>intro hl;rw[za1,za1,za (by have:=hl a (by simp);omega),aM λx f=>hl x (by simp[f])]
  exact this _ λx f=>by simpa using f
  simp
 rw[qz r (by omega)];refine⟨⟨k+1,jc cs (k*4) (zj v.items[k].kind v.items[k].text dk di),λj=>if j=k then bs else bf j,rfl,by omega,⟨by omega,λx f=>by rw[V x (by omega) (by omega)];exact k7.get x f⟩,by omega,{
  ag:=λx c e=>?_,box1:=I.box1.keep (V _ (by omega) (by have:=I.box1.lt;omega)),box2:=?_,keys:=I.keys.frame λx f=>V x (G x f) (B x (by simp[f])),hz:=.inr ⟨p,N,aC,by rw[Ii (by show k*4+4<=cs.size;omega)];exact aA⟩,did:=?_,todo:=?_,nd:=?_,big:=?_ }⟩,by simp only[XW];omega⟩
 have f:=ag.lt e;obtain⟨T,m,e'⟩:=I.ag x c e;exact⟨T,m,by rw[V x (by omega) (by omega)];exact e'⟩;obtain⟨q,F,P⟩:=I.box2;exact⟨q,F.keep (V _ (by omega) F.lt),P⟩;intro j z aL;by_cases J:j=k;subst J;simp only[if_true];have:=UO (cs:=cs) (o:=j*4) (vs:=zj v.items[j].kind v.items[j].text dk di) (by show j*4+4<=cs.size;omega);rw[show(zj v.items[j].kind v.items[j].text dk di).length=4 from rfl]at this;rw[this];exact ot.frame λx f=>ah x (ay x f);simp only[J,if_false];rw[IG (by show k*4+4<=cs.size;omega) (by left;omega)];exact(I.did j z (by omega)).frame λx f=>V x (aB j (by omega) x f) (B x (by rw[YK,YK];exact .inr (.inr (wU.2 ⟨j,by omega,f⟩))));intro j z aL;rw[IG (by show k*4+4<=cs.size;omega) (by right;show k*4+4<=j*4;omega)];exact I.todo j z (by omega);rw[H,<-YS,<-YS,za7];refine⟨by rw[YS];exact I.nd,ot.nodup,λx f y hy e=>?_⟩;have h1:=B x (by rw[<-YS];exact f);have t:=L y hy;omega;intro x f;rw[H,<-YS,<-YS,YK]at f;rcases f with f|f;exact I.big x (by rw[<-YS];exact f);have:=L x f;omega;have r:k=v.items.length:=by simp at U;omega
 subst r;refine⟨v.kind,v.text,c1,c2,rW I.box1 (vs:=zj v.kind v.text c1 c2) (o:=0) (i:=0) AU,?_⟩;obtain⟨q,F,P⟩:=I.box2;refine w5 F P _ _ _ _ λh8 b8 z8 f8=>?_;refine⟨v.kind,v.text,c1,c2,rW b8 (vs:=zj v.kind v.text c1 c2) (o:=0) (i:=0) AU,⟨by omega,λx f=>by rw[f8 x (by omega)];exact k7.get x f⟩,_,c1,c2,rfl,?_,λx f=>by have:=I.big x f;omega⟩;have ot:OT h7 (.mk v.kind v.text v.keys v.items) (bk++(bb++(ZN v.items.length).flatMap bf)) (zj v.kind v.text c1 c2):=by exact OT.mk (b:=b) (cs:=cs) I.keys ⟨l4,by omega,af⟩ I.hz (λi f=>I.did i f f) I.nd
 rw[j7]at ot;exact ot.frame λx f=>f8 x (by have:=I.big x f;omega)
end
end Go.X
end
section
namespace Go.X
open Go Go.Lib
section
mutual
def i5:Tr->Nat | .mk _ _ ks xs=>1+ks.length+iO xs
def iO:List Tr->Nat | []=>0|x::l=>i5 x+iO l
end
theorem Nz(v:Tr):i5 v=1+v.keys.length+iO v.items:=by cases v;rw[i5]
theorem JE:∀a b:List Tr,iO (a++b)=iO a+iO b
 |[],b=>by simp[iO]
 |x::l,b=>by rw[ZU,iO,iO,JE l b];omega
theorem S4{l:List Tr}{k:Nat}(b:k<l.length):iO (l.take (k+1))=iO (l.take k)+i5 l[k]:=by rw[YD b,JE];simp[iO]
mutual
theorem HD:∀v:Tr,bR v<=i5 v
 |.mk k s ks xs=>by rw[bR,i5];have:=FQ xs;omega
theorem FQ:∀l:List Tr,Zz l<=iO l
 |[]=>by simp[Zz,iO]
 |x::l=>by rw[Zz,iO];have:=HD x;have:=FQ l;omega
end
mutual
def jA:Tr->Prop | .mk _ s ks xs=>(s.size<=2048/\∀k∈ks,k.size<=1024)/\iT xs
def iT:List Tr->Prop | []=>True|x::l=>jA x/\iT l
end
theorem Tj(v:Tr):jA v↔(v.text.size<=2048/\∀k∈v.keys,k.size<=1024)/\iT v.items:=by cases v;rw[jA]
theorem GD:∀{l:List Tr},iT l↔∀x∈l,jA x
 |[]=>by simp[iT]
 |x::l=>by rw[iT,GD];simp
mutual
theorem FU:∀(v:Tr),i5 v<=1000000->jA v->ka 1048576 v
 |.mk k s ks xs,h,g=>by rw[i5]at h;rw[jA]at g;rw[ka];exact⟨⟨by omega,by omega,λk b=>by have:=g.1.2 k b;omega⟩,E9 xs (by omega) g.2⟩
theorem E9:∀(l:List Tr),iO l<=1000000->iT l->mH 1048576 l
 |[],_,_=>by rw[mH];trivial
 |x::l,h,g=>by rw[iO]at h;rw[iT]at g;rw[mH];exact⟨FU x (by omega) g.1,E9 l (by omega) g.2⟩
end
theorem Sm.few{v:Tr}(h:i5 v<=1000000)(g:jA v):Sm v:=⟨by have:=HD v;omega,FU v h g⟩
structure PS (l:List Bt):Prop where
 n:l.length<=200
 s:∀x∈l,(lb x).length<=1024
def yb(l:List Bt):Bool:=decide (l.length<=64)&&l.all λs=>Zv (lb s)
def me(c:UInt8):Bs:=if c=126 then [126,48]else if c=47 then [126,49]else [c]
def iM(l:Bs):Bs:=l.flatMap me
def ic(l:List Bs):Bs:=l.flatMap λs=>47::iM s
theorem XA(l:Bs):replaceAll (replaceAll l [126] [126,48]) [47] [126,49]=iM l:=by rw[X5 (by simp) (by simp),X5 (by simp) (by simp),sP,sP,List.flatMap_assoc,iM];congr 1;funext x;by_cases h:x=126;subst h;simp[me];by_cases b:x=47;subst b;simp[me];simp[me,h,b]
theorem vZ(l:Bs):(iM l).length<=2*l.length:=by
 induction l with
 |nil=>simp[iM]
 |cons c t b=>
  rw[iM,za1,XX];have:(me c).length<=2:=by by_cases h:c=126;simp[me,h];by_cases e:c=47 <;> simp[me,h,e]
  unfold iM at b;rw[YL];omega
theorem MH:iM []=[]:=rfl
theorem Bv(a b:List Bs):ic (a++b)=ic a++ic b:=by unfold ic;rw[zb2]
theorem XO(x:Bs):ic [x]=47::iM x:=by simp[ic]
theorem Ku(a b:Bs):iM (a++b)=iM a++iM b:=by unfold iM;rw[zb2]
end
end Go.X
end
section
namespace Go.X
section
variable {gl:Fr} {R:Tr -> Prop} {l:List Tr}
theorem Cw{gl:Fr}(v:Tr)(l d:Int)(A:0<=l/\l<=1000)(x:0<=d/\d<=61){R:Int->Prop}(h:∀r,-1000000000000000<=r->r<=l->(0<=r->r+i5 v<=l)->R r):PC Tp gl 53 [Arg.mk .tree v,Arg.mk (.int .i64) l,Arg.mk (.int .i64) d] [.int .i64] R:=by
 refine PC.bd λf=>?_;have y:v.keys.length<=140737488355328/\v.items.length<=140737488355328:=f ⟨.tree,v⟩ (by simp);apply SB;refine⟨λm=>h _ (by omega) (by omega) (by omega),λm=>?_⟩;have w:d<=60:=by simp at m;omega
 rw[eK (n:=l-1) (by omega),eK (by omega)];refine⟨λc i=>∃k:Nat,i=k/\k<=v.items.length/\-1000000000000000<=c/\c<=l/\(0<=c->c+(1+v.keys.length+iO (v.items.take k))<=l),λc i=>v.items.length-i.toNat,⟨0,rfl,by omega,by omega,by omega,λ_=>by simp[iO];omega⟩,?_⟩;rintro c i ⟨k,rfl,z,h1,t,j⟩;refine⟨λe=>?_,λe=>h c h1 t λh0=>?_⟩;have b:k<v.items.length/\0<=c:=by simp at e;omega
 refine⟨v.items[k],⟨by omega,X9 b.1⟩,?_⟩;rw[j7,eK (by omega)];have o:=qp (YI b.1);refine Cw v.items[k] c (d+1) ⟨b.2,by omega⟩ (by omega) λr u B p=>?_;rw[qz b.1 (by omega)];refine⟨⟨k+1,rfl,by omega,u,by omega,λh0=>?_⟩,by simp only[XW];omega⟩;have:=p h0;have:=j b.2;rw[S4 b.1];omega;have b:k=v.items.length:=by simp at e;omega
 subst b;have:=j h0;rw[YR]at this;rw[Nz];omega
termination_by bR v
theorem EB{gl:Fr}(v:Tr){R:Bool->Prop}(h:∀b,(b=Ta->jA v)->R b):PC Tp gl 54 [Arg.mk .tree v] [.bool] R:=by
 refine PC.bd λt=>?_;have u:v.keys.length<=140737488355328/\v.items.length<=140737488355328:=t ⟨.tree,v⟩ (by simp);apply Rc;refine⟨λc=>h _ (λe=>by cases e),λc=>?_⟩;have m:v.text.size<=2048:=by simp at c;omega
 refine⟨λi=>∃k:Nat,i=k/\k<=v.keys.length/\∀x∈v.keys.take k,x.size<=1024,λi=>v.keys.length-i.toNat,⟨0,rfl,by omega,by simp⟩,?_⟩;rintro i ⟨k,rfl,y,h1⟩;refine⟨λr=>?_,λr=>?_⟩;have j:k<v.keys.length:=by simp at r;omega
 refine⟨v.keys[k],⟨by omega,kX j⟩,λ_=>h _ (λe=>by cases e),λp=>?_⟩;have o:v.keys[k].size<=1024:=by simp at p;omega
 rw[qz j (by omega)];refine⟨⟨k+1,rfl,by omega,?_⟩,by simp only[XW];omega⟩;rw[YD j];intro x c;rcases YK.1 c with c|c;exact h1 x c;simp at c;subst c;exact o;have j:k=v.keys.length:=by simp at r;omega
 subst j;rw[YR]at h1;refine⟨λi=>∃k:Nat,i=k/\k<=v.items.length/\∀x∈v.items.take k,jA x,λi=>v.items.length-i.toNat,⟨0,rfl,by omega,by simp⟩,?_⟩;rintro i ⟨k,rfl,y,n⟩;refine⟨λl=>?_,λl=>h _ λ_=>?_⟩;have f:k<v.items.length:=by simp at l;omega
 refine⟨v.items[k],⟨by omega,X9 f⟩,?_⟩;rw[j7];have w:=qp (YI f);refine EB v.items[k] λb u=>⟨λ_=>h _ (λe=>by cases e),λp=>?_⟩;rw[qz f (by omega)];refine⟨⟨k+1,rfl,by omega,?_⟩,by simp only[XW];omega⟩;rw[YD f];intro x c;rcases YK.1 c with c|c;exact n x c;simp at c;subst c;exact u (by simpa using p);have f:k=v.items.length:=by simp at l;omega
 subst f;rw[YR]at n;exact(Tj v).2 ⟨⟨m,h1⟩,GD.2 n⟩
termination_by bR v
theorem yD{v:Tr}{m:Int}(f:0<=m/\m<=1000){R:Bool->Prop}(h:∀b,(b=Ta->i5 v<=m/\Sm v)->R b):PC Tp gl 12 [Arg.mk .tree v,Arg.mk (.int .i64) m] [.bool] R:=by
 apply Vv;rw[j7];refine Cw v m 0 f (by omega) λr h1 j i=>⟨λb=>b=Ta->jA v,λ_=>EB v λb c=>c,λb c=>h _ λe=>?_⟩;cases hr:decide (r>=0)with
 |false=>rw[hr]at e;cases e
 |true=>
  rw[hr,zI]at e;have h0:0<=r:=by simp at hr;omega
  have:=i h0;exact⟨by omega,Sm.few (by omega) (c hr e)⟩
theorem DF{l:List Bt}{R:Bool->Prop}(h:∀b,(b=Ta->PS l)->R b):PC Tp gl 67 [Arg.mk (.row .str) l] [.bool] R:=by
 apply VN;refine⟨λi=>∃k:Nat,i=k/\k<=l.length/\k<=300/\∀x∈l.take k,x.size<=1024,λi=>l.length-i.toNat,⟨0,rfl,by omega,by omega,by simp⟩,?_⟩;rintro i ⟨k,rfl,r,n,h1⟩;refine⟨λm=>?_,λm=>h _ λe=>?_⟩;have c:k<l.length/\k<300:=by simp at m;omega
 refine⟨l[k],⟨by omega,kX c.1⟩,λ_=>h _ (λe=>by cases e),λo=>?_⟩;have j:l[k].size<=1024:=by simp at o;omega
 rw[eK (by omega)];refine⟨⟨k+1,by omega,by omega,by omega,?_⟩,by have:=c.1;simp only[XW];omega⟩;rw[YD c.1];intro x f;rcases YK.1 f with f|f;exact h1 x f;simp at f;subst f;exact j;have p:l.length<=200:=by simp at e;omega
 have c:k=l.length:=by simp at m;omega
 subst c;rw[YR]at h1;exact⟨p,λx f=>by rw[Yv];exact h1 x f⟩
theorem TA(h:R (.mk 5 ⟨#[]⟩ [] l)):PC Tp gl 52 [Arg.mk (.row .tree) l] [.tree] R:=by apply Nl;exact h
theorem Pj{ks:List Bt}(h:R (.mk 6 ⟨#[]⟩ ks l)):PC Tp gl 47 [Arg.mk (.row .str) ks,Arg.mk (.row .tree) l] [.tree] R:=by apply Ns;exact h
theorem ET(b:GL gl){n:Int}(h1:-1000000<=n)(c:n<=1000000)(h:R (.mk 3 (bl (Zn (qg (Lib.itoa n)).1)) [] [])):PC Tp gl 51 [Arg.mk (.int .i64) n] [.tree] R:=by apply Un;refine U5 b.pow (by omega) (by omega) ?_;exact Hq b.pow (Z8 _ (by have:=Go.X.itoa_len n;omega)) h
end
end Go.X
end
section
namespace Go.X
open Go Go.Lib
section
variable {α:Type}
structure IsCmp {α:Type} (c:α->α->Int):Prop where
 rng:∀a b,c a b=-1\/c a b=0\/c a b=1
 eq0:∀a b,c a b=0↔a=b
 swap:∀a b,c b a=-c a b
 tr:∀a b d,c a b<=0->c b d<=0->c a d<=0
def iC{α:Type}(c:α->α->Int):List α->List α->Int
 |[],[]=>0
 |[],_::_=>-1
 |_::_,[]=>1
 |a::l,b::m=>if c a b=0 then iC c l m else c a b
theorem Gj{c:α->α->Int}(H:IsCmp c):IsCmp (iC c) where
 rng:=by
  intro a;induction a with
  |nil=>intro b;cases b <;> simp[iC]
  |cons x a ih=>
   intro b;cases b with
   |nil=>simp[iC]
   |cons y b=>rw[iC];by_cases h:c x y=0;rw[zb h];exact ih b;rw[za h];exact H.rng x y
 eq0:=by
  intro a;induction a with
  |nil=>intro b;cases b <;> simp[iC]
  |cons x a ih=>
   intro b;cases b with
   |nil=>simp[iC]
   |cons y b=>rw[iC,zbs,<-H.eq0 x y];by_cases h:c x y=0;rw[zb h];simp[h,ih];rw[za h];simp[h]
 swap:=by
  intro a;induction a with
  |nil=>intro b;cases b <;> simp[iC]
  |cons x a ih=>
   intro b;cases b with
   |nil=>simp[iC]
   |cons y b=>rw[iC,iC,H.swap x y];by_cases h:c x y=0;rw[zb h,zb (by omega)];exact ih b;rw[za h,za (by omega)]
 tr:=by
  intro a;induction a with
  |nil=>intro b d h1 h2;cases d <;> simp[iC]
  |cons x a ih=>
   intro b d h1 h2;cases b with
   |nil=>simp[iC]at h1
   |cons y b=>
    cases d with
    |nil=>simp[iC]at h2
    |cons z d=>rw[iC]at h1 h2 ⊢;by_cases hxy:c x y=0;have:=(H.eq0 x y).1 hxy;subst this;rw[zb hxy]at h1;by_cases hyz:c x z=0;rw[zb hyz]at h2 ⊢;exact ih b d h1 h2;rw[za hyz]at h2 ⊢;exact h2;rw[za hxy]at h1;by_cases hyz:c y z=0;have:=(H.eq0 y z).1 hyz;subst this;rw[za hxy];exact h1;rw[za hyz]at h2;have h3:=H.tr x y z h1 h2;by_cases hxz:c x z=0;have:=(H.eq0 x z).1 hxz;subst this;have:=H.swap x y;omega;rw[za hxz];exact h3
theorem KT{c:α->α->Int}(H:IsCmp c)(p x y:List α):iC c (p++x) (p++y)=iC c x y:=by
 induction p with
 |nil=>rfl
 |cons a p b=>rw[ZU,ZU,iC,zb ((H.eq0 a a).2 rfl),b]
def lY(a b:UInt8):Int:=if a.toNat<b.toNat then -1 else if a.toNat=b.toNat then 0 else 1
theorem cmpU_is:IsCmp lY where
 rng:=λa b=>by unfold lY;by_cases h:a.toNat<b.toNat;rw[zb h];simp;rw[za h];by_cases h2:a.toNat=b.toNat;rw[zb h2];simp;rw[za h2];simp
 eq0:=λa b=>by unfold lY;rw[<-zbi];by_cases h:a.toNat<b.toNat;rw[zb h];omega;rw[za h];by_cases h2:a.toNat=b.toNat;rw[zb h2];omega;rw[za h2];omega
 swap:=λa b=>by unfold lY;by_cases h:a.toNat<b.toNat;rw[za (by omega),za (by omega),zb h];rfl;by_cases h2:b.toNat<a.toNat;rw[zb h2,za h,za (by omega)];rw[za h2,zb (by omega),za h,zb (by omega)];rfl
 tr:=λa b d=>by unfold lY;intro h1 h2;by_cases h:a.toNat<d.toNat;rw[zb h];omega;rw[za h];by_cases h':a.toNat=d.toNat;rw[zb h'];omega;exfalso;by_cases g:a.toNat<b.toNat;rw[za (show¬b.toNat<d.toNat by omega),za (by omega)]at h2;omega;rw[za g]at h1;by_cases g2:a.toNat=b.toNat;rw[za (show¬b.toNat<d.toNat by omega),za (by omega)]at h2;omega;rw[za g2]at h1;omega
def jn:Bs->Bs->Int:=iC lY
theorem cmpS_is:IsCmp jn:=Gj cmpU_is
theorem EJ:∀a b:Bs,zcc a b=decide (jn a b=-1)
 |[],[]=>by simp[zcc,jn,iC]
 |[],_::_=>by simp[zcc,jn,iC]
 |_::_,[]=>by simp[zcc,jn,iC]
 |a::l,b::m=>by
  have f:=EJ l m;unfold jn at f ⊢;rw[iC,zcc,f];by_cases h:a<b;have:lY a b=-1:=by unfold lY;rw[zb (UInt8.lt_iff_toNat_lt.1 h)]
  simp[h,this];by_cases c:a=b;subst c;simp[(cmpU_is.eq0 a a).2 rfl,h];have:lY a b=1:=by unfold lY;rw[za (λe=>h (UInt8.lt_iff_toNat_lt.2 e)),za (λe=>c (zbi.1 e))]
  simp[h,c,this]
def cmpL:List Bs->List Bs->Int:=iC jn
theorem cmpL_is:IsCmp cmpL:=Gj cmpS_is
theorem KS{a b:List Bs}{k:Nat}(h:a.take k=b.take k):cmpL a b=cmpL (a.drop k) (b.drop k):=by have:=KT cmpS_is (a.take k) (a.drop k) (b.drop k);rw[zan,h,zan]at this;exact this
end
end Go.X
end
section
namespace Go.X
section
variable {l a b:List Bt} {k:Nat} {gl:Fr} {R:Bool -> Prop}
structure SL (l:List Bt):Prop where
 n:l.length<=1000000
 s:∀x∈l,(lb x).length<=1048576
theorem PS.sl(h:PS l):SL l:=⟨by have:=h.n;omega,λx b=>by have:=h.s x b;omega⟩
theorem yN{α:Type}{p:α->Bool}{l:List α}(b:k<l.length):(l.take (k+1)).all p=((l.take k).all p&&p l[k]):=by rw[YD b,zb9,zcr,List.all_nil,zcq]
theorem xJ(m:SL l)(h:R (yb l)):PC Tp gl 129 [Arg.mk (.row .str) l] [.bool] R:=by
 have u:=m.n;apply Up;refine⟨λi=>∃k:Nat,i=k/\k<=l.length/\(l.take k).all (λs=>Zv (lb s))=Ta,λi=>l.length-i.toNat,⟨0,rfl,by omega,by simp⟩,?_⟩;rintro i ⟨k,rfl,t,c⟩;refine⟨λf=>?_,λf=>?_⟩;have b:k<l.length:=by simp at f;omega
 refine⟨l[k],⟨by omega,kX b⟩,?_⟩;have j:=YI b;have p:=A6 (gl:=gl) (l:=lb l[k]) (R:=λr=>r.2=Zv (lb l[k])) (by have:=m.s _ j;omega) (λ_=>rfl);rw[Qj]at p;refine p.mono λr o=>⟨λe=>?_,λe=>?_⟩;have:yb l=Tc:=by
  unfold yb;have:l.all (λs=>Zv (lb s))=Tc:=by rw[zc1];exact⟨_,j,by rw[<-o];simpa using e⟩
  rw[this,zdl]
 rw[this]at h;exact h;rw[qz b (by omega)];refine⟨⟨k+1,rfl,by omega,?_⟩,by simp only[XW];omega⟩;rw[yN b,c,<-o];simpa using e;have b:k=l.length:=by simp at f;omega
 subst b;rw[YR]at c;unfold yb at h;rw[c,zcq]at h;have:decide ((l.length:Int)<=64)=decide (l.length<=64):=by rw[YW,zv,zv];omega
 rw[this];exact h
theorem tJ(s t:Bt):zcc s.toList t.toList=decide (jn (lb s) (lb t)=-1):=by rw[Z7,Z7,EJ]
theorem IE(s t:Bt):(s.toList==t.toList)=decide (jn (lb s) (lb t)=0):=by rw[Z7,Z7,YW,beq_iff_eq,zv,cmpS_is.eq0]
def lS(a b:List Bt):Int:=cmpL (a.map lb) (b.map lb)
theorem FR(h:a.take k=b.take k):lS a b=lS (a.drop k) (b.drop k):=by unfold lS;rw[KS (k:=k),List.map_drop,List.map_drop];rw[<-List.map_take,<-List.map_take,h]
theorem Oe(x y:Bt)(a b:List Bt):lS (x::a) (y::b)=if jn (lb x) (lb y)=0 then lS a b else jn (lb x) (lb y):=rfl
theorem Og(h : a.take k = b.take k)(hk : k = a.length \/ k = b.length): lS a b = if a.length < b.length then -1 else if b.length < a.length then 1 else 0 := by
  have hl := congrArg ZM h;simp only [ZP] at hl;rw [FR h];rcases hk with rfl | rfl;rw [List.drop_length];cases hd : b.drop a.length with
  | nil => have := List.drop_eq_nil_iff.1 hd; (rw [za (by omega), za (by omega)]; rfl)
  | cons y t => have : a.length < b.length := by
                  rcases ZX a.length b.length with q | q;exact q;rw [zaw q] at hd; cases hd
                rw [zb this]; rfl
  rw [List.drop_length];cases hd : a.drop b.length with
  | nil => have := List.drop_eq_nil_iff.1 hd; (rw [za (by omega), za (by omega)]; rfl)
  | cons y t => have : b.length < a.length := by
                  rcases ZX b.length a.length with q | q;exact q;rw [zaw q] at hd; cases hd
                rw [za (by omega), zb this]; rfl
theorem N1(h:a.take k=b.take k)(e:k<a.length)(f:k<b.length)(c:jn (lb a[k]) (lb b[k])≠0):lS a b=jn (lb a[k]) (lb b[k]):=by rw[FR h,zaf e,zaf f,Oe,za c]
theorem NX(h:a.take k=b.take k)(c:k<a.length)(f:k<b.length)(e:jn (lb a[k]) (lb b[k])=0):a.take (k+1)=b.take (k+1):=by rw[YD c,YD f,h,nK.1 ((cmpS_is.eq0 _ _).1 e)]
theorem XN(w:a.length<=1000000){R:Int->Prop}(h:R (lS a b)):PC Tp gl 74 [Arg.mk (.row .str) a,Arg.mk (.row .str) b] [.int .i64] R:=by
 apply X3;refine⟨λi=>∃k:Nat,i=k/\k<=a.length/\k<=b.length/\a.take k=b.take k,λi=>a.length-i.toNat,⟨0,rfl,by omega,by omega,by simp⟩,?_⟩;rintro i ⟨k,rfl,y,u,m⟩;refine⟨λl=>?_,λl=>?_⟩;have c:k<a.length/\k<b.length:=by simp at l;omega
 have p:=kX c.1;have r:=kX c.2;have o:=N1 m c.1 c.2;have x:=cmpS_is.rng (lb a[k]) (lb b[k]);refine⟨a[k],⟨by omega,p⟩,b[k],⟨by omega,r⟩,λj=>?_,λj=>⟨a[k],⟨by omega,p⟩,b[k],⟨by omega,r⟩,λe=>?_,λe=>?_⟩⟩;rw[tJ]at j;have f:jn (lb a[k]) (lb b[k])=-1:=by simpa using j
 rw[o (by omega),f]at h;exact h;rw[tJ,IE]at e;have f:jn (lb a[k]) (lb b[k])=1:=by simp at e;omega
 rw[o (by omega),f]at h;exact h;rw[tJ]at j;rw[tJ,IE]at e;have f:jn (lb a[k]) (lb b[k])=0:=by simp at j e;omega
 have n:=qz c.1 (by omega);rw[n];exact⟨⟨k+1,rfl,by omega,by omega,NX m c.1 c.2 f⟩,by have:=c.1;simp only[XW];omega⟩;have c:k=a.length\/k=b.length:=by simp at l;by_cases j:k<a.length;right;have:=l j;omega;left;omega
 rw[Og m c]at h;refine⟨λj=>?_,λj=>⟨λe=>?_,λe=>?_⟩⟩;have:a.length<b.length:=by simp at j;omega
 rw[zb this]at h;exact h;have:b.length<a.length:=by simp at e;omega
 rw[za (by omega),zb this]at h;exact h;have h1:¬a.length<b.length:=by simp at j;omega
 have t:¬b.length<a.length:=by simp at e;omega
 rw[za h1,za t]at h;exact h
theorem Mv(a b:List Bt):lS a b=0↔a=b:=by unfold lS;rw[cmpL_is.eq0];constructor;intro h;have:=congrArg (List.map bl) h;rw[ZY,ZY]at this;have e:(bl ∘ lb)=(id:Bt->Bt):=funext λx=>Qj x;rw[e,List.map_id,List.map_id]at this;exact this;rintro rfl;rfl
theorem JA(c:a.length<=1000000)(h:∀r,(r=Ta↔a=b)->R r):PC Tp gl 40 [Arg.mk (.row .str) a,Arg.mk (.row .str) b] [.bool] R:=by apply SA;refine XN c (h _ ?_);rw[<-Mv];simp
end
section
def iL(l:Bs):List Int:=l.map λc=>(c.toNat:Int)
theorem zU(a b:Bs):iL (a++b)=iL a++iL b:=ZT
theorem Da(l:Bs):mX (iL l)=bl l:=by
 have key:∀(l:Bs) (r:Bt),(iL l).foldl (λr n=>r.push (zat n.toNat)) r=bl (lb r++l):=by
  intro l;induction l with
  |nil=>intro r;simp[iL,Qj]
  |cons c t b=>
   intro r;show(iL t).foldl _ (r.push (zat ((c.toNat:Int)).toNat))=_;rw[b];have:lb (r.push (zat ((c.toNat:Int)).toNat))=lb r++[c]:=by cases r;simp[lb,ByteArray.push]
   rw[this,YS];rfl
 unfold mX;rw[key];rfl
theorem vR{l:List Bs}{m:Nat}(h:∀x∈l,x.length<=m):(ic l).length<=l.length*(2*m+1):=by
 induction l with
 |nil=>simp[ic]
 |cons x l b=>rw[show x::l=[x]++l from rfl,Bv,XO,XX,YL,XX,ZF,za4,zc5];have h1:=b λy c=>h y (by simp[c]);have e:=vZ x;have f:=h x (by simp);omega
set_option maxHeartbeats 1000000 in
theorem GN{gl:Fr}{l:List Bt}(A:SL l){R:Bt×Int->Prop}(h1:yb l=Ta->R (bl (ic (l.map lb)),0))(F:yb l=Tc->R (bl [],1)):PC Tp gl 76 [Arg.mk (.row .str) l] [.str,.int .i64] R:=by
 apply Li;refine xJ A ⟨λo=>F (by simpa using o),λo=>?_⟩;have t:yb l=Ta:=by simpa using o
 have Q:l.length<=64:=by unfold yb at t;simp at t;exact t.1
 have E:∀k,(ic ((l.take k).map lb)).length<=200000000:=by
  intro k;have:=vR (l:=(l.take k).map lb) (m:=1048576) λx o=>by obtain⟨y,G,rfl⟩:=ZI.1 o;exact A.s y (zbz G)
  have e:((l.take k).map lb).length<=64:=by rw[YF,ZP];omega
  have:((l.take k).map lb).length*(2*1048576+1)<=64*(2*1048576+1):=ZK _ e;omega
 refine⟨λout i=>∃k:Nat,i=k/\k<=l.length/\out=iL (ic ((l.take k).map lb)),λ_ i=>l.length-i.toNat,⟨0,rfl,by omega,by simp[ic,iL]⟩,?_⟩;rintro out i ⟨k,rfl,O,rfl⟩;refine⟨λB=>?_,λB=>?_⟩;have b:k<l.length:=by simp at B;omega
 have P:=E k;have H:=A.s _ (YI b);refine⟨by simp only[iL,YF,ZF];omega,?_⟩;refine⟨λout i=>∃j:Nat,i=j/\j<=(lb l[k]).length/\out=iL (ic ((l.take k).map lb)++47::iM ((lb l[k]).take j)),λ_ i=>(lb l[k]).length-i.toNat,⟨0,rfl,by omega,by simp[iL,MH]⟩,?_⟩;rintro out i ⟨j,rfl,J,rfl⟩;refine⟨l[k],⟨by omega,kX b⟩,λp=>?_,λp=>?_⟩;have f:j<(lb l[k]).length:=by rw[Yv];simpa using p
 have I:=vZ ((lb l[k]).take j);have D:((lb l[k]).take j).length=j:=by rw[ZP];omega
 have C:(iL (ic ((l.take k).map lb)++47::iM ((lb l[k]).take j))).length<=300000000:=by unfold iL;rw[YF,XX,YL];omega
 have w:ze l[k] ((j:Int)).toNat=((lb l[k])[j].toNat:Int):=by rw[tD,XW,mJ f]
 have c:∀(e:Bs),e=me (lb l[k])[j]->iL (ic ((l.take k).map lb)++47::iM ((lb l[k]).take j))++iL e=iL (ic ((l.take k).map lb)++47::iM ((lb l[k]).take (j+1))):=by rintro e rfl;rw[<-zU,YS,ZU,YD f,Ku];simp[iM]
 have z:=qz f (by omega);have n:(lb l[k]).length-((j+1:Nat):Int).toNat<(lb l[k]).length-((j:Int)).toNat:=by simp only[XW];omega
 refine⟨l[k],⟨by omega,kX b⟩,⟨by omega,by simpa using p⟩,?_⟩;rw[w,z];generalize hL:iL (ic ((l.take k).map lb)++47::iM ((lb l[k]).take j))=L at *;refine⟨λr=>⟨by simp[yg];omega,⟨j+1,rfl,by omega,?_⟩,n⟩,λr=>⟨λh=>⟨by simp[yg];omega,⟨j+1,rfl,by omega,?_⟩,n⟩,λh=>⟨by simp;omega,⟨j+1,rfl,by omega,?_⟩,n⟩⟩⟩;have u:(lb l[k])[j]=126:=zbi.1 (by have:=eq_of_beq r;have e:(126:UInt8).toNat=126:=rfl;omega);exact c [126,48] (by rw[u];rfl);have u:(lb l[k])[j]=47:=zbi.1 (by have:=eq_of_beq h;have e:(47:UInt8).toNat=47:=rfl;omega);exact c [126,49] (by rw[u];rfl);have M:(lb l[k])[j]≠126:=λe=>by rw[e]at r;exact absurd r (by decide)
 have N:(lb l[k])[j]≠47:=λe=>by rw[e]at h;exact absurd h (by decide)
 exact c [(lb l[k])[j]] (by unfold me;rw[za M,za N]);have f:j=(lb l[k]).length:=by rw[Yv]at J ⊢;simp at p;omega
 subst f;rw[YR];have z:=qz b (by omega);rw[z];refine⟨⟨k+1,rfl,by omega,?_⟩,by simp only[XW];omega⟩;rw[YD b,ZT,Bv];simp[ic];have b:k=l.length:=by simp at B;omega
 subst b;rw[YR,Da];exact h1 t
end
end Go.X
end
section
namespace Go.X
open Go Go.Proofs Go.Shelf Go.RowKit
section
def EY:Go.Shelf.Ren:=⟨fun|169=>70|n=>n,fun|70=>86|9=>9|0=>0|72=>89|37=>87|127=>133|3=>3|5=>5|n=>n,fun|n=>n⟩
theorem N4:Go.Proofs.Lays.n169 Tp EY:=by constructor <;> intros <;> kernel_rfl
theorem Ka:Builder.Extra Tp EY:={
 sizeBuilder:=by kernel_rfl
 liesBuilder:=by kernel_rfl
 t5:=zdb
 a5:=Tryz.isAgg5
 z5:=Tryz.sizeOf5
 v5:=Tryz.zeroValue5
 infoByte:=by kernel_rfl
 cellsByte:=by kernel_rfl
 sizeByte:=by kernel_rfl
 neB5:=by decide }
theorem T9(B b:Nat)(l:List UInt8)(w:World)(h:Lib.IsBuilder 89 5 B b (Lib.byteCells l) w)(c:B<=w.heap.size): Calls Tp 70 #[.pointer (Td ⟨b,0,Te⟩)] w λe w'=>e=.returned (.string ⟨l.toArray⟩)/\Below B w w':=Any.Builder_String_any N4 Ka B b l w h c
end
end Go.X
end
section
namespace Go.X
open Go Go.X Go.Proofs Go.RowKit
section
variable {h h':zc} {b:Nat} {l:Bs} {cs:Array Value} {K:Value -> zc -> Prop}
def Bld(h:zc)(b:Nat)(l:Bs):Prop:=∃(p:Option Addr) (s:Sl),h[b]?=Td (.cells #[.pointer p,aK s] 89 (0,0))/\(p=Te\/p=Td ⟨b,0,Te⟩)/\Owns h (b+1) 5 1 s (Lib.byteCells l)
theorem Bld.lt(H:Bld h b l):b<h.size:=by obtain⟨p,s,e,_⟩:=H;rcases ZX b h.size with q|q;exact q;rw[Array.getElem?_eq_none q]at e;cases e
theorem Bld.keep(H:Bld h b l)(k:Keep h.size h h'):Bld h' b l:=by have c:=H.lt;obtain⟨p,s,e,f,i⟩:=H;exact⟨p,s,by rw[k.get b c];exact e,f,i.keepN k⟩
theorem Bld.new(h:zc):Bld (h.push (.cells #[.pointer Te,.slice Te 0 0] 89)) h.size []:= ⟨Te,⟨Te,0,0⟩,qm _ _,.inl rfl,Owns.nil _ _ _ _⟩
theorem Bj:(ZB.info? 89).map (·.size)=Td 2:=by kernel_rfl
theorem Oz:liesAt Tp ZB.depth 89 (2 / ZB.cellsOf 89) 0 89 1=Ta:=by kernel_rfl
theorem qR:ZB.underlying 86=Td (.pointer 89):=by kernel_rfl
theorem vN:ZB.underlying 199=Td .unsafePointer:=by kernel_rfl
set_option maxHeartbeats 1000000 in
set_option maxRecDepth 100000 in
theorem EP(b:Nat)(w:World)(h0:w.cell? ⟨b,0,Te⟩=Td (.pointer (Td ⟨b,0,Te⟩))):
  Calls Tp 123 #[.pointer (Td ⟨b,0,Te⟩)] w λe w'=>e=.returned (.tuple #[])/\w'=w:=by
 obtain⟨j,c,_⟩:=zbk.1 Bj;have mixed:=Tryz.mixed
 go_enter Tryz.func123,Tryz.ntmps123
 go_wp2
 rw[Lib.run_neq_ptr_same w _ qR c]
 go_wp2
 go_end0
 exact⟨rfl,rfl⟩
set_option maxHeartbeats 1000000 in
set_option maxRecDepth 100000 in
theorem Ur(b:Nat)(w:World)(h0:w.cell? ⟨b,0,Te⟩=Td (.pointer Te))(c:w.shape? b=Td (89,2))(i:w.frozen? ⟨b,0,Te⟩=Tc):
  Calls Tp 123 #[.pointer (Td ⟨b,0,Te⟩)] w λe w'=>e=.returned (.tuple #[])/\w'=w.setCell ⟨b,0,Te⟩ (.pointer (Td ⟨b,0,Te⟩)):=by
 obtain⟨j,h,f⟩:=zbk.1 Bj;have mixed:=Tryz.mixed
 go_enter Tryz.func123,Tryz.ntmps123
 go_wp2
 rw[Lib.run_to_unsafe w ⟨b,0,Te⟩ qR vN h (by rw[f];decide) c (Nat.zero_lt_succ 1)];simp only[Result.andThen];rw[Oper.upon_value]
 go_wp2
 rw[run_callFunc_extern Tryz.func195 (by kernel_rfl) (by kernel_rfl) (by kernel_rfl) (e:=zdz) (by kernel_rfl)];rw[Lib.run_noEscape];simp only[Result.andThen];rw[Oper.upon_value]
 go_wp2
 rw[Lib.run_from_unsafe w ⟨b,0,Te⟩ vN qR h c Oz];simp only[Result.andThen];rw[Oper.upon_value]
 go_wp2
 go_end0
 exact⟨rfl,rfl⟩
theorem H9{b o:Nat}{T:TypeId}(e:h[b]?=Td (.cells cs T (0,0)))(v:Value)(B:World)(d:Nat):(mk B d h).setCell ⟨b,o,Te⟩ v=mk B d (h.setIfInBounds b (.cells (cs.setIfInBounds o v) T (0,0))):=by
 unfold World.setCell mk;simp only;congr 1;have c:b<h.size:=(YE.1 e).1;apply zdf;intro i;rw[Array.getElem?_modify];by_cases hi:i=b;subst hi;have f:h[i]=.cells cs T (0,0):=by have:=zae c;rw[e]at this;exact(ZA this).symm
 simp[c,f];rw[za (Ne.symm hi),YV (Ne.symm hi)]
theorem Keep.ne(e:h'.size=h.size)(c:∀i,i≠b->h'[i]?=h[i]?):Keep b h h':=⟨by omega,λi hi=>c i (by omega)⟩
def Itk(h h':zc):Prop:=∀(i:Nat) (s:Bt) (p:Nat),h[i]?=Td (.stringIter s p)->h'[i]?=Td (.stringIter s p)
theorem Itk.trans{a b c:zc}(x:Itk a b)(y:Itk b c):Itk a c:=λi s p e=>y i s p (x i s p e)
theorem Itk.keep(k:Keep h.size h h'):Itk h h':=λi s p e=>by have hi:i<h.size:=(YE.1 e).1;rw[k.get i hi];exact e
theorem Itk.ne{T:TypeId}{m:Nat×Nat}(e:h[b]?=Td (.cells cs T m))(f:∀i,i≠b->h'[i]?=h[i]?):Itk h h':=λi s p c=>by by_cases hi:i=b;subst hi;rw[e]at c;cases c;rw[f i hi];exact c
theorem Itk.own{base:Nat}{e:TypeId}{sz:Nat}{s:Sl}{xs:List Value}(H:Owns h base e sz s xs)(f:∀i,i<h.size->(∀p,s.a=Td p->i≠p.block)->h'[i]?=h[i]?):Itk h h':=λi t p c=>by have hi:i<h.size:=(YE.1 c).1;rw[f i hi λq m l=>?_];exact c;rcases H.2 with⟨b,_⟩|⟨g,cap,j,b,_,k,_⟩;rw[m]at b;cases b;have k:h[g]?=Td (.cells j e (0,0)):=k;rw[m]at b;injection b with e1 _ _;injection e1 with e1;rw[l,e1]at c;rw[k]at c;cases c
theorem wx(H:Bld h b l)(k:∀h',Bld h' b l->Keep b h h'->h'.size=h.size->Itk h h'->K (.tuple #[]) h'):XC Tp 123 #[.pointer (Td ⟨b,0,Te⟩)] h K:=by
 have j:=H.lt;obtain⟨p,s,e,m,f⟩:=H;have c:∀B d,(mk B d h).cell? ⟨b,0,Te⟩=Td (.pointer p):=λB d=>by have:(mk B d h).heap[b]?=Td (.cells #[.pointer p,aK s] 89 (0,0)):=e;simp[World.cell?,this]
 rcases m with rfl|rfl;refine XC.of_calls λB d=>(Ur b (mk B d h) (c B d) ?_ ?_).mono ?_
 have:(mk B d h).heap[b]?=Td (.cells #[.pointer Te,aK s] 89 (0,0)):=e;simp[World.shape?,this];exact vV ⟨_,e⟩ B d;rintro e' w' ⟨rfl,rfl⟩;rw[H9 e];refine⟨_,rfl,rfl,rfl,rfl,?_⟩;show K _ (h.setIfInBounds b _);refine k _ ⟨_,s,?_,.inr rfl,?_⟩ ?_ (by simp) (Itk.ne e λi hi=>YV (Ne.symm hi));rw[zbf j];rfl;refine f.keep λq n=>?_;have:=f.base_le q n;rw[YV (by omega)];exact Keep.setBlk _ (XV _);refine XC.of_calls λB d=>(EP b (mk B d h) (c B d)).mono ?_;rintro e' w' ⟨rfl,rfl⟩;exact⟨_,rfl,rfl,rfl,rfl,k _ ⟨_,s,e,.inr rfl,f⟩ (Keep.refl _ _) rfl (Itk.keep (Keep.refl _ _))⟩
theorem vt:ElemT Tp 87 5 (.int .u8 0) 1 1:=⟨by kernel_rfl,⟨Tryz.t5,by kernel_rfl,by kernel_rfl,by kernel_rfl,by kernel_rfl⟩,rfl,by omega⟩
theorem EC:ZB.underlying 9=Td .string:=by kernel_rfl
theorem Gm:yc Tp 87=Ta:=by kernel_rfl
theorem Ek:yf Tp 87=1:=by kernel_rfl
theorem By{p:Option Addr}{s t:Sl}(e:h[b]?=Td (.cells #[.pointer p,aK t] 89 (0,0)))(k:p=Te\/p=Td ⟨b,0,Te⟩)(i:Owns h (b+1) 5 1 s (Lib.byteCells l)){K:zc->Prop}
  (r:∀h',Bld h' b l->Keep b h h'->h'.size=h.size->Itk h h'->K h'):XRunU Tp (YG 87 (.pointer (Td ⟨b,1,Te⟩)) (.slice s.a s.len s.cap)) h K:=by
 intro B d;obtain⟨h',n,j,f,c⟩:=Q9 (P:=Tp) Gm Ek e (o:=1) (v:=aK s) rfl (by simp) (by simp[aK,Value.cells,Value.oneCell']) B d;refine⟨d,h',n,r h' ⟨p,s,?_,k,?_⟩ (Keep.ne f c) f (Itk.ne e c)⟩;rw[j];rfl;refine i.keep λq m=>?_;have:=i.base_le q m;exact c _ (by omega)
theorem Yf(H:Bld h b l)(T:l.length<140737488355328)(c:UInt8)(P:∀h',Bld h' b (l++[c])->Keep b h h'->Itk h h'->K .nilIface h'):
  XC Tp 133 #[.pointer (Td ⟨b,0,Te⟩),.int .u8 (c.toNat:Int)] h K:=by
 apply j8;refine wx H λf B k2 Y F=>⟨rfl,_,rfl,?_⟩;have x:=B.lt;obtain⟨p,s,e,Q,t⟩:=B;have m:=t.1;rw[Lib.byteCells_length,zac]at m;refine⟨s,Blk.cellAdd (o:=0) (k:=1) (cs:=#[.pointer p,aK s]) ⟨_,e⟩ rfl,?_⟩;intro j;have r:Keep f.size f j:=Keep.push _ _ (XV _);have U:j.size=f.size+1:=XY _;have b5:Blk j f.size #[.int .u8 (c.toNat:Int)]:=Blk.new _ _ _;have D:j[b]?=Td (.cells #[.pointer p,aK s] 89 (0,0)):=by rw[r.get b x];exact e
 have A:=t.keepN r;clear_value j;refine Zs vt A (src:=⟨Td ⟨f.size,0,Te⟩,1,1⟩) (news:=[.int .u8 (c.toNat:Int)]) (n:=j.size) ?_ rfl (by simp[Value.oneCell']) (by simp only;omega) (by simp only;omega) (by omega) λC z Z I u q4 S=>⟨C,rfl,_,rfl,?_⟩;refine .inr ⟨f.size,0,rfl,by omega,λi v w=>?_⟩
 match i,w with
 |0,w=>cases w;exact b5.cell rfl
 have M:z[b]?=Td (.cells #[.pointer p,aK s] 89 (0,0)):=by rw[u b (by omega) λq y=>by have:=t.base_le q y;omega];exact D
 have E:Owns z (b+1) 5 1 C (Lib.byteCells (l++[c])):=by
  have:Lib.byteCells (l++[c])=Lib.byteCells l++[.int .u8 (c.toNat:Int)]:=by unfold Lib.byteCells;rw[ZT];rfl
  rw[this];exact I
 have G:Keep b h z:=k2.trans ⟨by omega,λi hi=>by rw[u i (by omega) λq y=>by have:=t.base_le q y;omega];exact r.get i (by omega)⟩ (XV _);refine By M Q E λO J L V N=>P O J (G.trans L (XV _)) (F.trans ((Itk.keep r).trans ((Itk.own A u).trans N)))
theorem U3(H:Bld h b l)(f:l.length<140737488355328)(c:UInt8)(e:∀h',Bld h' b (l++[c])->Keep b h h'->K .nilIface h'):
  XC Tp 133 #[.pointer (Td ⟨b,0,Te⟩),.int .u8 (c.toNat:Int)] h K:=
 Yf H f c λh' a b _=>e h' a b
theorem FO(H:Bld h b l)(t:Bs)(hl:l.length+t.length<=140737488355328)(N:∀h',Bld h' b (l++t)->Keep b h h'->Itk h h'->K (.tuple #[.int .i64 (t.length:Int),.nilIface]) h'):
  XC Tp 68 #[.pointer (Td ⟨b,0,Te⟩),.string (bl t)] h K:=by
 apply jk;refine wx H λC z k2 U F=>⟨rfl,_,rfl,?_⟩;have A:=z.lt;obtain⟨p,s,e,Q,j⟩:=z;have f:=j.1;rw[Lib.byteCells_length,zac]at f;refine⟨s,Blk.cellAdd (o:=0) (k:=1) (cs:=#[.pointer p,aK s]) ⟨_,e⟩ rfl,?_⟩;have c:=zk t;refine s7 vt j (x:=.string (bl t)) (m:=(bl t).size) (news:=Lib.byteCells t) (λB d=>?_) (by rw[c];omega) (by rw[c];omega) (by omega) λy u V S r Z Y=>⟨y,rfl,_,rfl,?_⟩;have:=Src.ofString (P:=Tp) (w:=mk B d C) EC (bl t);have O:byteCells (bl t)=Lib.byteCells t:=by unfold byteCells Lib.byteCells;have:(bl t).data.toList=t:=ww t;rw[this]
 rw[O]at this;exact this;have I:u[b]?=Td (.cells #[.pointer p,aK s] 89 (0,0)):=by rw[r b (by omega) λq n=>by have:=j.base_le q n;omega];exact e
 have D:Owns u (b+1) 5 1 y (Lib.byteCells (l++t)):=by
  have:Lib.byteCells (l++t)=Lib.byteCells l++Lib.byteCells t:=by unfold Lib.byteCells;rw[ZT]
  rw[this];exact S
 have J:Keep b h u:=k2.trans ⟨by omega,λi hi=>r i (by omega) λq n=>by have:=j.base_le q n;omega⟩ (XV _);refine By I Q D λM E G T L=>?_;rw[c];exact N M E (J.trans G (XV _)) (F.trans ((Itk.own j r).trans L))
theorem Ei(H:Bld h b l)(t:Bs)(e:l.length+t.length<=140737488355328)(c:∀h',Bld h' b (l++t)->Keep b h h'->K (.tuple #[.int .i64 (t.length:Int),.nilIface]) h'):
  XC Tp 68 #[.pointer (Td ⟨b,0,Te⟩),.string (bl t)] h K:=
 FO H t e λh' a b _=>c h' a b
theorem Bw(H:Bld h b l)(n:∀h',Keep b h h'->K (.string (bl l)) h'):XC Tp 70 #[.pointer (Td ⟨b,0,Te⟩)] h K:=by
 have j:=H.lt;obtain⟨p,s,e,m,i⟩:=H;refine XC.of_calls λB d=>(T9 b b l (mk B d h) ?_ (zdc j)).mono ?_;have k:Lib.BuilderAt 89 5 b b (.pointer p) (Lib.byteCells l) (mk B d h):=by
  refine⟨XV _,aK s,e,?_,?_⟩;have h1:=i.1;rw[zac]at h1;rw[h1];exact i.base (Nat.le_succ b);intro f;cases ha:s.a with
  |none=>rw[aK,ha]at f;cases f
  |some q=>
   have:=i.base_le q ha;rw[aK,ha]at f;have:q.block=b:=by simpa[Value.ownBlock]using f
   omega
 rcases m with rfl|rfl;exact .inl k;exact .inr k;rintro e' w' ⟨rfl,c⟩;exact⟨_,rfl,c.os,c.tape,c.output,n _ ⟨c.size,c.block⟩⟩
end
end Go.X
end
section
namespace Go.X
open Go Go.Lib
section
theorem Ks(l:Bs):decodeL l=dec l:=by rw[decodeL_N,dec]
theorem JI{l:Bs}(h:l≠[])(b:i9 (dec l)=Tc):encodeRune ((dec l).1:Int)=l.take (dec l).2:=by rw[<-Ks]at b ⊢;refine encode_decode l h λ⟨h1,c⟩=>?_;unfold i9 at b;rw[h1,c]at b;cases b
theorem Ol(l:Bs):(dec l).1<=1114111:=by
 have h0:=(l.getD 0 0).toNat_lt;have h1:=(l.getD 1 0).toNat_lt;have c:=(l.getD 2 0).toNat_lt;have b:=(l.getD 3 0).toNat_lt;unfold dec decodeN;repeat' split
 all_goals (simp only;omega)
def jU(c:UInt8):Bs:=
 if c=34\/c=92 then [92,c]else if c=8 then [92,98]else if c=12 then [92,102]else if c=10 then [92,110]else if c=13 then [92,114]else if c=9 then [92,116]
 else if c.toNat<32 then [92,117,48,48,zat (48+c.toNat / 16),zat (if c.toNat % 16<10 then 48+c.toNat % 16 else 87+c.toNat % 16)]else [c]
def hY(l:Bs):Bs:=l.flatMap jU
def ik(l:Bs):Bs×Int:=if Zv l then(34::hY l++[34],0)else([],2)
end
end Go.X
end
section
namespace Go.X
open Go Go.X Go.Proofs Go.RowKit
section
theorem My{h:zc}{b:Nat}{l:Bs}(H:Bld h b l){r:Int}(h0:0<=r)(h1:r<=1114111)(hl:l.length+4<=140737488355328){K:Value->zc->Prop}(N:∀h' n,Bld h' b (l++Lib.encodeRune r)->Keep b h h'->Itk h h'->K (.tuple #[.int .i64 n,.nilIface]) h'):
  XC Tp 198 #[.pointer (Td ⟨b,0,Te⟩),.int .i32 r] h K:=by
 apply Qm;refine wx H λf C k2 z2 F=>⟨rfl,_,rfl,?_⟩;have t:=C.lt;obtain⟨p,s,e,S,w⟩:=C;have u:=w.1;rw[Lib.byteCells_length,zac]at u;have c1:=Blk.cellAdd (o:=0) (k:=1) (v:=aK s) (cs:=#[.pointer p,aK s]) ⟨_,e⟩ rfl;refine⟨s,c1,_,rfl,s,c1,?_⟩;refine XC.of_calls λB d=>(Wn (b+1) (aK s) s.len (Lib.byteCells l) r (by omega) (by omega) (mk B d f) w (by omega) (show b+1<=f.size by omega)).mono ?_;rintro e' w' ⟨D,rfl,q,o,j⟩;obtain⟨m,rfl,Y⟩:∃m:Sl,D=aK m/\m.len=s.len+(Lib.runeCells r).length:=by rcases q.2 with⟨rfl,hz⟩|⟨g,cap,T,rfl,_⟩;exact⟨⟨Te,0,0⟩,rfl,hz.symm⟩;exact⟨⟨_,_,_⟩,rfl,rfl⟩
 have E:Owns w'.heap (b+1) 5 1 m (Lib.byteCells (l++Lib.encodeRune r)):=by
  have Z:Lib.byteCells (l++Lib.encodeRune r)=Lib.byteCells l++Lib.runeCells r:=by rw[<-Lib.byteCells_encodeRune];unfold Lib.byteCells;rw[ZT]
  rw[Z];rw[<-Y]at q;exact q
 have I:w'.heap[b]?=Td (.cells #[.pointer p,aK s] 89 (0,0)):=by
  have x:=j.block b (by show b<(f.push o).size;rw[XY];omega) (by
   intro c;cases ha:s.a with
   |none=>rw[aK,ha]at c;cases c
   |some a=>have:=w.base_le a ha;rw[aK,ha]at c;simp only[Value.ownBlock,XU]at c;omega)
  rw[x];show(f.push o)[b]?=_;rw[Array.getElem?_push_lt t,<-e];simp[t]
 have J:Keep b h w'.heap:=by
  refine k2.trans ⟨?_,λi hi=>?_⟩ (XV _);have:=j.size;have V:(f.push o).size<=w'.heap.size:=this;rw[XY]at V;omega;have x:=j.block i (by show i<(f.push o).size;rw[XY];omega) (by
   intro c;cases ha:s.a with
   |none=>rw[aK,ha]at c;cases c
   |some a=>have:=w.base_le a ha;rw[aK,ha]at c;simp only[Value.ownBlock,XU]at c;omega)
  rw[x];show(f.push o)[i]?=_;rw[Array.getElem?_push_lt (by omega)];simp[show i<f.size by omega]
 have P:Itk f w'.heap:=Itk.own w λi hi y=>by
  have x:=j.block i (by show i<(f.push o).size;rw[XY];omega) (by
   intro c;cases ha:s.a with
   |none=>rw[aK,ha]at c;cases c
   |some a=>have:=y a ha;rw[aK,ha]at c;simp only[Value.ownBlock,XU]at c;exact this c)
  rw[x];show(f.push o)[i]?=_;rw[Array.getElem?_push_lt hi];simp[hi]
 refine⟨_,rfl,j.os,j.tape,j.output,m,rfl,_,rfl,?_⟩;refine By I S E λM A G z7 L=>?_;have O:=A;obtain⟨Q,z,U,_,_⟩:=O;exact⟨_,rfl,z,Blk.cellAdd (o:=0) (k:=1) (v:=aK z) (cs:=#[.pointer Q,aK z]) ⟨_,U⟩ rfl,N M _ A (J.trans G (XV _)) (F.trans (P.trans L))⟩
end
end Go.X
end
section
namespace Go.X
open Go Go.Lib
section
theorem O9(l:Bs):(replaceAll l [126] [126,48]).length<=2*l.length:=by
 rw[X5 (by simp) (by simp),sP];induction l with
 |nil=>simp
 |cons c t e=>
  rw[za1,XX,YL];have:(if c=126 then [126,48]else [c]:Bs).length<=2:=by by_cases b:c=126;rw[zb b];simp;rw[za b];simp
  omega
end
end Go.X
end
section
namespace Go.X
section
variable {gl:Fr} {l:List Bt}
theorem v9(C:GL gl)(E:SL l){R:Bool->Prop}(I:R (yb l)):PC Tp gl 78 [Arg.mk (.row .str) l] [.bool] R:=by
 intro h M vs y ag H
 match vs,H with
 |[u],⟨hu,_⟩=>
  obtain⟨s,rfl,k⟩:=jW hu;have k:Rd M (.row .str) l [aK s]:=k;obtain⟨i,J,F⟩:=rowLen k;apply PX.of;apply NV s;have t:decide (((s.len:Nat):Int)<=64)=decide (l.length<=64):=by rw[i,YW,zv,zv];omega
  rw[t];refine⟨λv h'=>∃b,v=.bool b/\(decide (l.length<=64)=Ta->b=l.any λx=>!(Zv (lb x)))/\∃M',Later h M h' M',λj=>?_,λj=>⟨Ta,Ta,rfl,λe=>(by rw[e]at j;cases j),M,Later.refl ag⟩,λ_ v h' ⟨b,e,_⟩=>⟨b,e⟩,?_⟩;refine(Ux (gl:=gl) ag k (p:=λx=>!(Zv (lb x))) λx G=>⟨by kernel_rfl,λh' M' P L' m=>?_⟩).go λw N L b D c o=>⟨b,ib c,b,rfl,λ_=>o,L,D⟩;have:=oB m;subst this;apply PX.of;show XC Tp 136 #[.string x] h' _;apply Sb;have r:=Se C.tabs (l:=lb x) (R:=λb=>b=Zv (lb x)) (by have:=E.s x G;omega) rfl;rw[Qj]at r;exact r.go (vs:=[.string x]) (y.trans L'.le) L'.ag (qk (rdStr _) ym) λw O z b A f n=>⟨b,ib f,z,_,A,Y2.2 (rdBool _),by rw[n]⟩;rintro b h' ⟨b',e,B,M',L'⟩;cases e;refine⟨M',_,L',Y2.2 (rdBool _),?_⟩;have:(bif decide (l.length<=64)then !b else Tc)=yb l:=by
   unfold yb;cases j:decide (l.length<=64)with
   |false=>rfl
   |true=>rw[B j,zI,zal,YW];simp
  rw[this];exact I
theorem HT(e:GL gl){s old new:Bs}(j:s.length<=4194304)(b:1<=old.length)(f:new.length<=2){R:Bt->Prop}(h:R (bl (Lib.replaceAll s old new))):PC Tp gl 134 [Arg.mk .str (bl s),Arg.mk .str (bl old),Arg.mk .str (bl new)] [.str] R:=by have c:=Lib.countB_le (bl old) (by rw[zk];exact b) (bl s).size (bl s) (XV _);rw[zk]at c;have i:Lib.countB (bl s) (bl old)*new.length<=s.length*2:=zci c f;refine WS e.max (by rw[zk];omega) (by rw[zk];exact b) (by rw[zk,zk];omega) ?_;rw[ww,ww,ww];exact h
theorem DR(S:GL gl)(U:SL l){R:Bt×Int->Prop}(h1:yb l=Ta->R (bl (ic (l.map lb)),0))(h2:yb l=Tc->R (bl [],1)):PC Tp gl 75 [Arg.mk (.row .str) l] [.str,.int .i64] R:=by
 intro h M vs hM ag ha
 match vs,ha with
 |[u],⟨hu,_⟩=>
  obtain⟨s,rfl,L⟩:=jW hu;have L:Rd M (.row .str) l [aK s]:=L;obtain⟨ac,au,aj⟩:=rowLen L;have ret:∀(M':Fr) (x:Bt) (e:Int),ig M' [.str,.int .i64] (x,e) (.tuple #[.string x,.int .i64 e]):=λM' x e=>⟨[_,_],⟨_,_,rfl,rfl,_,rfl,rfl⟩,rfl⟩;apply PX.of;apply RS s;have p:PC Tp gl 78 [Arg.mk (.row .str) l] [.bool] (λr=>r=yb l):=v9 S U rfl;refine p.go (vs:=[aK s]) hM ag (qk hu ym) λw g z r o D A=>⟨r,ib D,λB=>⟨z,_,o,ret _ _ _,h2 (by rw[<-A];simpa using B)⟩,λB=>?_⟩;have n:yb l=Ta:=by rw[<-A];simpa using B
  have hn:l.length<=64:=by unfold yb at n;simp at n;exact n.1
  have tl:∀k,(ic ((l.take k).map lb)).length<=200000000:=by
   intro k;have:=vR (l:=(l.take k).map lb) (m:=1048576) λx B=>by obtain⟨y,hy,rfl⟩:=ZI.1 B;exact U.s y (zbz hy)
   have e:((l.take k).map lb).length<=64:=by rw[YF,ZP];omega
   have:((l.take k).map lb).length*(2*1048576+1)<=64*(2*1048576+1):=ZK _ e;omega
  intro F;have N:Later g z F z:=Later.push o.ag _;have b4:Bld F g.size []:=Bld.new g;have ae:=o.trans N;have ah:=b4.lt;clear_value F;refine⟨λi G=>∃k:Nat,i=k/\k<=l.length/\Bld G g.size (ic ((l.take k).map lb))/\Keep g.size F G,λi _=>l.length-i.toNat,⟨0,rfl,by omega,by simpa[ic]using b4,Keep.refl _ _⟩,?_⟩;rintro i G ⟨k,rfl,hk,T,k8⟩;have gz:g.size<=F.size:=N.keep.size;have t:Keep g.size g G:=N.keep.trans k8 (XV _);have Q:AgM z G:=o.ag.keep t;refine⟨λP=>?_,λP=>?_⟩;have b:k<l.length:=by simp at P;omega
  refine l8 Q (Rd.mono o.le L) b rfl rfl ?_;have hT:=tl k;have an:=U.s _ (YI b);refine U3 T (by omega) 47 λh9 B9 J=>⟨_,rfl,?_⟩;have V:=t.trans J (XV _);have Y:AgM z h9:=o.ag.keep V;have e1:=vZ (lb l[k]);have af:=O9 (lb l[k]);have p1:=HT (gl:=gl) S (s:=lb l[k]) (old:=[126]) (new:=[126,48]) (by omega) (by simp) (by simp) (R:=λr=>r=bl (Lib.replaceAll (lb l[k]) [126] [126,48])) rfl;rw[Qj]at p1;have E:=hM.trans o.le;refine p1.go (vs:=[.string l[k],.string (bl [126]),.string (bl [126,48])]) E Y (qk (rdStr _) (qk (rdStr _) (qk (rdStr _) ym))) λv ai am r f c I=>⟨r,oc c,?_⟩;subst I;have p2:=HT (gl:=gl) S (s:=Lib.replaceAll (lb l[k]) [126] [126,48]) (old:=[47]) (new:=[126,49]) (by omega) (by simp) (by simp) (R:=λr=>r=bl (iM (lb l[k]))) (by rw[XA]);refine p2.go (vs:=[.string _,.string (bl [47]),.string (bl [126,49])]) (E.trans f.le) f.ag (qk (rdStr _) (qk (rdStr _) (qk (rdStr _) ym))) λv ar ak r O j C=>⟨r,oc j,?_⟩;subst C;have H:=f.keep.trans O.keep f.keep.size;have Z:=B9.keep H;refine Ei Z _ (by simp only[XX,ZF];omega) λal ab aa=>⟨_,_,rfl,?_⟩;have hw:=qz b (by omega);rw[hw];refine⟨⟨k+1,rfl,by omega,?_,?_⟩,by simp only[XW];omega⟩;rw[YD b,ZT,Bv];have:ic (List.map lb [l[k]])=[47]++iM (lb l[k]):=by simp[ic]
  rw[this,<-YS];exact ab;have z9:=B9.lt;exact((k8.trans J (XV _)).trans (H.mono (by omega)) (XV _)).trans aa (XV _);have b:k=l.length:=by simp at P;omega
  subst b;rw[YR]at T;refine Bw T λh9 J=>⟨_,rfl,z,_,?_,ret _ _ _,h1 n⟩;exact o.trans (Later.same o.ag (t.trans J (XV _)))
end
end Go.X
end
section
namespace Go.X
open Go Go.X Go.Proofs Go.RowKit
section
variable {M:Fr} {h:zc} {K:Value -> zc -> Prop} {b o c:Nat}
def Brn(gl:Fr):Prop:=∃cs:Array Value,gl 7=Td cs/\cs[15]?=Td (.int .u8 4)
theorem Brn.mono{gl M:Fr}(h:Brn gl)(le:Fr.le gl M):Brn M:=by obtain⟨cs,e,h⟩:=h;exact⟨cs,le _ _ e,h⟩
theorem TO(c:K (.bool Ta) h):XC Tp 354 #[.int .i64 16] h K:=by apply Zl;exact Eq.mpr (congrArg (λb=>K (.bool b) h) (by kernel_rfl)) c
theorem On(f:Brn M)(ag:AgM M h)(c:K (.int .i64 4) h):XC Tp 355 #[.int .u64 16] h K:=by
 obtain⟨cs,e,i⟩:=f;apply Ym;refine⟨λb=>(by cases b),λ_=>?_⟩;apply Ql;refine⟨λb=>(by cases b),λ_=>⟨_,⟨rfl,by decide +kernel,by decide +kernel⟩,4,?_,4,rfl,c⟩⟩;have key:∀n:Nat,n=15->zd h (XT ⟨7,0,Te⟩ n)=Td (.int .u8 4):=by rintro n rfl;exact ag.cell e i
 exact key _ (by kernel_rfl)
def Hj:Bs:=[48,49,50,51,52,53,54,55,56,57,97,98,99,100,101,102,103,104,105,106,107,108,109,110,111,112,113,114,115,116,117,118,119,120,121,122]
def mh(k:Nat):UInt8:=Hj[k]?.getD 0
theorem GW(k:Nat):ze (⟨#[48,49,50,51,52,53,54,55,56,57,97,98,99,100,101,102,103,104,105,106,107,108,109,110,111,112,113,114,115,116,117,118,119,120,121,122]⟩:Bt) k=((mh k).toNat:Int):=qt Hj k
def gK(c:Nat):Bs:=if c<16 then [mh c]else [mh 1,mh (c % 16)]
def z65:Array Value:=#[.int .u8 0,.int .u8 0,.int .u8 0,.int .u8 0,.int .u8 0,.int .u8 0,.int .u8 0,.int .u8 0,.int .u8 0,.int .u8 0,.int .u8 0,.int .u8 0,.int .u8 0,.int .u8 0,.int .u8 0,.int .u8 0,.int .u8 0,.int .u8 0,.int .u8 0,.int .u8 0,.int .u8 0,.int .u8 0,.int .u8 0,.int .u8 0,.int .u8 0,.int .u8 0,.int .u8 0,.int .u8 0,.int .u8 0,.int .u8 0,.int .u8 0,.int .u8 0,.int .u8 0,.int .u8 0,.int .u8 0,.int .u8 0,.int .u8 0,.int .u8 0,.int .u8 0,.int .u8 0,.int .u8 0,.int .u8 0,.int .u8 0,.int .u8 0,.int .u8 0,.int .u8 0,.int .u8 0,.int .u8 0,.int .u8 0,.int .u8 0,.int .u8 0,.int .u8 0,.int .u8 0,.int .u8 0,.int .u8 0,.int .u8 0,.int .u8 0,.int .u8 0,.int .u8 0,.int .u8 0,.int .u8 0,.int .u8 0,.int .u8 0,.int .u8 0,.int .u8 0]
theorem Po:yc Tp 5=Ta:=by kernel_rfl
theorem MS:yf Tp 5=1:=by kernel_rfl
theorem N0{l:Bs}{cap:Nat}(f:∀j (c:j<l.length),zd h ⟨b,o+j,Te⟩=Td (.int .u8 (l[j].toNat:Int)))(e:K (.string (bl l)) h):
  yp Tp (convert 87 9 (.slice (Td ⟨b,o,Te⟩) l.length cap)) h K:=by
 intro B d;refine⟨_,d,h,run_convert_bytes_back (P:=Tp) (mk B d h) 87 9 5 ⟨b,o,Te⟩ cap l Tryz.underlying87 zdb Tryz.underlying9 λj c=>?_,e⟩;rw[A4,zh];exact f j c
theorem SK(b:c<18446744073709551616):XS .u64 (((zaz (zah .u64) (c:Int)) &&& (zaz (zah .u64) (15:Int))).toNat:Int)=((c % 16:Nat):Int):=by rw[show(15:Int)=((15:Nat):Int)from rfl,LO b (by decide)];congr 1;exact Nat.and_two_pow_sub_one_eq_mod c 4
theorem zM{k:Nat}(h:k<36):0<=(k:Int)/\(k:Int)<(((⟨#[48,49,50,51,52,53,54,55,56,57,97,98,99,100,101,102,103,104,105,106,107,108,109,110,111,112,113,114,115,116,117,118,119,120,121,122]⟩:Bt)).size:Int):=by have:(((⟨#[48,49,50,51,52,53,54,55,56,57,97,98,99,100,101,102,103,104,105,106,107,108,109,110,111,112,113,114,115,116,117,118,119,120,121,122]⟩:Bt)).size:Int)=36:=rfl;rw[this];omega
theorem IR{g:zc}{cs:Array Value}(B:Blk g b cs)(c:o<cs.size){x:Int}{K:zc->Prop}(e:∀g',Blk g' b (cs.setIfInBounds o (.int .u8 x))->g'.size=g.size->(∀i,i≠b->g'[i]?=g[i]?)->K g'):XRunU Tp (YG 5 (.pointer (Td ⟨b,o,Te⟩)) (.int .u8 x)) g K:= Q5 Po MS B c rfl e
set_option maxRecDepth 100000 in
set_option maxHeartbeats 4000000 in
theorem WQ(hc:c<32)(U:Brn M)(ag:AgM M h)(hK:∀h',Keep h.size h h'->K (.tuple #[.slice Te 0 0,.string (bl (gK c))]) h'):
  XC Tp 303 #[.slice Te 0 0,.int .u64 (c:Int),.int .i64 16,.bool Tc,.bool Tc] h K:=by
 refine Z9 ⟨Te,0,0⟩ (c:Int) 16 Tc Tc h K ?_;intro K2 I;refine⟨λb=>(by simp at b),λ_=>I _ ?_⟩;intro B;have S:Keep h.size h B:=Keep.push _ _ (XV _);have z3:B.size=h.size+1:=XY _;have B3:Blk B h.size z65:=Blk.new _ _ _;clear_value B;have L:=ag.keep S;intro K6 F;refine⟨λb=>(by cases b),λ_=>F _ _ ?_⟩;intro K9 J;have E:XS .u64 16=16:=by decide
 have N:XS .u64 (16-1)=15:=by decide
 rw[E,N];refine TO ⟨Ta,rfl,λ_=>?_,λb=>(by cases b)⟩;refine On U L ⟨_,rfl,?_⟩;have p:z65.size=65:=rfl;have fin:∀(g:zc) (cs:Array Value) (u i:Nat),Keep h.size h g->Blk g h.size cs->cs.size=65->u<16->1<=i->i<=65->(∀j,j<65-i->∃x:UInt8,(gK c)[j+1]?=Td x/\cs[i+j]?=Td (.int .u8 (x.toNat:Int)))->(gK c).length=66-i->(gK c)[0]?=Td (mh u) ->
   XRunU Tp (YG 5 (.pointer (Td (XT ⟨h.size,0,Te⟩ (((i-1:Nat):Int).toNat*1)))) (.int .u8 (ze (⟨#[48,49,50,51,52,53,54,55,56,57,97,98,99,100,101,102,103,104,105,106,107,108,109,110,111,112,113,114,115,116,117,118,119,120,121,122]⟩:Bt) ((u:Int)).toNat))) g (λC=>K9 (((i-1:Nat):Int)) C):=by
  intro g cs u i m t A hu T Z n y e;rw[XW,XW,zac,GW];rw[zh,YP];refine IR t (by rw[A];omega) λg2 Q Y O=>J _ _ ?_;intro V w;refine⟨λb=>(by cases b),λ_=>w _ _ ?_⟩;refine⟨λb=>(by cases b),λ_=>⟨⟨by omega,by omega,by omega⟩,?_⟩⟩;have H:Keep h.size h g2:=⟨by have:=m.size;omega,λj l=>(O j (by omega)).trans (m.get j l)⟩;have G:zdx (iG (Td ⟨h.size,0,Te⟩) 1 ((i-1:Nat):Int).toNat 65) ((65:Int).toNat-((i-1:Nat):Int).toNat) (65-((i-1:Nat):Int).toNat)=.slice (Td ⟨h.size,i-1,Te⟩) (gK c).length (65-(i-1)):=by rw[XW,y,show(65:Int).toNat-(i-1)=66-i from by have:(65:Int).toNat=65:=rfl;omega];congr 1;unfold iG;rw[za (by omega)];simp only[zds,zh,YP,zac]
  rw[G];refine N0 (λj l=>?_) ⟨_,rfl,hK _ H⟩;refine Q.cell ?_;rw[Array.getElem?_setIfInBounds];cases j with
  |zero=>rw[zco,zb rfl,zb (by rw[A];omega)];rw[YA l]at e;rw[ZA e]
  |succ j=>rw[za (by omega)];obtain⟨x,z,D⟩:=n j (by omega);rw[show i-1+(j+1)=i+j from by omega,D];rw[YA l]at z;rw[ZA z]
 refine⟨λu i g=>Keep h.size h g/\((u=(c:Int)/\i=65/\Blk g h.size z65)\/(16<=c/\u=1/\i=64/\Blk g h.size (z65.setIfInBounds 64 (.int .u8 ((mh (c % 16)).toNat:Int))))),λu _ _=>u.toNat,⟨S,.inl ⟨rfl,rfl,B3⟩⟩,?_⟩;rintro u i g ⟨m,⟨rfl,rfl,t⟩|⟨f,rfl,rfl,t⟩⟩;refine⟨λb=>?_,λb=>?_⟩;have f:16<=c:=by have:=zA b;omega
 rw[SK (by omega)];have eK:XS .i64 ((65:Int)-1)=64:=by decide
 rw[eK];refine⟨zM (by omega),_,⟨rfl,by decide,by decide⟩,?_⟩;rw[XW,GW,zh];refine IR (o:=64) t (by rw[p];omega) λg2 Q Y O=>⟨by decide,⟨⟨by have:=m.size;omega,λj l=>(O j (by omega)).trans (m.get j l)⟩,.inr ⟨f,?_,rfl,Q⟩⟩,?_⟩;have:(min (XS .u64 4).toNat 64)=4:=by decide
 rw[this];show(c:Int).fdiv 16=1;rw[Int.fdiv_eq_ediv_of_nonneg _ (by decide)];omega;have:(min (XS .u64 4).toNat 64)=4:=by decide
 rw[this];show((c:Int).fdiv 16).toNat<(c:Int).toNat;rw[Int.fdiv_eq_ediv_of_nonneg _ (by decide)];omega;have f:c<16:=by have:=zG b;omega
 have eK:XS .i64 ((65:Int)-1)=((65-1:Nat):Int):=by decide
 rw[eK];refine⟨zM (by omega),_,⟨rfl,by decide,by decide⟩,?_⟩;have r:gK c=[mh c]:=by unfold gK;rw[zb f]
 exact fin g z65 c 65 m t rfl f (by omega) (by omega) (λj l=>by omega) (by rw[r];rfl) (by rw[r];rfl);refine⟨λb=>?_,λb=>?_⟩;exact absurd (zA b) (by omega);have P:XS .i64 ((64:Int)-1)=((64-1:Nat):Int):=by decide
 rw[P];refine⟨zM (k:=1) (by omega),_,⟨rfl,by decide,by decide⟩,?_⟩;have r:gK c=[mh 1,mh (c % 16)]:=by unfold gK;rw[za (by omega)]
 refine fin g _ 1 64 m t (by simp[p]) (by omega) (by omega) (by omega) (λj l=>?_) (by rw[r];rfl) (by rw[r];rfl);have:j=0:=by omega
 subst this;exact⟨_,by rw[r];rfl,by rw[Array.getElem?_setIfInBounds,zb rfl,zb (by rw[p];omega)]⟩
theorem Ui(i:c<32)(f:Brn M)(ag:AgM M h)(e:∀h',Keep h.size h h'->K (.string (bl (gK c))) h'):XC Tp 199 #[.int .i64 (c:Int),.int .i64 16] h K:=by apply Vd;apply Qg;refine⟨λl=>(by simp at l),λ_=>?_⟩;have b:XS .u64 (c:Int)=(c:Int):=KD (by omega) (by omega);have j:decide ((c:Int)<0)=Tc:=decide_eq_false (by omega);rw[b,j];exact WQ i f ag λh' k=>⟨⟨Te,0,0⟩,_,rfl,_,rfl,e h' k⟩
end
end Go.X
end
section
namespace Go.Proofs.YtplilfikcimcbaaGreatDoor
open Go Go.X Go.ChangeShapes Go.WideShapes Go.ChangeAt Go.RowKit Go.Lib
set_option linter.unusedVariables false
section
theorem Fh{W:World}(h:laidMetH ZB jZ W):Brn (Fz W):=by
 have hl:laidMet ZB jZ W:=by rw[MakeChecks.laidMetH_plain _ _ _ (by kernel_rfl)]at h;exact h
 have hv : VarReads Tryz.prog W "math/bits.deBruijn64tab" (tabData .u8 [0, 1, 56, 2, 57, 49, 28, 3, 61, 58, 42, 50, 38, 29, 17, 4, 62, 47, 59, 36, 45, 43, 51, 22, 53, 39, 33, 30, 24, 18, 12, 5, 63, 55, 48, 27, 60, 41, 37, 16, 46, 35, 44, 21, 52, 32, 23, 11, 54, 26, 40, 15, 34, 20, 31, 10, 25, 14, 19, 9, 13, 8, 7, 6]) := by
  have := Go.Lib.laidMet.reads hl (List.mem_of_getElem? (show jZ[1]? = some ("math/bits.deBruijn64tab", Rows.laid_math_bits_deBruijn64tab) from rfl));have e:(Rows.laid_math_bits_deBruijn64tab:DataW Unit)=tabData .u8 [0,1,56,2,57,49,28,3,61,58,42,50,38,29,17,4,62,47,59,36,45,43,51,22,53,39,33,30,24,18,12,5,63,55,48,27,60,41,37,16,46,35,44,21,52,32,23,11,54,26,40,15,34,20,31,10,25,14,19,9,13,8,7,6]:=by kernel_rfl
  rw[<-e];exact this
 obtain⟨cs,h1,h2⟩:=A2 (g:=7) (t:=385) (e:=5) (m:=64) (by kernel_rfl) (by kernel_rfl) (by kernel_rfl) (by kernel_rfl) (by kernel_rfl) (by kernel_rfl) hv;exact⟨cs,h1,by rw[<-ZZ,h2];rfl⟩
end
end Go.Proofs.YtplilfikcimcbaaGreatDoor
end
section
namespace Go.X
section
theorem RQ(gl:Fr)(c:Tr)(R:Bool->Prop) (H:∃a:Bool->Prop,((c.kind != 7)=Ta->PC Tp gl 89 [Arg.mk .tree (Tr.mk c.kind c.text c.keys c.items)] [.bool] a)/\∀b:Bool,((c.kind != 7)=Ta->a b)->R (bif (c.kind != 7)then b else Tc)):
  PC Tp gl 88 [Arg.mk .tree c] [.bool] R:=
 PF ⟨[],[],[],[]⟩ [.tmp 2] 10 Tryz.func88 H
end
section
theorem UI(b:Int)(c:Bt)(d:Sl)(e:Sl)(h:zc)(R:Value->zc->Prop) (H:let f:=h.push (.cells #[iV b,.string c,aK d,aK e] 25);∃g i j k,zf f ⟨h.size,0,Te⟩ 0 (tL g i j k)/\XC Tp 49 #[tA g i j k] f (λl m=>∃n,l=.bool n/\((!n)=Ta->R (.tuple #[.string (⟨#[]⟩:Bt),iV 1]) m)/\((!n)=Tc->let o:=m.push (.cells #[.pointer Te,.slice Te 0 0,.bool Tc,iV 0] 207);∃p q r s,zf o ⟨h.size,0,Te⟩ 0 (tL p q r s)/\XC Tp 201 #[.pointer (Td ⟨m.size,0,Te⟩),tA p q r s,iV 0] o (λt u=>t=.tuple #[]/\XC Tp 70 #[.pointer (Td (XT ⟨m.size,0,Te⟩ 0))] u (λv w=>∃x,v=.string x/\R (.tuple #[.string x,iV 0]) w))))):
  XC Tp 126 #[.agg #[.int .i64 b,.string c,.slice d.a d.len d.cap,.slice e.a e.len e.cap]] h R:=
 XF ⟨[],[],[]⟩ [.tmp 2,.tmp 3] 12 Tryz.func126 H
theorem Xg(L:Option Addr)(b:Int)(c:Bt)(d:Sl)(e:Sl)(J:Int)(h:zc)(R:Value->zc->Prop) (H:let f:=h.push (.cells #[iV b,.string c,aK d,aK e] 25);∃g,zd f (XT ⟨h.size,0,Te⟩ 0)=Td (iV g)/\((g==1)=Ta->∃i,L=Td i/\XC Tp 68 #[.pointer (Td (XT i 0)),.string (⟨#[110,117,108,108]⟩:Bt)] f (λj k=>∃l,∃m:Value,j=.tuple #[iV l,m]/\R (.tuple #[]) k))/\((g==1)=Tc->((g==4)=Ta->∃n,zd f (XT ⟨h.size,0,Te⟩ 1)=Td (.string n)/\XC Tp 253 #[.pointer L,.string n] f (λo p=>o=.tuple #[]/\R (.tuple #[]) p))/\((g==4)=Tc->((g==5)=Ta->∃q r s t,zf f ⟨h.size,0,Te⟩ 0 (tL q r s t)/\XC Tp 254 #[.pointer L,tA q r s t,iV J,.string (⟨#[91,93]⟩:Bt),.func (.func 255) #[.pointer L] #[]] f (λu v=>u=.tuple #[]/\R (.tuple #[]) v))/\((g==5)=Tc->((g==6)=Ta->∃w x y z,zf f ⟨h.size,0,Te⟩ 0 (tL w x y z)/\XC Tp 254 #[.pointer L,tA w x y z,iV J,.string (⟨#[123,125]⟩:Bt),.func (.func 256) #[.pointer L] #[]] f (λA B=>A=.tuple #[]/\R (.tuple #[]) B))/\((g==6)=Tc->∃C,L=Td C/\∃D,zd f (XT ⟨h.size,0,Te⟩ 1)=Td (.string D)/\XC Tp 68 #[.pointer (Td (XT C 0)),.string D] f (λE F=>∃G,∃I:Value,E=.tuple #[iV G,I]/\R (.tuple #[]) F)))))):
  XC Tp 201 #[.pointer L,.agg #[.int .i64 b,.string c,.slice d.a d.len d.cap,.slice e.a e.len e.cap],.int .i64 J] h R:=
 XF ⟨[(2,8000)],[],[]⟩ [] 42 Tryz.func201 H
theorem Wu(k:Option Addr)(s1:Bt)(h:zc)(R:Value->zc->Prop) (H:XC Tp 125 #[.string s1] h (λa b=>∃c d,a=.tuple #[.string c,iV d]/\∃e,k=Td e/\XC Tp 68 #[.pointer (Td (XT e 0)),.string c] b (λf g=>∃i,∃j:Value,f=.tuple #[iV i,j]/\R (.tuple #[]) g))):
  XC Tp 253 #[.pointer k,.string s1] h R:=
 XF ⟨[],[],[]⟩ [] 16 Tryz.func253 H
theorem Xh(V:Option Addr)(b:Int)(c:Bt)(d:Sl)(e:Sl)(P:Int)(Q:Bt)(S:FuncId)(U:Array Value)(T:Array Value)(h:zc)(R:Value->zc->Prop) (H:let f:=h.push (.cells #[iV b,.string c,aK d,aK e] 25);∃g,V=Td g/\(0<=(0:Int)/\(0:Int)<(Q.size:Int))/\XC Tp 133 #[.pointer (Td (XT g 0)),.int .u8 (ze Q (0:Int).toNat)] f (λi j=>∃k:Value,i=k/\∃l,zd j (XT ⟨h.size,0,Te⟩ 3)=Td (aK l)/\∃(m:Int->zc->Prop) (n:Int->zc->Nat),m 0 j/\∀o:Int,∀p:zc,m o p->((decide (o<l.len)=Ta->∀q:zc->Prop,(∀r:zc,(XC Tp 307 #[.pointer V,iV (XS .i64 (P+1))] r (λs t=>s=.tuple #[]/\∃u v w x,zf t ⟨h.size,0,Te⟩ 0 (tL u v w x)/\zm Tp S=Ta/\XC Tp S (U++#[tA u v w x,iV o,iV (XS .i64 (P+1))]++T) t (λy z=>y=.tuple #[]/\(m (XS .i64 (o+1)) z/\n (XS .i64 (o+1)) z<n o p))))->q r)->(decide (o>0)=Ta->∃A,V=Td A/\XC Tp 133 #[.pointer (Td (XT A 0)),.int .u8 44] p (λB C=>∃D:Value,B=D/\q C))/\(decide (o>0)=Tc->q p))/\(decide (o<l.len)=Tc->∀E:zc->Prop,(∀F:zc,(∃G,V=Td G/\(0<=(1:Int)/\(1:Int)<(Q.size:Int))/\XC Tp 133 #[.pointer (Td (XT G 0)),.int .u8 (ze Q (1:Int).toNat)] F (λI J=>∃L:Value,I=L/\R (.tuple #[]) J))->E F)->∃M,zd p (XT ⟨h.size,0,Te⟩ 3)=Td (aK M)/\(decide ((M.len:Int)>0)=Ta->XC Tp 307 #[.pointer V,iV P] p (λN O=>N=.tuple #[]/\E O))/\(decide ((M.len:Int)>0)=Tc->E p))))):
  XC Tp 254 #[.pointer V,.agg #[.int .i64 b,.string c,.slice d.a d.len d.cap,.slice e.a e.len e.cap],.int .i64 P,.string Q,.func (.func S) U T] h R:=
 XF ⟨[(1,8000),(12,8000)],[(3,[(20,.one (.int .i64))])],[(7,[]),(12,[])]⟩ [] 53 Tryz.func254 H
theorem Tu(t:Option Addr)(b:Int)(c:Bt)(d:Sl)(e:Sl)(r:Int)(p:Int)(h:zc)(R:Value->zc->Prop) (H:let f:=h.push (.cells #[iV b,.string c,aK d,aK e] 25);∃g,zd f (XT ⟨h.size,0,Te⟩ 3)=Td (aK g)/\∃i,(g.a=Td i/\0<=r/\r<g.len)/\∃j k l m,zf f (i.add (r.toNat*4)) 0 (tL j k l m)/\XC Tp 201 #[.pointer t,tA j k l m,iV p] f (λn o=>n=.tuple #[]/\R (.tuple #[]) o)):
  XC Tp 255 #[.pointer t,.agg #[.int .i64 b,.string c,.slice d.a d.len d.cap,.slice e.a e.len e.cap],.int .i64 r,.int .i64 p] h R:=
 XF ⟨[],[],[]⟩ [] 16 Tryz.func255 H
theorem Wv(J:Option Addr)(b:Int)(c:Bt)(d:Sl)(e:Sl)(I:Int)(G:Int)(h:zc)(R:Value->zc->Prop) (H:let f:=h.push (.cells #[iV b,.string c,aK d,aK e] 25);∃g,zd f (XT ⟨h.size,0,Te⟩ 2)=Td (aK g)/\∃i,(g.a=Td i/\0<=I/\I<g.len)/\∃j,zd f (i.add (I.toNat*1))=Td (.string j)/\XC Tp 253 #[.pointer J,.string j] f (λk l=>k=.tuple #[]/\∃m,J=Td m/\XC Tp 133 #[.pointer (Td (XT m 0)),.int .u8 58] l (λn o=>∃p:Value,n=p/\∀q:zc->Prop,(∀r:zc,(∃s,zd r (XT ⟨h.size,0,Te⟩ 3)=Td (aK s)/\∃t,(s.a=Td t/\0<=I/\I<s.len)/\∃u v w x,zf r (t.add (I.toNat*4)) 0 (tL u v w x)/\XC Tp 201 #[.pointer J,tA u v w x,iV G] r (λy z=>y=.tuple #[]/\R (.tuple #[]) z))->q r)->∃A,J=Td A/\∃B,zd o (XT A 2)=Td (.bool B)/\(B=Ta->∃C,J=Td C/\XC Tp 133 #[.pointer (Td (XT C 0)),.int .u8 32] o (λD E=>∃F:Value,D=F/\q E))/\(B=Tc->q o)))):
  XC Tp 256 #[.pointer J,.agg #[.int .i64 b,.string c,.slice d.a d.len d.cap,.slice e.a e.len e.cap],.int .i64 I,.int .i64 G] h R:=
 XF ⟨[],[],[(5,[])]⟩ [] 35 Tryz.func256 H
theorem MQ(t:Option Addr)(r:Int)(h:zc)(R:Value->zc->Prop) (H:∃a,t=Td a/\∃b,zd h (XT a 2)=Td (.bool b)/\(b=Ta->∃c,t=Td c/\XC Tp 133 #[.pointer (Td (XT c 0)),.int .u8 10] h (λd e=>∃f:Value,d=f/\∃g,t=Td g/\∃i,t=Td i/\∃j,zd e (XT i 3)=Td (iV j)/\XC Tp 200 #[.string (⟨#[32]⟩:Bt),iV (XS .i64 (j*r))] e (λk l=>∃m,k=.string m/\XC Tp 68 #[.pointer (Td (XT g 0)),.string m] l (λn o=>∃p,∃q:Value,n=.tuple #[iV p,q]/\R (.tuple #[]) o))))/\(b=Tc->R (.tuple #[]) h)):
  XC Tp 307 #[.pointer t,.int .i64 r] h R:=
 XF ⟨[(2,8000)],[],[]⟩ [] 23 Tryz.func307 H
theorem Uz(b:Int)(c:Bt)(d:Sl)(e:Sl)(h:zc)(R:Value->zc->Prop) (H:let f:=h.push (.cells #[iV b,.string c,aK d,aK e] 25);let g:=f.push (.cells tC 25);∃i j k l,zf g ⟨h.size,0,Te⟩ 0 (tL i j k l)/\XC Tp 83 #[tA i j k l] g (λm n=>∃o,m=.bool o/\((!o)=Ta->XRunU Tp (YG 25 (.pointer (Td ⟨f.size,0,Te⟩)) (tZ)) n (λp=>∃q r s t,zf p ⟨f.size,0,Te⟩ 0 (tL q r s t)/\R (tA q r s t) p))/\((!o)=Tc->∃u v w x,zf n ⟨h.size,0,Te⟩ 0 (tL u v w x)/\XC Tp 101 #[tA u v w x] n (λy z=>∃A B C D,y=tA A B C D/\XRunU Tp (YG 25 (.pointer (Td ⟨f.size,0,Te⟩)) (tA A B C D)) z (λE=>∃F G I J,zf E ⟨f.size,0,Te⟩ 0 (tL F G I J)/\R (tA F G I J) E))))):
  XC Tp 56 #[.agg #[.int .i64 b,.string c,.slice d.a d.len d.cap,.slice e.a e.len e.cap]] h R:=
 XF ⟨[],[],[]⟩ [.cell 2 25] 9 Tryz.func56 H
theorem RA(b:Int)(c:Bt)(d:Sl)(e:Sl)(h:zc)(R:Value->zc->Prop) (H:let f:=h.push (.cells #[iV b,.string c,aK d,aK e] 25);let g:=f.push (.cells tC 25);∃i,zd g (XT ⟨h.size,0,Te⟩ 0)=Td (iV i)/\∃j,zd g (XT ⟨h.size,0,Te⟩ 1)=Td (.string j)/\let k:=g.push (.cells tC 25);XRunU Tp (YG 25 (.pointer (Td ⟨g.size,0,Te⟩)) (.agg #[iV i,.string j,.slice Te 0 0,.slice Te 0 0])) k (λl=>∃m,zd l (XT ⟨h.size,0,Te⟩ 0)=Td (iV m)/\((m != 6)=Ta->∃n,zd l (XT ⟨h.size,0,Te⟩ 3)=Td (aK n)/\∃(o:Int->zc->Prop) (p:Int->zc->Nat),o 0 l/\∀q:Int,∀r:zc,o q r->((decide (q<n.len)=Ta->∃s,(n.a=Td s/\0<=q/\q<n.len)/\∃t u v w,zf r (s.add (q.toNat*4)) 0 (tL t u v w)/\let x:=r.push (.cells tC 25);XRunU Tp (YG 25 (.pointer (Td ⟨r.size,0,Te⟩)) (tA t u v w)) x (λy=>∃z,zd y (XT ⟨g.size,0,Te⟩ 3)=Td (aK z)/\∃A B C D,zf y ⟨r.size,0,Te⟩ 0 (tL A B C D)/\XC Tp 101 #[tA A B C D] y (λE F=>∃G I J L,E=tA G I J L/\(F)[((XT ⟨g.size,0,Te⟩ 3):Addr).block]?=(y)[((XT ⟨g.size,0,Te⟩ 3):Addr).block]?/\let M:=F.push (.cells #[iV G,.string I,aK J,aK L] 25);(M)[((XT ⟨g.size,0,Te⟩ 3):Addr).block]?=(y)[((XT ⟨g.size,0,Te⟩ 3):Addr).block]?/\yp Tp (YO #[23,23] 23 #[aK z,.slice (Td ⟨F.size,0,Te⟩) 1 1]) M (λN O=>∃P,N=aK P/\XRunU Tp (YG 23 (.pointer (Td (XT ⟨g.size,0,Te⟩ 3))) (aK P)) O (λQ=>(o (XS .i64 (q+1)) Q/\p (XS .i64 (q+1)) Q<p q r))))))/\(decide (q<n.len)=Tc->∃S T U V,zf r ⟨g.size,0,Te⟩ 0 (tL S T U V)/\XRunU Tp (YG 25 (.pointer (Td ⟨f.size,0,Te⟩)) (tA S T U V)) r (λW=>∃X Y Z aa,zf W ⟨f.size,0,Te⟩ 0 (tL X Y Z aa)/\R (tA X Y Z aa) W))))/\((m != 6)=Tc->∃ab ac ad ae,zf l ⟨h.size,0,Te⟩ 0 (tL ab ac ad ae)/\XC Tp 142 #[tA ab ac ad ae] l (λaf ag=>∃ah:Option Nat,af=.map ah/\XC Tp 162 #[.map ah] ag (λai aj=>∃ak:Value,ai=ak/\XC Tp 161 #[ak] aj (λal am=>∃an,al=aK an/\XRunU Tp (YG 22 (.pointer (Td (XT ⟨g.size,0,Te⟩ 2))) (aK an)) am (λao=>∃ap,zd ao (XT ⟨g.size,0,Te⟩ 2)=Td (aK ap)/\∃(aq:Int->zc->Prop) (ar:Int->zc->Nat),aq 0 ao/\∀au:Int,∀av:zc,aq au av->((decide (au<ap.len)=Ta->∃aw,(ap.a=Td aw/\0<=au/\au<ap.len)/\∃ax,zd av (aw.add (au.toNat*1))=Td (.string ax)/\∃ay,zd av (XT ⟨g.size,0,Te⟩ 3)=Td (aK ay)/\∃az aA aB aC,QExec Tp (zbe 144 (.map ah) (.string ax) Tc) av (tA az aA aB aC)/\(av)[((XT ⟨g.size,0,Te⟩ 3):Addr).block]?=(av)[((XT ⟨g.size,0,Te⟩ 3):Addr).block]?/\XC Tp 101 #[tA az aA aB aC] av (λaD aE=>∃aF aG aH aI,aD=tA aF aG aH aI/\(aE)[((XT ⟨g.size,0,Te⟩ 3):Addr).block]?=(av)[((XT ⟨g.size,0,Te⟩ 3):Addr).block]?/\let aJ:=aE.push (.cells #[iV aF,.string aG,aK aH,aK aI] 25);(aJ)[((XT ⟨g.size,0,Te⟩ 3):Addr).block]?=(av)[((XT ⟨g.size,0,Te⟩ 3):Addr).block]?/\yp Tp (YO #[23,23] 23 #[aK ay,.slice (Td ⟨aE.size,0,Te⟩) 1 1]) aJ (λaL aM=>∃aN,aL=aK aN/\XRunU Tp (YG 23 (.pointer (Td (XT ⟨g.size,0,Te⟩ 3))) (aK aN)) aM (λaO=>(aq (XS .i64 (au+1)) aO/\ar (XS .i64 (au+1)) aO<ar au av)))))/\(decide (au<ap.len)=Tc->∃aP aQ aS aT,zf av ⟨g.size,0,Te⟩ 0 (tL aP aQ aS aT)/\XRunU Tp (YG 25 (.pointer (Td ⟨f.size,0,Te⟩)) (tA aP aQ aS aT)) av (λaU=>∃aV aW aX aY,zf aU ⟨f.size,0,Te⟩ 0 (tL aV aW aX aY)/\R (tA aV aW aX aY) aU)))))))))):
  XC Tp 101 #[.agg #[.int .i64 b,.string c,.slice d.a d.len d.cap,.slice e.a e.len e.cap]] h R:=
 XF ⟨[(6,8000),(14,8000)],[(4,[(20,.one (.int .i64))]),(12,[(42,.one (.int .i64))])],[]⟩ [.cell 2 25] 57 Tryz.func101 H
theorem Ud(b:Int)(c:Bt)(d:Sl)(e:Sl)(h:zc)(R:Value->zc->Prop) (H:let f:=h.push (.cells #[iV b,.string c,aK d,aK e] 25);∃g,zd f (XT ⟨h.size,0,Te⟩ 2)=Td (aK g)/\let i:=f.push (.map #[] 0);∃j,zd i (XT ⟨h.size,0,Te⟩ 2)=Td (aK j)/\∃(k:Int->zc->Prop) (l:Int->zc->Nat),k 0 i/\∀m:Int,∀n:zc,k m n->((decide (m<j.len)=Ta->∃o,(j.a=Td o/\0<=m/\m<j.len)/\∃p,zd n (o.add (m.toNat*1))=Td (.string p)/\∃q,zd n (XT ⟨h.size,0,Te⟩ 3)=Td (aK q)/\∃r,(q.a=Td r/\0<=m/\m<q.len)/\∃s t u v,zf n (r.add (m.toNat*4)) 0 (tL s t u v)/\XRunU Tp (zbc 144 (.map (Td f.size)) (.string p) (tA s t u v)) n (λw=>(k (XS .i64 (m+1)) w/\l (XS .i64 (m+1)) w<l m n)))/\(decide (m<j.len)=Tc->R (.map (Td f.size)) n))):
  XC Tp 142 #[.agg #[.int .i64 b,.string c,.slice d.a d.len d.cap,.slice e.a e.len e.cap]] h R:=
 XF ⟨[],[(3,[(13,.one (.int .i64))])],[]⟩ [.tmp 2] 27 Tryz.func142 H
theorem VU(b:Int)(c:Bt)(d:Sl)(e:Sl)(h:zc)(R:Value->zc->Prop) (H:let f:=h.push (.cells #[iV b,.string c,aK d,aK e] 25);∃g i j k,zf f ⟨h.size,0,Te⟩ 0 (tL g i j k)/\XC Tp 86 #[tA g i j k] f (λl m=>∃n,l=.bool n/\∃o p q r,(n=Ta->zf m ⟨h.size,0,Te⟩ 0 (tL o p q r))/\∃s:Value->zc->Prop,(n=Ta->XC Tp 87 #[tA o p q r,.func (.func 88) #[] #[]] m (λt u=>∃v,t=.bool v/\s (.bool v) u))/\(n=Tc->∃w,s (.bool w) m)/\(n=Ta->∀x y,s x y->∃z,x=.bool z)/\∀A:Bool,∀B,s (.bool A) B->R (.bool (bif n then A else Tc)) B)):
  XC Tp 49 #[.agg #[.int .i64 b,.string c,.slice d.a d.len d.cap,.slice e.a e.len e.cap]] h R:=
 XF ⟨[],[],[]⟩ [.tmp 2] 9 Tryz.func49 H
end
section
variable {gl:Fr} {v:Tr} {R:Bool -> Prop}
theorem MZ(f:GL gl)(i:Sm v)(h:R (decide (v.kind≠7)&&zl v)):PC Tp gl 88 [Arg.mk .tree v] [.bool] R:=by
 apply RQ;simp only[j7];refine⟨λb=>b=zl v,λ_=>HV f i rfl,λb c=>?_⟩;cases hk:(v.kind != 7)with
 |false=>
  have e:v.kind=7:=by simpa using hk
  have:(decide (v.kind≠7)&&zl v)=Tc:=by simp[e]
  rw[this]at h;simpa[hk]using h
 |true=>
  have e:v.kind≠7:=by simpa using hk
  have c:=c hk;subst c;have:(decide (v.kind≠7)&&zl v)=zl v:=by simp[e]
  rw[this]at h;simpa[hk]using h
theorem Jq(I:GL gl)(E:Sm v)(o:R (zn v)):PC Tp gl 49 [Arg.mk .tree v] [.bool] R:=by
 intro h M vs D ag T
 match vs,T with
 |[u],⟨n,_⟩=>
  have n:RdV M .tree v u:=n;have m:=n;obtain⟨sk,si,rfl,U,Y⟩:=qn n;apply PX.of;apply VU v.kind v.text sk si;intro h1;have t:Later h M h1 M:=Later.push ag _;have s1:h1.size=h.size+1:=XY _;have f:∀h':zc,Keep h1.size h1 h'->zf h' ⟨h.size,0,Te⟩ 0 [.int .i64 v.kind,.string v.text,aK sk,aK si]:=λh' k=>pY (h':=h') (by rw[s1]at k;exact k);clear_value h1;refine⟨v.kind,v.text,sk,si,f h1 (Keep.refl _ _),?_⟩;have z:PC Tp gl 86 [Arg.mk .tree v] [.bool] (λr=>r=Zd v):=CJ E rfl;refine z.go (vs:=[.agg #[.int .i64 v.kind,.string v.text,aK sk,aK si]]) (D.trans t.le) t.ag (qk (RdV.mono t.le m) ym) λw G P r A j O=>?_;refine⟨r,ib j,v.kind,v.text,sk,si,λ_=>f G A.keep,?_⟩;have c:=t.trans A;refine⟨λw y=>∃b,w=.bool b/\(r=Ta->b=Zk (λx=>decide (x.kind≠7)&&zl x) v)/\∃C,Later h M y C,λS=>?_,λl=>⟨Ta,Ta,rfl,λe=>(by rw[e]at l;cases l),P,c⟩,λ_ w y ⟨b,e,_⟩=>⟨b,e⟩,?_⟩;refine(Fj (F:=88) (by kernel_rfl) (p:=λx=>decide (x.kind≠7)&&zl x) (λx Q=>MZ I Q rfl) v E (D.trans c.le) A.ag (RdV.mono c.le m)).go λw V L b J i B=>⟨b,ib i,b,rfl,λ_=>B,L,c.trans J⟩;rintro b y ⟨b',e,H,C,N⟩;cases e;refine⟨C,_,N,Y2.2 (rdBool _),?_⟩;unfold zn at o;rw[<-O]at o;cases r with
  |false=>exact o
  |true=>rw[zI,H rfl];exact o
end
section
def Bm(P:Program)(t:TypeId)(n:Nat)(u:Value)(h:zc)(K:Value->zc->Prop):Prop:=
 mM P (do let x <-Instr.buildSlice t n #[(0,u)];pure (zcp x)) h λb h'=>match b with
  |.value v=>K v h'
  |.skip=>K undef h'
  |_=>False
end
section
theorem Uk(b:Int)(c:Bt)(d:Sl)(e:Sl)(h:zc)(R:Value->zc->Prop) (H:let f:=h.push (.cells #[iV b,.string c,aK d,aK e] 25);let g:=f.push (.cells #[.slice Te 0 0,.slice Te 0 0] 31);∃i j k l,zf g ⟨h.size,0,Te⟩ 0 (tL i j k l)/\XC Tp 49 #[tA i j k l] g (λm n=>∃o,m=.bool o/\((!o)=Ta->XRunU Tp (YG 31 (.pointer (Td ⟨f.size,0,Te⟩)) (.agg #[.slice Te 0 0,.slice Te 0 0])) n (λp=>∃q r,zf p ⟨f.size,0,Te⟩ 0 [aK q,aK r]/\R (.tuple #[.agg #[aK q,aK r],iV 1]) p))/\((!o)=Tc->let s:=n.push (.cells #[.slice Te 0 0,.slice Te 0 0] 69);∃t u v w,zf s ⟨h.size,0,Te⟩ 0 (tL t u v w)/\XC Tp 56 #[tA t u v w] s (λx y=>∃z A B C,x=tA z A B C/\XC Tp 55 #[.pointer (Td ⟨n.size,0,Te⟩),tA z A B C] y (λD E=>D=.tuple #[]/\∃F,zd E (XT (XT ⟨n.size,0,Te⟩ 0) 0)=Td (aK F)/\(decide ((F.len:Int)>512)=Ta->XRunU Tp (YG 31 (.pointer (Td ⟨f.size,0,Te⟩)) (.agg #[.slice Te 0 0,.slice Te 0 0])) E (λG=>∃I J,zf G ⟨f.size,0,Te⟩ 0 [aK I,aK J]/\R (.tuple #[.agg #[aK I,aK J],iV 6]) G))/\(decide ((F.len:Int)>512)=Tc->∃L M,zf E (XT ⟨n.size,0,Te⟩ 0) 0 [aK L,aK M]/\XRunU Tp (YG 31 (.pointer (Td ⟨f.size,0,Te⟩)) (.agg #[aK L,aK M])) E (λN=>∃O P,zf N ⟨f.size,0,Te⟩ 0 [aK O,aK P]/\R (.tuple #[.agg #[aK O,aK P],iV 0]) N))))))):
  XC Tp 14 #[.agg #[.int .i64 b,.string c,.slice d.a d.len d.cap,.slice e.a e.len e.cap]] h R:=
 XF ⟨[],[],[]⟩ [.cell 2 31,.tmp 3] 20 Tryz.func14 H
theorem Sw(b:Sl)(c:Sl)(h:zc)(R:Value->zc->Prop) (H:let d:=h.push (.cells #[aK b,aK c] 31);∃e f,zf d ⟨h.size,0,Te⟩ 0 [aK e,aK f]/\XC Tp 21 #[.agg #[aK e,aK f]] d (λg i=>∃j,g=.bool j/\((!j)=Ta->R (.slice Te 0 0) i)/\((!j)=Tc->let k:=i.push (.map #[] 0);∃l,zd k (XT ⟨h.size,0,Te⟩ 1)=Td (aK l)/\∃(m:Int->zc->Prop) (n:Int->zc->Nat),m 0 k/\∀o:Int,∀p:zc,m o p->((decide (o<l.len)=Ta->∃q,(l.a=Td q/\0<=o/\o<l.len)/\∃r,zd p (q.add (o.toNat*1))=Td (iV r)/\XRunU Tp (zbc 79 (.map (Td i.size)) (iV r) (iV o)) p (λs=>(m (XS .i64 (o+1)) s/\n (XS .i64 (o+1)) s<n o p)))/\(decide (o<l.len)=Tc->yp Tp (zdg 79 (.map (Td i.size))) p (λt u=>∃v:Option Addr,t=.pointer v/\∃(w:Sl->zc->Prop) (x:Sl->zc->Nat),w (⟨Te,0,0⟩:Sl) u/\∀y:Sl,∀z:zc,w y z->(yp Tp (zcg (.pointer v) Tc 0) z (λA B=>(A=.tuple #[.bool Tc]/\(Tc=Ta->yp Tp (zc3 (.pointer v)) B (λC D=>∃E F:Value,C=.tuple #[E,F]/\Bm Tp 29 1 F D (λG I=>yp Tp (YO #[29,29] 29 #[aK y,G]) I (λJ L=>∃M,J=aK M/\(w M L/\x M L<x y z)))))/\(Tc=Tc->XC Tp 64 #[aK y] B (λN O=>N=.tuple #[]/\R (aK y) O)))\/∃P Q:Value,A=.tuple #[.bool Ta,P,Q]/\(Ta=Ta->yp Tp (zc3 (.pointer v)) B (λS T=>∃U V:Value,S=.tuple #[U,V]/\Bm Tp 29 1 V T (λW X=>yp Tp (YO #[29,29] 29 #[aK y,W]) X (λY Z=>∃aa,Y=aK aa/\(w aa Z/\x aa Z<x y z)))))/\(Ta=Tc->XC Tp 64 #[aK y] B (λab ac=>ab=.tuple #[]/\R (aK y) ac)))))))))):
  XC Tp 28 #[.agg #[.slice b.a b.len b.cap,.slice c.a c.len c.cap]] h R:=
 XF ⟨[],[(5,[(16,.one (.int .i64))]),(11,[(6,.one (.sl))])],[]⟩ [.tmp 2] 38 Tryz.func28 H
theorem UW(b0:Option Addr)(b:Int)(c:Bt)(d:Sl)(e:Sl)(h:zc)(R:Value->zc->Prop) (H:let f:=h.push (.cells #[.pointer b0] 112);let g:=f.push (.cells #[iV b,.string c,aK d,aK e] 25);∃i,zd g (XT ⟨f.size,0,Te⟩ 0)=Td (iV i)/\((i==5)=Ta->∃j:Option Addr,zd g ⟨h.size,0,Te⟩=Td (.pointer j)/\XC Tp 94 #[.pointer j,.string (⟨#[91]⟩:Bt),.func (.func 95) #[] #[.pointer (Td ⟨f.size,0,Te⟩),.pointer (Td ⟨h.size,0,Te⟩)]] g (λk l=>k=.tuple #[]/\R (.tuple #[]) l))/\((i==5)=Tc->((i==6)=Ta->∃m:Option Addr,zd g ⟨h.size,0,Te⟩=Td (.pointer m)/\XC Tp 94 #[.pointer m,.string (⟨#[123]⟩:Bt),.func (.func 96) #[] #[.pointer (Td ⟨f.size,0,Te⟩),.pointer (Td ⟨h.size,0,Te⟩)]] g (λn o=>n=.tuple #[]/\R (.tuple #[]) o))/\((i==6)=Tc->∃p:Option Addr,zd g ⟨h.size,0,Te⟩=Td (.pointer p)/\∃q r s t,zf g ⟨f.size,0,Te⟩ 0 (tL q r s t)/\XC Tp 97 #[tA q r s t] g (λu v=>∃w,u=.string w/\(v)[(⟨h.size,0,Te⟩:Addr).block]?=(g)[(⟨h.size,0,Te⟩:Addr).block]?/\XC Tp 94 #[.pointer p,.string w,.func (.func 100) #[] #[]] v (λx y=>x=.tuple #[]/\R (.tuple #[]) y))))):
  XC Tp 55 #[.pointer b0,.agg #[.int .i64 b,.string c,.slice d.a d.len d.cap,.slice e.a e.len e.cap]] h R:=
 XF ⟨[(2,8000)],[],[]⟩ [] 20 Tryz.func55 H
theorem VP(b:Sl)(c:Sl)(h:zc)(R:Value->zc->Prop) (H:let d:=h.push (.cells #[aK b,aK c] 31);∃e,zd d (XT ⟨h.size,0,Te⟩ 0)=Td (aK e)/\∃f,zd d (XT ⟨h.size,0,Te⟩ 1)=Td (aK f)/\∃g,((!((e.len:Int) != (f.len:Int)))=Ta->zd d (XT ⟨h.size,0,Te⟩ 0)=Td (aK g))/\((bif ((e.len:Int) != (f.len:Int))then Ta else(decide ((g.len:Int)>512)))=Ta->R (.tuple #[.slice Te 0 0,.bool Tc]) d)/\((bif ((e.len:Int) != (f.len:Int))then Ta else(decide ((g.len:Int)>512)))=Tc->∃i,zd d (XT ⟨h.size,0,Te⟩ 1)=Td (aK i)/\yp Tp (ZW 29 (iV (i.len:Int)) (iV (i.len:Int))) d (λj k=>∃l,j=aK l/\∃m,zd k (XT ⟨h.size,0,Te⟩ 1)=Td (aK m)/\∃(n:Sl->Int->zc->Prop) (o:Sl->Int->zc->Nat),n (⟨Te,0,0⟩:Sl) 0 k/\∀p:Sl,∀q:Int,∀r:zc,n p q r->((decide (q<m.len)=Ta->∃s,(m.a=Td s/\0<=q/\q<m.len)/\∃t,zd r (s.add (q.toNat*1))=Td (iV t)/\((bif (decide (t<0))then Ta else(decide (t>q)))=Ta->R (.tuple #[.slice Te 0 0,.bool Tc]) r)/\((bif (decide (t<0))then Ta else(decide (t>q)))=Tc->∃(u:Sl->zc->Prop) (w:Sl->zc->Nat),u p r/\∀x:Sl,∀y:zc,u x y->(∃z,(decide ((x.len:Int)>0)=Ta->(x.a=Td z/\0<=(XS .i64 ((x.len:Int)-1))/\(XS .i64 ((x.len:Int)-1))<(x.len:Int)))/\∃A,(decide ((x.len:Int)>0)=Ta->zd y (z.add ((XS .i64 ((x.len:Int)-1)).toNat*1))=Td (iV A))/\((bif (decide ((x.len:Int)>0))then(decide (A>=t))else Tc)=Ta->∃B,(x.a=Td B/\0<=(XS .i64 ((x.len:Int)-1))/\(XS .i64 ((x.len:Int)-1))<(x.len:Int))/\∃C,zd y (B.add ((XS .i64 ((x.len:Int)-1)).toNat*1))=Td (iV C)/\∃D,zd y (XT ⟨h.size,0,Te⟩ 1)=Td (aK D)/\∃E,(D.a=Td E/\0<=C/\C<D.len)/\∃F,zd y (E.add (C.toNat*1))=Td (iV F)/\(decide (F<t)=Ta->R (.tuple #[.slice Te 0 0,.bool Tc]) y)/\(decide (F<t)=Tc->∃G,(l.a=Td G/\0<=C/\C<l.len)/\let I:zc->Prop:=λ(J:zc)=>((u (⟨iG x.a 1 ((0:Int).toNat) ((x.cap:Int).toNat),(XS .i64 ((x.len:Int)-1)).toNat-(0:Int).toNat,(x.cap:Int).toNat-(0:Int).toNat⟩:Sl) J/\w (⟨iG x.a 1 ((0:Int).toNat) ((x.cap:Int).toNat),(XS .i64 ((x.len:Int)-1)).toNat-(0:Int).toNat,(x.cap:Int).toNat-(0:Int).toNat⟩:Sl) J<w x y));(((Te:Option Value)=Te\/∃v,(Td (iV (XS .i64 ((x.len:Int)-1))):Option Value)=Td v)/\(0<=(0:Int)/\(0:Int)<=(XS .i64 ((x.len:Int)-1))/\(XS .i64 ((x.len:Int)-1))<=(x.cap:Int)/\(x.cap:Int)<=(x.cap:Int))/\XRunU Tp (YG 3 (.pointer (Td (G.add (C.toNat*1)))) (iV q)) y (λL=>I L))/\(XRunU Tp (YG 3 (.pointer (Td (G.add (C.toNat*1)))) (iV q)) y (λM=>((Te:Option Value)=Te\/∃v,(Td (iV (XS .i64 ((x.len:Int)-1))):Option Value)=Td v)/\(0<=(0:Int)/\(0:Int)<=(XS .i64 ((x.len:Int)-1))/\(XS .i64 ((x.len:Int)-1))<=(x.cap:Int)/\(x.cap:Int)<=(x.cap:Int))/\I M))))/\((bif (decide ((x.len:Int)>0))then(decide (A>=t))else Tc)=Tc->∃N,(l.a=Td N/\0<=q/\q<l.len)/\XRunU Tp (YG 3 (.pointer (Td (N.add (q.toNat*1)))) (iV (-1))) y (λO=>let P:=O.push (.cells #[iV q] 3);yp Tp (YO #[29,29] 29 #[aK x,.slice (Td ⟨O.size,0,Te⟩) 1 1]) P (λQ S=>∃T,Q=aK T/\(n T (XS .i64 (q+1)) S/\o T (XS .i64 (q+1)) S<o p q r)))))))/\(decide (q<m.len)=Tc->R (.tuple #[aK l,.bool Ta]) r))))):
  XC Tp 60 #[.agg #[.slice b.a b.len b.cap,.slice c.a c.len c.cap]] h R:=
 XF ⟨[(14,8000)],[(6,[(5,.one (.sl)),(29,.one (.int .i64))]),(10,[(5,.one (.sl))])],[]⟩ [.tmp 2,.tmp 3] 85 Tryz.func60 H
theorem UX(b:Int)(c:Bt)(d:Sl)(e:Sl)(f:Int)(g:Bt)(i:Sl)(j:Sl)(h:zc)(R:Value->zc->Prop) (H:let k:=h.push (.cells #[iV b,.string c,aK d,aK e] 25);let l:=k.push (.cells #[iV f,.string g,aK i,aK j] 25);∀m:Bool->zc->Prop,(∀n:Bool,∀o:zc,((n=Ta->R (.bool Tc) o)/\(n=Tc->∃p,zd o (XT ⟨h.size,0,Te⟩ 0)=Td (iV p)/\((p != 6)=Ta->∃q,zd o (XT ⟨h.size,0,Te⟩ 3)=Td (aK q)/\∃r,zd o (XT ⟨k.size,0,Te⟩ 3)=Td (aK r)/\XC Tp 140 #[aK q,aK r,.func (.func 84) #[] #[]] o (λs t=>∃u,s=.bool u/\R (.bool u) t))/\((p != 6)=Tc->∃v w x y,zf o ⟨h.size,0,Te⟩ 0 (tL v w x y)/\∃z A B C,zf o ⟨k.size,0,Te⟩ 0 (tL z A B C)/\XC Tp 142 #[tA v w x y] o (λD E=>∃F:Option Nat,D=.map F/\(E)[(⟨k.size,0,Te⟩:Addr).block]?=(o)[(⟨k.size,0,Te⟩:Addr).block]?/\XC Tp 142 #[tA z A B C] E (λG I=>∃J:Option Nat,G=.map J/\XC Tp 141 #[.map F,.map J,.func (.func 84) #[] #[]] I (λL M=>∃N,L=.bool N/\R (.bool N) M))))))->m n o)->∃O,zd l (XT ⟨h.size,0,Te⟩ 0)=Td (iV O)/\∃P,zd l (XT ⟨k.size,0,Te⟩ 0)=Td (iV P)/\((O != P)=Ta->m (O != P) l)/\((O != P)=Tc->∃Q,zd l (XT ⟨h.size,0,Te⟩ 1)=Td (.string Q)/\∃S,zd l (XT ⟨k.size,0,Te⟩ 1)=Td (.string S)/\((!(Q.toList==S.toList))=Ta->m (!(Q.toList==S.toList)) l)/\((!(Q.toList==S.toList))=Tc->∃T,zd l (XT ⟨h.size,0,Te⟩ 3)=Td (aK T)/\∃U,zd l (XT ⟨k.size,0,Te⟩ 3)=Td (aK U)/\m ((T.len:Int) != (U.len:Int)) l))):
  XC Tp 84 #[.agg #[.int .i64 b,.string c,.slice d.a d.len d.cap,.slice e.a e.len e.cap],.agg #[.int .i64 f,.string g,.slice i.a i.len i.cap,.slice j.a j.len j.cap]] h R:=
 XF ⟨[(7,8000)],[],[(4,[(5,.one (.bool))])]⟩ [.tmp 4] 37 Tryz.func84 H
theorem Va(b0:Option Addr)(O:Bt)(P:FuncId)(S:Array Value)(Q:Array Value)(h:zc)(R:Value->zc->Prop) (H:∃b,b0=Td b/\∃c,zd h (XT (XT b 0) 0)=Td (aK c)/\zm Tp P=Ta/\XC Tp P (S++#[]++Q) h (λd e=>d=.tuple #[]/\∃f,b0=Td f/\∃g,zd e (XT (XT f 0) 0)=Td (aK g)/\(decide ((g.len:Int)<=512)=Ta->∃i,b0=Td i/\∃j,zd e (XT (XT i 0) 0)=Td (aK j)/\∃k,b0=Td k/\∃l,zd e (XT (XT k 0) 1)=Td (aK l)/\let m:Sl->Sl->zc->Prop:=λ(n:Sl) (o:Sl) (p:zc)=>(yp Tp (YO #[29,29] 29 #[aK l,aK n]) p (λq r=>∃s,q=aK s/\∃t,b0=Td t/\XRunU Tp (YG 22 (.pointer (Td (XT (XT t 0) 0))) (aK o)) r (λu=>∃v,b0=Td v/\XRunU Tp (YG 29 (.pointer (Td (XT (XT v 0) 1))) (aK s)) u (λw=>R (.tuple #[]) w))));let x:Sl->Sl->zc->Prop:=λ(y:Sl) (z:Sl) (A:zc)=>(yp Tp (YO #[22,22] 22 #[aK j,aK z]) A (λB C=>∃D,B=aK D/\(C)[((XT (XT k 0) 1):Addr).block]?=(e)[((XT (XT k 0) 1):Addr).block]?/\m y D C));(let E:=e.push (.cells #[.string O] 9);(E)[((XT (XT k 0) 1):Addr).block]?=(e)[((XT (XT k 0) 1):Addr).block]?/\(E)[((XT (XT i 0) 0):Addr).block]?=(e)[((XT (XT i 0) 0):Addr).block]?/\(yp Tp (YO #[22,22] 22 #[aK j,.slice (Td ⟨e.size,0,Te⟩) 1 1]) E (λF G=>∃I,F=aK I/\(G)[((XT (XT k 0) 1):Addr).block]?=(e)[((XT (XT k 0) 1):Addr).block]?/\let J:=G.push (.cells #[iV (c.len:Int)] 3);(J)[((XT (XT k 0) 1):Addr).block]?=(e)[((XT (XT k 0) 1):Addr).block]?/\m (⟨Td ⟨G.size,0,Te⟩,1,1⟩:Sl) I J))/\(let L:=E.push (.cells #[iV (c.len:Int)] 3);(L)[((XT (XT k 0) 1):Addr).block]?=(e)[((XT (XT k 0) 1):Addr).block]?/\(L)[((XT (XT i 0) 0):Addr).block]?=(e)[((XT (XT i 0) 0):Addr).block]?/\x (⟨Td ⟨E.size,0,Te⟩,1,1⟩:Sl) (⟨Td ⟨e.size,0,Te⟩,1,1⟩:Sl) L))/\(let M:=e.push (.cells #[iV (c.len:Int)] 3);(M)[((XT (XT k 0) 1):Addr).block]?=(e)[((XT (XT k 0) 1):Addr).block]?/\(M)[((XT (XT i 0) 0):Addr).block]?=(e)[((XT (XT i 0) 0):Addr).block]?/\let N:=M.push (.cells #[.string O] 9);(N)[((XT (XT k 0) 1):Addr).block]?=(e)[((XT (XT k 0) 1):Addr).block]?/\(N)[((XT (XT i 0) 0):Addr).block]?=(e)[((XT (XT i 0) 0):Addr).block]?/\x (⟨Td ⟨e.size,0,Te⟩,1,1⟩:Sl) (⟨Td ⟨M.size,0,Te⟩,1,1⟩:Sl) N))/\(decide ((g.len:Int)<=512)=Tc->R (.tuple #[]) e))):
  XC Tp 94 #[.pointer b0,.string O,.func (.func P) S Q] h R:=
 XF ⟨[(3,8000)],[],[]⟩ [] 46 Tryz.func94 H
theorem Ww(w:Addr)(c1:Addr)(h:zc)(R:Value->zc->Prop) (H:∃b,zd h (XT w 3)=Td (aK b)/\∃(c:Int->zc->Prop) (d:Int->zc->Nat),c 0 h/\∀e:Int,∀f:zc,c e f->((decide (e<b.len)=Ta->∃g,(b.a=Td g/\0<=e/\e<b.len)/\∃i j k l,zf f (g.add (e.toNat*4)) 0 (tL i j k l)/\let m:=f.push (.cells tC 25);XRunU Tp (YG 25 (.pointer (Td ⟨f.size,0,Te⟩)) (tA i j k l)) m (λn=>∃o:Option Addr,zd n c1=Td (.pointer o)/\∃p q r s,zf n ⟨f.size,0,Te⟩ 0 (tL p q r s)/\XC Tp 55 #[.pointer o,tA p q r s] n (λt u=>t=.tuple #[]/\(c (XS .i64 (e+1)) u/\d (XS .i64 (e+1)) u<d e f))))/\(decide (e<b.len)=Tc->R (.tuple #[]) f))):
  XC Tp 95 #[.pointer (Td w),.pointer (Td c1)] h R:=
 XF ⟨[],[(1,[(7,.one (.int .i64))])],[]⟩ [] 15 Tryz.func95 H
theorem Wx(Y:Addr)(c1:Addr)(h:zc)(R:Value->zc->Prop) (H:∃b,zd h (XT Y 3)=Td (aK b)/\∃(c:Int->zc->Prop) (d:Int->zc->Nat),c 0 h/\∀e:Int,∀f:zc,c e f->((decide (e<b.len)=Ta->∃g,(b.a=Td g/\0<=e/\e<b.len)/\∃i j k l,zf f (g.add (e.toNat*4)) 0 (tL i j k l)/\let m:=f.push (.cells tC 25);XRunU Tp (YG 25 (.pointer (Td ⟨f.size,0,Te⟩)) (tA i j k l)) m (λn=>∃o:Option Addr,zd n c1=Td (.pointer o)/\∃p,zd n (XT Y 2)=Td (aK p)/\∃q,(p.a=Td q/\0<=e/\e<p.len)/\∃r,zd n (q.add (e.toNat*1))=Td (.string r)/\let s:Bt->zc->Prop:=λt (u:zc)=>(XC Tp 94 #[.pointer o,.string t,.func (.func 99) #[] #[.pointer (Td c1),.pointer (Td ⟨f.size,0,Te⟩)]] u (λv w=>v=.tuple #[]/\(c (XS .i64 (e+1)) w/\d (XS .i64 (e+1)) w<d e f)));let x:Int->Bt->Sl->Sl->zc->Prop:=λy z (A:Sl) (B:Sl) (C:zc)=>(XC Tp 97 #[tA y z A B] C (λD E=>∃F,D=.string F/\zw (((⟨#[107]⟩:Bt)).size+F.size)/\(E)[(c1:Addr).block]?=(n)[(c1:Addr).block]?/\s ((⟨#[107]⟩:Bt)++F) E));(XC Tp 98 #[.string r] n (λG I=>∃J L M N,G=tA J L M N/\(I)[(c1:Addr).block]?=(n)[(c1:Addr).block]?/\(XC Tp 97 #[tA J L M N] I (λO P=>∃Q,O=.string Q/\zw (((⟨#[107]⟩:Bt)).size+Q.size)/\(P)[(c1:Addr).block]?=(n)[(c1:Addr).block]?/\(P)[(c1:Addr).block]?=(n)[(c1:Addr).block]?/\s ((⟨#[107]⟩:Bt)++Q) P))/\((I)[(c1:Addr).block]?=(n)[(c1:Addr).block]?/\x J L M N I)))/\((n)[((q.add (e.toNat*1)):Addr).block]?=(n)[((q.add (e.toNat*1)):Addr).block]?/\(n)[((XT Y 2):Addr).block]?=(n)[((XT Y 2):Addr).block]?/\(n)[(c1:Addr).block]?=(n)[(c1:Addr).block]?/\XC Tp 98 #[.string r] n (λS T=>∃U V W X,S=tA U V W X/\(T)[(c1:Addr).block]?=(n)[(c1:Addr).block]?/\x U V W X T))))/\(decide (e<b.len)=Tc->R (.tuple #[]) f))):
  XC Tp 96 #[.pointer (Td Y),.pointer (Td c1)] h R:=
 XF ⟨[(3,8000)],[(1,[(7,.one (.int .i64))])],[]⟩ [] 24 Tryz.func96 H
theorem Y5(j:Addr)(c1:Addr)(h:zc)(R:Value->zc->Prop) (H:∃b:Option Addr,zd h j=Td (.pointer b)/\∃c d e f,zf h c1 0 (tL c d e f)/\XC Tp 55 #[.pointer b,tA c d e f] h (λg i=>g=.tuple #[]/\R (.tuple #[]) i)):
  XC Tp 99 #[.pointer (Td j),.pointer (Td c1)] h R:=
 XF ⟨[],[],[]⟩ [] 5 Tryz.func99 H
theorem Wy(h:zc)(R:Value->zc->Prop) (H:R (.tuple #[]) h):
  XC Tp 100 #[] h R:=
 XF ⟨[],[],[]⟩ [] 0 Tryz.func100 H
theorem qw(F:Sl)(G:Sl)(I:FuncId)(J:Array Value)(L:Array Value)(h:zc)(R:Value->zc->Prop) (H:(((F.len:Int) != (G.len:Int))=Ta->R (.bool Tc) h)/\(((F.len:Int) != (G.len:Int))=Tc->∃(b:Int->zc->Prop) (c:Int->zc->Nat),b 0 h/\∀d:Int,∀e:zc,b d e->((decide (d<F.len)=Ta->∃f,(F.a=Td f/\0<=d/\d<F.len)/\∃g i j k,zf e (f.add (d.toNat*4)) 0 (tL g i j k)/\let l:=e.push (.cells tC 25);XRunU Tp (YG 25 (.pointer (Td ⟨e.size,0,Te⟩)) (tA g i j k)) l (λm=>∃n,(G.a=Td n/\0<=d/\d<G.len)/\∃o p q r,zf m (n.add (d.toNat*4)) 0 (tL o p q r)/\let s:=m.push (.cells tC 25);XRunU Tp (YG 25 (.pointer (Td ⟨m.size,0,Te⟩)) (tA o p q r)) s (λt=>∃u v w x,zf t ⟨e.size,0,Te⟩ 0 (tL u v w x)/\∃y z A B,zf t ⟨m.size,0,Te⟩ 0 (tL y z A B)/\zm Tp I=Ta/\XC Tp I (J++#[tA u v w x,tA y z A B]++L) t (λC D=>∃E,C=.bool E/\((!E)=Ta->R (.bool Tc) D)/\((!E)=Tc->(b (XS .i64 (d+1)) D/\c (XS .i64 (d+1)) D<c d e))))))/\(decide (d<F.len)=Tc->R (.bool Ta) e)))):
  XC Tp 140 #[.slice F.a F.len F.cap,.slice G.a G.len G.cap,.func (.func I) J L] h R:=
 XF ⟨[],[(4,[(17,.one (.int .i64))])],[]⟩ [.tmp 6] 32 Tryz.func140 H
theorem zy(aH:Option Nat)(aG:Option Nat)(aD:FuncId)(aF:Array Value)(aE:Array Value)(h:zc)(R:Value->zc->Prop) (H:∃b,QExec Tp (zb4 #[144] 3 #[.map aH]) h (iV b)/\∃c,QExec Tp (zb4 #[144] 3 #[.map aG]) h (iV c)/\((b != c)=Ta->R (.bool Tc) h)/\((b != c)=Tc->yp Tp (zdg 144 (.map aH)) h (λd e=>∃f:Option Addr,d=.pointer f/\∃(g:zc->Prop) (i:zc->Nat),g e/\∀j:zc,g j->(yp Tp (zcg (.pointer f) Tc 0) j (λk l=>(k=.tuple #[.bool Tc]/\(Tc=Ta->yp Tp (zc3 (.pointer f)) l (λm n=>∃o p:Value,m=.tuple #[o,p]/\let q:=n.push (.cells tC 25);XRunU Tp (YG 25 (.pointer (Td ⟨n.size,0,Te⟩)) p) q (λr=>∃s t u v w,QExec Tp (zbe 144 (.map aG) o Ta) r (.tuple #[tA s t u v,.bool w])/\let x:=r.push (.cells tC 25);XRunU Tp (YG 25 (.pointer (Td ⟨r.size,0,Te⟩)) (tA s t u v)) x (λy=>∃z A B C,((!(!w))=Ta->zf y ⟨n.size,0,Te⟩ 0 (tL z A B C))/\∃D E F G,((!(!w))=Ta->zf y ⟨r.size,0,Te⟩ 0 (tL D E F G))/\∃I:Value->zc->Prop,((!(!w))=Ta->zm Tp aD=Ta/\XC Tp aD (aF++#[tA z A B C,tA D E F G]++aE) y (λJ L=>∃M,J=.bool M/\I (.bool M) L))/\((!(!w))=Tc->∃N,I (.bool N) y)/\((!(!w))=Ta->∀O P,I O P->∃Q,O=.bool Q)/\∀S:Bool,∀T,I (.bool S) T->((bif (!w)then Ta else(!S))=Ta->R (.bool Tc) T)/\((bif (!w)then Ta else(!S))=Tc->(g T/\i T<i j))))))/\(Tc=Tc->R (.bool Ta) l))\/∃U V:Value,k=.tuple #[.bool Ta,U,V]/\(Ta=Ta->yp Tp (zc3 (.pointer f)) l (λW X=>∃Y Z:Value,W=.tuple #[Y,Z]/\let aa:=X.push (.cells tC 25);XRunU Tp (YG 25 (.pointer (Td ⟨X.size,0,Te⟩)) Z) aa (λab=>∃ac ad ae af ag,QExec Tp (zbe 144 (.map aG) Y Ta) ab (.tuple #[tA ac ad ae af,.bool ag])/\let ah:=ab.push (.cells tC 25);XRunU Tp (YG 25 (.pointer (Td ⟨ab.size,0,Te⟩)) (tA ac ad ae af)) ah (λai=>∃aj ak al am,((!(!ag))=Ta->zf ai ⟨X.size,0,Te⟩ 0 (tL aj ak al am))/\∃an ao ap aq,((!(!ag))=Ta->zf ai ⟨ab.size,0,Te⟩ 0 (tL an ao ap aq))/\∃ar:Value->zc->Prop,((!(!ag))=Ta->zm Tp aD=Ta/\XC Tp aD (aF++#[tA aj ak al am,tA an ao ap aq]++aE) ai (λau av=>∃aw,au=.bool aw/\ar (.bool aw) av))/\((!(!ag))=Tc->∃ax,ar (.bool ax) ai)/\((!(!ag))=Ta->∀ay az,ar ay az->∃aA,ay=.bool aA)/\∀aB:Bool,∀aC,ar (.bool aB) aC->((bif (!ag)then Ta else(!aB))=Ta->R (.bool Tc) aC)/\((bif (!ag)then Ta else(!aB))=Tc->(g aC/\i aC<i j))))))/\(Ta=Tc->R (.bool Ta) l)))))):
  XC Tp 141 #[.map aH,.map aG,.func (.func aD) aF aE] h R:=
 XF ⟨[],[(4,[])],[]⟩ [.tmp 6] 38 Tryz.func141 H
end
end Go.X
end
section
namespace Go.X
open Go Go.ChangeMaps
section
variable {h h':zc} {m r:Nat} {P:Program} {t kt et ty:TypeId} {K:Value -> zc -> Prop} {dn:List Value}
def MapW(h:zc)(m:Nat)(l:List (Value×Value)):Prop:=
 ∃c b,h[m]?=Td (.map c b)/\c.toList.map (λe=>(e.key,e.val))=l/\(∀e∈c.toList,e.born<b)/\(c.toList.map (·.born)).Nodup
theorem MapW.keep{l:List (Value×Value)}(H:MapW h m l)(k:h'[m]?=h[m]?):MapW h' m l:=by obtain⟨b,c,h1,e⟩:=H;exact⟨b,c,k.trans h1,e⟩
theorem MapW.lt{l:List (Value×Value)}(H:MapW h m l):m<h.size:=by obtain⟨b,c,h1,e⟩:=H;exact(YE.1 h1).1
theorem MapW.new(h:zc):MapW (h.push (.map #[] 0)) h.size []:=⟨#[],0,qm _ _,rfl,by simp,by simp⟩
def Yx(l:List (Bt×Value)):List (Value×Value):=l.map λp=>(ZC p.1,p.2)
theorem MapW.at{l:List (Bt×Value)}(H:MapW h m (Yx l)):MapAt h m l:=by obtain⟨b,c,h1,e,_⟩:=H;exact⟨b,c,h1,e⟩
theorem ED{z:Value}(T:MapT P t kt et z){l:List (Bt×Value)}(H:MapW h m (Yx l))(k:Bt)(v:Value){K:zc->Prop}
  (N:∀h':zc,MapW h' m (Yx (kU l k v))->h'.size=h.size->(∀i,i≠m->h'[i]?=h[i]?)->K h'):XRunU P (zbc t (.map (Td m)) (.string k) v) h K:=by
 have u:=H.lt;obtain⟨f,c,h1,D,E,G⟩:=H;intro B d;have J:=QExec.underlying (h:=h) T.map B d;have M:=Qr (P:=P) h1 B d;have L:=Xs T.key Tc k h B d;have b:∀o:Obj,(setObj m o).run P (mk B d h)=.ok () (mk B d (h.setIfInBounds m o)):=by intro o;have:(mk B d h).heap[m]?=Td (.map f c):=h1;simp[setObj,Sem.run,this];rfl
 unfold zbc;rcases J4 k f.toList l 0 D with⟨g1,g2⟩|⟨j,v0,e,g1,g2,g3,g4,Y,S⟩;refine⟨d,h.setIfInBounds m (.map (f.push { key:=.string k,val:=v,born:=c }) (c+1)),?_,N _ ⟨f.push { key:=.string k,val:=v,born:=c },c+1,by simp[u],?_,?_,?_⟩ (by simp) (λi hi=>by rw[YV (Ne.symm hi)])⟩;rw[Sem.run_bind,J];simp only[Result.andThen_ok,Sem.run_bind,M,L];rw[Zt T.key k f.toList Te h g2 B d];simp only[Result.andThen_ok];exact b _;rw[J5 g1];unfold Yx at D ⊢;simp[D];intro e A;simp at A;rcases A with A|rfl;have:=E e (by simpa using A);omega;simp;simp only[Array.toList_push,ZT,ZE,List.map_nil];rw[za7];refine⟨G,by simp,λx Q y U e=>?_⟩;simp at U;obtain⟨C,p,rfl⟩:=ZI.1 Q;have:=E C p;omega;have I:j<f.size:=by have:=(ZV.1 g2).1;simpa using this
 have n:((f.modify j λe=>{ e with key:=.string k,val:=v }).toList.map (·.born))=f.toList.map (·.born):=by apply zab;intro i;simp only[Array.toList_modify,zap,List.getElem?_modify];by_cases w:j=i;subst w;cases f.toList[j]? <;> simp;cases f.toList[i]? <;> simp[w]
 refine⟨d,_,?_,N (h.setIfInBounds m (.map (f.modify j λe=>{ e with key:=.string k,val:=v }) c)) ⟨f.modify j λe=>{ e with key:=.string k,val:=v },c,by simp[u],?_,?_,?_⟩ (by simp) (λi hi=>by rw[YV (Ne.symm hi)])⟩;rw[Sem.run_bind,J];simp only[Result.andThen_ok,Sem.run_bind,M,L];rw[Zt T.key k f.toList _ h Y B d];simp only[Result.andThen_ok,YP];have r:((f[j]?).map (·.key)).getD (.string k)=.string k:=by
  have:f[j]?=Td e:=by simpa using g2
  rw[this];exact g3
 rw[r];have V:zch (.string k) (.string k)=pure (.string k):=by unfold zch;rw[zb (by show(k==k)=Ta;rw[og];simp)]
 rw[V];exact b _;have:=S v;unfold Yx;simpa using this;intro C p;have:C.born∈((f.modify j λe=>{ e with key:=.string k,val:=v }).toList.map (·.born)):=ZI.2 ⟨C,p,rfl⟩;rw[n]at this;obtain⟨O,F,Z⟩:=ZI.1 this;rw[<-Z];exact E O F;rw[n];exact G
def MapIt(h:zc)(r m:Nat)(l:List (Value×Value))(dn:List Value):Prop:=
 ∃j f b i c,h[r]?=Td (.mapIter (Td m) b i c)/\h[m]?=Td (.map j f)/\j.toList.map (λe=>(e.key,e.val))=l/\(∀e∈j.toList,e.born<b)/\b<=c/\b<=f/\(j.toList.map (·.born)).Nodup /\
  ∀e∈j.toList,i.contains e.born=Ta↔e.key∈dn
theorem MapIt.keep{l:List (Value×Value)}(H:MapIt h r m l dn)(i:h'[r]?=h[r]?)(k2:h'[m]?=h[m]?):MapIt h' r m l dn:=by obtain⟨k,e,b,f,c,h1,j,n⟩:=H;exact⟨k,e,b,f,c,i.trans h1,k2.trans j,n⟩
def ES(h:zc)(r m:Nat)(k v:Value):Prop:=
 ∃(i:Array MapEntry) (b c:Nat) (f:Array Nat) (e:MapEntry),h[r]?=Td (.mapIter (Td m) c (f.push e.born) b)/\h[m]?=Td (.map i b)/\e∈i.toList/\(i.toList.map (·.born)).Nodup/\e.key=k/\e.val=v
theorem A1(p:P.underlying t=Td (.map kt et)){l:List (Value×Value)}(H:MapW h m l)
  (r:∀h',h'.size=h.size+1->Keep h.size h h'->MapIt h' h.size m l []->K (.pointer (Td ⟨h.size,0,Te⟩)) h'):yp P (zdg t (.map (Td m))) h K:=by
 have b:=H.lt;obtain⟨j,c,h1,f,n,i⟩:=H;intro B d;have k:=QExec.underlying (h:=h) p B d;have o:=Qr (P:=P) h1 B d;refine⟨.pointer (Td ⟨h.size,0,Te⟩),d,h.push (.mapIter (Td m) c #[] c),?_,r _ (by simp) (Keep.push _ _ (XV _)) ⟨j,c,c,#[],c,qm _ _,?_,f,n,XV _,XV _,i,λe u=>by simp⟩⟩;unfold zdg;rw[Sem.run_bind,k];simp only[Result.andThen_ok,Sem.run_bind,o,Sem.run_pure];rfl;rw[zau,za (by omega)];exact h1
theorem Kv{f:List MapEntry}(h:(f.map (·.born)).Nodup){a b:MapEntry}(i:a∈f)(j:b∈f)(e:a.born=b.born):a=b:=by
 induction f with
 |nil=>cases i
 |cons x f k=>rw[ZE,zaj]at h;rcases YB.1 i with h1|h1;rcases YB.1 j with c|c;rw[h1,c];exact(h.1 (ZI.2 ⟨b,c,by rw[<-e,h1]⟩)).elim;rcases YB.1 j with c|c;exact(h.1 (ZI.2 ⟨a,h1,by rw[e,c]⟩)).elim;exact k h.2 h1 c
theorem PR{f:List MapEntry}(h:(f.map (·.key)).Nodup){a b:MapEntry}(i:a∈f)(j:b∈f)(e:a.key=b.key):a=b:=by
 induction f with
 |nil=>cases i
 |cons x f k=>rw[ZE,zaj]at h;rcases YB.1 i with h1|h1;rcases YB.1 j with c|c;rw[h1,c];exact(h.1 (ZI.2 ⟨b,c,by rw[<-e,h1]⟩)).elim;rcases YB.1 j with c|c;exact(h.1 (ZI.2 ⟨a,h1,by rw[e,c]⟩)).elim;exact k h.2 h1 c
def leftN(h:zc)(r m:Nat):Nat:=match h[r]?,h[m]? with
 |some (.mapIter _ _ seen _),Td (.map es _)=>(es.toList.filter λe=>!seen.contains e.born).length
 |_,_=>0
theorem leftN.keep(b:h'[r]?=h[r]?)(k2:h'[m]?=h[m]?):leftN h' r m=leftN h r m:=by unfold leftN;rw[b,k2]
theorem Iz{α:Type}{p q:α->Bool}(h:∀x,p x=Ta->q x=Ta):∀l:List α,(l.filter p).length<=(l.filter q).length
 |[]=>XV _
 |x::l=>by have:=Iz h l;rw[zb3,zb3];by_cases b:p x=Ta;rw[zb b,zb (h x b)];simp;omega;rw[za b];split;simp;omega;exact this
theorem filter_lt{α:Type}{p q:α->Bool}(h:∀x,p x=Ta->q x=Ta){e:α}(h1:p e=Tc)(f:q e=Ta):∀l:List α,e∈l->(l.filter p).length<(l.filter q).length
 |[],b=>by cases b
 |x::l,b=>by rw[zb3,zb3];rcases YB.1 b with rfl|b;have:=Iz h l;rw[za (by rw[h1];simp),zb f];simp;omega;have:=filter_lt h h1 f l b;by_cases c:p x=Ta;rw[zb c,zb (h x c)];simp;omega;rw[za c];split;simp;omega;exact this
theorem xX{l:List (Value×Value)}(H:MapIt h r m l dn)(hn:(l.map (·.1)).Nodup)(J:r≠m) (z:(∀p∈l,p.1∈dn)->K (.tuple #[.bool Tc]) h) (y:∀k v,(k,v)∈l->k∉dn->∀h',MapIt h' r m l (k::dn)->ES h' r m k v->h'.size=h.size->(∀j,j≠r->h'[j]?=h[j]?)->leftN h' r m<leftN h r m->K (.tuple #[.bool Ta,k,v]) h'):
  yp P (zcg (.pointer (Td ⟨r,0,Te⟩)) Tc ty) h K:=by
 obtain⟨t,b,f,i,c,h1,E,C,M,Y,Q,L,F⟩:=H;intro B d;have V:(t.toList.map (·.key)).Nodup:=by
  have e:t.toList.map (·.key)=l.map (·.1):=by rw[<-C,ZY];rfl
  rw[e];exact hn
 rcases run_next_at (P:=P) (mk B d h) ty r m f c i t b h1 E M Y with⟨S,D⟩|⟨e,N,w1,T,D⟩;refine⟨_,d,h,D,z λp O=>?_⟩;rw[<-C]at O;obtain⟨x,o,rfl⟩:=ZI.1 O;refine(F x o).1 ?_;have:leftOf t i=#[]:=Array.eq_empty_of_size_eq_zero S;unfold leftOf at this;rw[Array.filter_eq_empty_iff]at this;have:=this x (by simpa using o);simpa using this;have n:e∈t.toList/\i.contains e.born=Tc:=by unfold leftOf at N;simpa using N
 have Z:r<h.size:=(YE.1 h1).1;have A:∃G,setBlock w1 r (.mapIter (Td m) f (i.push e.born) b)=mk B G (h.setIfInBounds r (.mapIter (Td m) f (i.push e.born) b)):=by rcases T with rfl|rfl;exact⟨d,rfl⟩;exact⟨d+1,rfl⟩
 obtain⟨G,I⟩:=A;rw[I]at D;have u:(h.setIfInBounds r (.mapIter (Td m) f (i.push e.born) b))[m]?=Td (.map t b):=by rw[YV J];exact E
 have w:(h.setIfInBounds r (.mapIter (Td m) f (i.push e.born) b))[r]?=Td (.mapIter (Td m) f (i.push e.born) b):=by simp[Z]
 refine⟨_,G,_,D,y e.key e.val (by rw[<-C];exact ZI.2 ⟨e,n.1,rfl⟩) (λhm=>?_) _ ⟨t,b,f,i.push e.born,b,w,u,C,M,Q,Q,L,λx o=>?_⟩ ⟨t,b,f,i,e,w,u,n.1,L,rfl,rfl⟩ (by simp) (λj U=>by rw[YV (Ne.symm U)]) ?_⟩;have:=(F e n.1).2 hm;rw[n.2]at this;cases this;rw[YB,<-F x o];simp only[Array.contains_eq_mem,Array.mem_push,zv];constructor;rintro(h|h);exact .inr h;exact .inl (by rw[Kv L o n.1 h]);rintro(h|h);exact .inr (by rw[PR V o n.1 h]);exact .inl h;unfold leftN;rw[w,u,h1,E];refine filter_lt (e:=e) (λx o=>?_) ?_ ?_ _ n.1;simp only[Array.contains_eq_mem,Array.mem_push]at o ⊢;simp at o ⊢;exact o.1;simp;rw[n.2];rfl
theorem zZ{k v:Value}(H:ES h r m k v)(n:K (.tuple #[k,v]) h):yp P (zc3 (.pointer (Td ⟨r,0,Te⟩))) h K:=by obtain⟨l,c,b,f,e,h1,i,o,j,rfl,rfl⟩:=H;intro B d;exact⟨_,d,h,run_entry_at (P:=P) (mk B d h) r m b f l c e h1 i o j,n⟩
theorem Fb(j:P.underlying t=Td (.map kt et)){l:List (Value×Value)}(H:MapW h m l):QExec P (zb4 #[t] ty #[.map (Td m)]) h (.int .i64 (l.length:Int)):=by
 obtain⟨f,c,h1,e,_⟩:=H;intro B d;have i:=QExec.underlying (h:=h) j B d;have k:=Qr (P:=P) h1 B d;have b:l.length=f.size:=by rw[<-e];simp
 simp[zb4,i,k,goInt,b]
end
end Go.X
end
section
namespace Go.X
open Go Go.X Go.Proofs Go.Lib
section
theorem mapVal:MapT Tp 144 9 25 (.agg #[.int .i64 0,.string ⟨#[]⟩,.slice Te 0 0,.slice Te 0 0]):=⟨by kernel_rfl,by kernel_rfl,⟨Tryz.t25,by kernel_rfl,by kernel_rfl⟩⟩
theorem Dd(k:Bt):∀(ks:List Bt) (us:List Value) (i:Nat),ks.length=us.length->(idxFromS ks k i=-1/\hX (ks.zip us) k=Te)\/∃j u,idxFromS ks k i=((i+j:Nat):Int)/\us[j]?=Td u/\hX (ks.zip us) k=Td u
 |[],[],_,_=>.inl ⟨rfl,rfl⟩
 |z::ks,u::us,i,h=>by unfold idxFromS;rw[zbw,hX];by_cases hz:z=k;rw[zb hz];exact .inr ⟨0,u,rfl,rfl,by rw[zb hz]⟩;rw[za hz,za hz];rcases Dd k ks us (i+1) (by simpa using h)with h1|⟨j,w,h1,b,c⟩;exact .inl h1;exact .inr ⟨j+1,w,by rw[h1];congr 1;omega,by simpa using b,c⟩
 |[],_::_,_,h=>by simp at h
 |_::_,[],_,h=>by simp at h
theorem v7{l:List (Bt×Value)}{k:Bt}(h:k∉l.map (·.1)):hX l k=Te:=by
 induction l with
 |nil=>rfl
 |cons p l b=>simp only[ZE,YB,not_or]at h;rw[hX,za (λe=>h.1 e.symm),b h.2]
theorem IU{α β:Type}{xs:List α}{ys:List β}{k:Nat}(b:k<xs.length){u:β}(c:ys.length=k):(xs.take (k+1)).zip (ys++[u])=(xs.take k).zip ys++[(xs[k],u)]:=by rw[YD b,List.zip_append (by simp;omega)];rfl
set_option maxHeartbeats 1000000 in
theorem xL{v:Tr}(Y:v.keys.Nodup)(hl:v.keys.length=v.items.length)(hi:v.items.length<=1000000000000){h:zc}{M:Fr}{u:Value}(ag:AgM M h)(U:RdV M .tree v u){K:Value->zc->Prop} (S:∀(h':zc) (m:Nat) (us:List Value),Keep h.size h h'->h.size<=m->us.length=v.items.length->(∀i (h1:i<v.items.length) (l:i<us.length),RdV M .tree v.items[i] us[i])->MapW h' m (Yx (v.keys.zip us))->K (.map (Td m)) h'):
  XC Tp 142 #[u] h K:=by
 obtain⟨sk,si,rfl,F,L⟩:=qn U;obtain⟨C,_,_⟩:=rowLen F;obtain⟨li,_,_⟩:=rowLen L;apply Ud v.kind v.text sk si;intro h1;have N:Keep h.size h h1:=Keep.push _ _ (XV _);have b1:Blk h1 h.size (zj v.kind v.text sk si).toArray:=Blk.new _ _ _;have z1:h1.size=h.size+1:=XY _;clear_value h1;refine⟨sk,b1.cellAdd (by rfl),?_⟩;intro c;have E:Keep h1.size h1 c:=Keep.push _ _ (XV _);have P:MapW c h1.size []:=MapW.new _;have z3:c.size=h1.size+1:=XY _;clear_value c;have b3:=b1.ofKeep E;have Q:Keep h.size h c:=N.trans E (by omega);refine⟨sk,b3.cellAdd (by rfl),λx g=>∃(k:Nat) (us:List Value),x=(k:Int)/\k<=v.items.length/\us.length=k/\g.size=c.size/\(∀j,j≠h1.size->g[j]?=c[j]?)/\(∀i (h1:i<v.items.length) (l:i<us.length),RdV M .tree v.items[i] us[i])/\MapW g h1.size (Yx ((v.keys.take k).zip us)),λx _=>v.items.length-x.toNat,⟨0,[],rfl,YT _,rfl,rfl,λ_ _=>rfl,λi _ l=>by simp at l,by simpa[Yx]using P⟩,?_⟩;rintro x g ⟨k,us,rfl,hk,n,zg,A,H,z⟩;have D:Keep h.size h g:=⟨by omega,λj w=>by rw[A j (by omega)];exact Q.get j w⟩;have agg:=ag.keep D;refine⟨λt=>?_,λt=>?_⟩;have b:k<v.keys.length:=by rw[C]at t;simp at t;omega
 have p:k<v.items.length:=by omega
 refine l8 agg F b rfl rfl ?_;have T:Blk g h.size (zj v.kind v.text sk si).toArray:=b3.keep (A _ (by omega));obtain⟨a,G,I,ea,B,O,Z⟩:=Jn agg L p;refine⟨si,T.cellAdd (by rfl),a,⟨ea,by omega,by omega⟩,v.items[k].kind,v.items[k].text,G,I,?_,?_⟩;rw[XW];exact B;refine ED mapVal z v.keys[k] _ λg' o V y=>?_;rw[qz p (by omega)];refine⟨⟨k+1,us++[.agg #[.int .i64 v.items[k].kind,.string v.items[k].text,aK G,aK I]],rfl,by omega,by simp;omega,by omega,λj w=>(y j w).trans (A j w),λi h1 l=>?_,?_⟩,by simp only[XW];omega⟩;rw[List.getElem_append];split;rename_i c;exact H i h1 c;rename_i c;have:i=k:=by simp at l;omega
 subst this;simp only[n,Nat.sub_self,List.getElem_cons_zero];exact qe O Z;rw[IU b n];have f:hX ((v.keys.take k).zip us) v.keys[k]=Te:=v7 λJ=>by
  rw[List.map_fst_zip (by simp;omega)]at J;have r:=Y;have e:v.keys=v.keys.take k++v.keys[k]::v.keys.drop (k+1):=by rw[<-zaf b,zan]
  rw[e,za7]at r;exact r.2.2 _ J _ YJ rfl
 rw[J5 f]at o;exact o;have b:k=v.keys.length:=by rw[C]at t;simp at t;omega
 subst b;rw[YR]at z;exact S g h1.size us D (by omega) (by omega) H z
end
end Go.X
end
section
namespace Go.X
section
theorem UZ(gl:Fr)(b:(List Bt)×List Int)(R:Bool->Prop) (H:PC Tp gl 60 [Arg.mk (.pair (.row .str) (.row (.int .i64))) (b.1,b.2)] [.row (.int .i64),.bool] (λa:(List Int)×Bool=>R a.2)):
  PC Tp gl 21 [Arg.mk (.pair (.row .str) (.row (.int .i64))) b] [.bool] R:=
 PF ⟨[],[],[],[]⟩ [.tmp 2] 11 Tryz.func21 H
theorem Le(gl:Fr)(a0:Tr)(b1:Tr)(R:Bool->Prop) (H:PC Tp gl 83 [Arg.mk .tree (Tr.mk a0.kind a0.text a0.keys a0.items)] [.bool] (λa:Bool=>∃b:Bool->Prop,(a=Ta->PC Tp gl 83 [Arg.mk .tree (Tr.mk b1.kind b1.text b1.keys b1.items)] [.bool] b)/\∀c:Bool,(a=Ta->b c)->∃d:Bool->Prop,((bif a then c else Tc)=Ta->PC Tp gl 84 [Arg.mk .tree (Tr.mk a0.kind a0.text a0.keys a0.items),Arg.mk .tree (Tr.mk b1.kind b1.text b1.keys b1.items)] [.bool] d)/\∀e:Bool,((bif a then c else Tc)=Ta->d e)->R (bif (bif a then c else Tc)then e else Tc))):
  PC Tp gl 46 [Arg.mk .tree a0,Arg.mk .tree b1] [.bool] R:=
 PF ⟨[],[],[],[]⟩ [.tmp 4] 16 Tryz.func46 H
theorem PQ(gl:Fr)(b:Tr)(R:Bt->Prop) (H:PC Tp gl 126 [Arg.mk .tree (Tr.mk b.kind b.text b.keys b.items)] [.str,.int .i64] (λa:Bt×Int=>R a.1)):
  PC Tp gl 97 [Arg.mk .tree b] [.str] R:=
 PF ⟨[],[],[],[]⟩ [.tmp 2] 11 Tryz.func97 H
theorem V9(gl:Fr)(c:Tr)(R:(Bt×Int)->Prop) (H:PC Tp gl 57 [Arg.mk .tree (Tr.mk c.kind c.text c.keys c.items)] [.bool] (λa:Bool=>((!a)=Ta->R ((⟨#[]⟩:Bt),1))/\((!a)=Tc->PC Tp gl 132 [Arg.mk .tree (Tr.mk c.kind c.text c.keys c.items),Arg.mk (.int .i64) (-1),Arg.mk (.int .i64) 0] [.str] (λb:Bt=>R (b,0))))):
  PC Tp gl 73 [Arg.mk .tree c] [.str,.int .i64] R:=
 PF ⟨[],[],[],[]⟩ [.tmp 2,.tmp 3] 11 Tryz.func73 H
theorem Vw(gl:Fr)(A:Tr)(h:Int)(z:Int)(R:Bt->Prop) (H:((A.kind==1)=Ta->R (⟨#[110,117,108,108]⟩:Bt))/\((A.kind==1)=Tc->∀a:Bool->Prop,(∀b:Bool,((b=Ta->R A.text)/\(b=Tc->((A.kind==4)=Ta->PC Tp gl 131 [Arg.mk .str A.text] [.str,.int .i64] (λc:Bt×Int=>R c.1))/\((A.kind==4)=Tc->∀d:Bt->Bt->Prop,(∀e f:Bt,((((A.items.length:Int)==0)=Ta->zw (e.size+f.size)/\R (e++f))/\(((A.items.length:Int)==0)=Tc->∃(g:Bt->Int->Prop) (i:Bt->Int->Nat),g e 0/\∀j:Bt,∀k:Int,g j k->((decide (k<A.items.length)=Ta->∀l:Bt->Prop,(∀m:Bt,(∀n:Bt->Prop,(∀o:Bt,(∀p:Bt->Prop,(∀q:Bt,(∃r,(0<=k/\A.items[k.toNat]?=Td r)/\PC Tp gl 132 [Arg.mk .tree (Tr.mk r.kind r.text r.keys r.items),Arg.mk (.int .i64) h,Arg.mk (.int .i64) (XS .i64 (z+1))] [.str] (λs:Bt=>zw (q.size+s.size)/\(g (q++s) (XS .i64 (k+1))/\i (q++s) (XS .i64 (k+1))<i j k)))->p q)->((A.kind==6)=Ta->∃t,(0<=k/\A.keys[k.toNat]?=Td t)/\PC Tp gl 131 [Arg.mk .str t] [.str,.int .i64] (λu:Bt×Int=>zw (o.size+u.1.size)/\zw ((o++u.1).size+((⟨#[58]⟩:Bt)).size)/\(decide (h>=0)=Ta->zw (((o++u.1)++(⟨#[58]⟩:Bt)).size+((⟨#[32]⟩:Bt)).size)/\p (((o++u.1)++(⟨#[58]⟩:Bt))++(⟨#[32]⟩:Bt)))/\(decide (h>=0)=Tc->p ((o++u.1)++(⟨#[58]⟩:Bt)))))/\((A.kind==6)=Tc->p o))->n o)->(decide (h>=0)=Ta->zw (m.size+((⟨#[10]⟩:Bt)).size)/\PC Tp gl 204 [Arg.mk (.int .i64) (XS .i64 (h*(XS .i64 (z+1))))] [.str] (λv:Bt=>zw ((m++(⟨#[10]⟩:Bt)).size+v.size)/\n ((m++(⟨#[10]⟩:Bt))++v)))/\(decide (h>=0)=Tc->n m))->l m)->(decide (k>0)=Ta->zw (j.size+((⟨#[44]⟩:Bt)).size)/\l (j++(⟨#[44]⟩:Bt)))/\(decide (k>0)=Tc->l j))/\(decide (k<A.items.length)=Tc->∀w:Bt->Prop,(∀x:Bt,(zw (x.size+f.size)/\R (x++f))->w x)->(decide (h>=0)=Ta->zw (j.size+((⟨#[10]⟩:Bt)).size)/\PC Tp gl 204 [Arg.mk (.int .i64) (XS .i64 (h*z))] [.str] (λy:Bt=>zw ((j++(⟨#[10]⟩:Bt)).size+y.size)/\w ((j++(⟨#[10]⟩:Bt))++y)))/\(decide (h>=0)=Tc->w j)))))->d e f)->((A.kind==6)=Ta->d (⟨#[123]⟩:Bt) (⟨#[125]⟩:Bt))/\((A.kind==6)=Tc->d (⟨#[91]⟩:Bt) (⟨#[93]⟩:Bt)))))->a b)->((A.kind==2)=Ta->a (A.kind==2))/\((A.kind==2)=Tc->a (A.kind==3)))):
  PC Tp gl 132 [Arg.mk .tree A,Arg.mk (.int .i64) h,Arg.mk (.int .i64) z] [.str] R:=
 PF ⟨[],[],[(19,⟨[(11,.one (.dat .str)),(12,.one (.dat (.int .i64)))],[],[3],[100704,100768]⟩)],[(6,⟨[(19,.one (.dat .bool))],[],[3],[101216]⟩),(15,⟨[(9,.one (.dat .str)),(10,.one (.dat .str))],[],[3],[100576,100640]⟩),(23,⟨[(11,.one (.dat .str))],[],[],[100704]⟩),(25,⟨[(11,.one (.dat .str))],[],[],[100704]⟩),(30,⟨[(11,.one (.dat .str))],[],[],[100704]⟩),(33,⟨[(11,.one (.dat .str))],[],[],[100704]⟩)]⟩ [.tmp 6] 108 Tryz.func132 H
theorem Mi(gl:Fr)(f:Bt)(R:(Bt×Int)->Prop) (H:PC Tp gl 203 [Arg.mk .str f] [.int .i64,.bool] (λa:Int×Bool=>((!a.2)=Ta->R ((⟨#[]⟩:Bt),2))/\((!a.2)=Tc->∃(b:(List Int)->Int->Prop) (c:(List Int)->Int->Nat),b [34] 0/\∀d:List Int,∀e:Int,b d e->((decide (e<f.size)=Ta->(0<=e/\e<f.size)/\((bif ((ze f e.toNat:Int)==34)then Ta else((ze f e.toNat:Int)==92))=Ta->((d.length+ZM ([92,ze f e.toNat]:List Int))*1<=140737488355328/\(b (d++[92,ze f e.toNat]) (XS .i64 (e+1))/\c (d++[92,ze f e.toNat]) (XS .i64 (e+1))<c d e)))/\((bif ((ze f e.toNat:Int)==34)then Ta else((ze f e.toNat:Int)==92))=Tc->(((ze f e.toNat:Int)==8)=Ta->((d.length+ZM (yg (⟨#[92,98]⟩:Bt)))*1<=140737488355328/\(b (d++(yg (⟨#[92,98]⟩:Bt))) (XS .i64 (e+1))/\c (d++(yg (⟨#[92,98]⟩:Bt))) (XS .i64 (e+1))<c d e)))/\(((ze f e.toNat:Int)==8)=Tc->(((ze f e.toNat:Int)==12)=Ta->((d.length+ZM (yg (⟨#[92,102]⟩:Bt)))*1<=140737488355328/\(b (d++(yg (⟨#[92,102]⟩:Bt))) (XS .i64 (e+1))/\c (d++(yg (⟨#[92,102]⟩:Bt))) (XS .i64 (e+1))<c d e)))/\(((ze f e.toNat:Int)==12)=Tc->(((ze f e.toNat:Int)==10)=Ta->((d.length+ZM (yg (⟨#[92,110]⟩:Bt)))*1<=140737488355328/\(b (d++(yg (⟨#[92,110]⟩:Bt))) (XS .i64 (e+1))/\c (d++(yg (⟨#[92,110]⟩:Bt))) (XS .i64 (e+1))<c d e)))/\(((ze f e.toNat:Int)==10)=Tc->(((ze f e.toNat:Int)==13)=Ta->((d.length+ZM (yg (⟨#[92,114]⟩:Bt)))*1<=140737488355328/\(b (d++(yg (⟨#[92,114]⟩:Bt))) (XS .i64 (e+1))/\c (d++(yg (⟨#[92,114]⟩:Bt))) (XS .i64 (e+1))<c d e)))/\(((ze f e.toNat:Int)==13)=Tc->(((ze f e.toNat:Int)==9)=Ta->((d.length+ZM (yg (⟨#[92,116]⟩:Bt)))*1<=140737488355328/\(b (d++(yg (⟨#[92,116]⟩:Bt))) (XS .i64 (e+1))/\c (d++(yg (⟨#[92,116]⟩:Bt))) (XS .i64 (e+1))<c d e)))/\(((ze f e.toNat:Int)==9)=Tc->(decide ((ze f e.toNat:Int)<32)=Ta->IntKind.u8=IntKind.u8/\(16:Int)≠0/\(0<=(XS .u8 ((ze f e.toNat:Int).tdiv 16))/\(XS .u8 ((ze f e.toNat:Int).tdiv 16))<(((⟨#[48,49,50,51,52,53,54,55,56,57,97,98,99,100,101,102]⟩:Bt)).size:Int))/\IntKind.u8=IntKind.u8/\(16:Int)≠0/\(0<=((ze f e.toNat:Int).tmod 16:Int)/\((ze f e.toNat:Int).tmod 16:Int)<(((⟨#[48,49,50,51,52,53,54,55,56,57,97,98,99,100,101,102]⟩:Bt)).size:Int))/\((d.length+ZM ([92,117,48,48,ze (⟨#[48,49,50,51,52,53,54,55,56,57,97,98,99,100,101,102]⟩:Bt) (XS .u8 ((ze f e.toNat:Int).tdiv 16)).toNat,ze (⟨#[48,49,50,51,52,53,54,55,56,57,97,98,99,100,101,102]⟩:Bt) ((ze f e.toNat:Int).tmod 16:Int).toNat]:List Int))*1<=140737488355328/\(b (d++([92,117,48,48,ze (⟨#[48,49,50,51,52,53,54,55,56,57,97,98,99,100,101,102]⟩:Bt) (XS .u8 ((ze f e.toNat:Int).tdiv 16)).toNat,ze (⟨#[48,49,50,51,52,53,54,55,56,57,97,98,99,100,101,102]⟩:Bt) ((ze f e.toNat:Int).tmod 16:Int).toNat]:List Int)) (XS .i64 (e+1))/\c (d++([92,117,48,48,ze (⟨#[48,49,50,51,52,53,54,55,56,57,97,98,99,100,101,102]⟩:Bt) (XS .u8 ((ze f e.toNat:Int).tdiv 16)).toNat,ze (⟨#[48,49,50,51,52,53,54,55,56,57,97,98,99,100,101,102]⟩:Bt) ((ze f e.toNat:Int).tmod 16:Int).toNat]:List Int)) (XS .i64 (e+1))<c d e)))/\(decide ((ze f e.toNat:Int)<32)=Tc->((d.length+ZM ([ze f e.toNat]:List Int))*1<=140737488355328/\(b (d++[ze f e.toNat]) (XS .i64 (e+1))/\c (d++[ze f e.toNat]) (XS .i64 (e+1))<c d e))))))))))/\(decide (e<f.size)=Tc->((d.length+ZM ([34]:List Int))*1<=140737488355328/\R (mX (d++[34]),0))))))):
  PC Tp gl 131 [Arg.mk .str f] [.str,.int .i64] R:=
 PF ⟨[],[(23,6,[],[0,1,2,3,4,5],[0,1,2,3,4,5])],[(7,⟨[(7,.one (.own 5 (.int .u8))),(8,.one (.dat (.int .i64)))],[],[],[100448,100512]⟩)],[]⟩ [.tmp 2,.tmp 3] 78 Tryz.func131 H
theorem XB(gl:Fr)(f:Tr)(R:Bool->Prop) (H:PC Tp gl 102 [Arg.mk .tree (Tr.mk f.kind f.text f.keys f.items)] [.int .i64] (λa:Int=>∃b:Int->Prop,(decide (a<=4096)=Ta->PC Tp gl 103 [Arg.mk .tree (Tr.mk f.kind f.text f.keys f.items)] [.int .i64] b)/\∀c:Int,(decide (a<=4096)=Ta->b c)->∃d:Bool->Prop,((bif (decide (a<=4096))then(decide (c<=32))else Tc)=Ta->PC Tp gl 104 [Arg.mk .tree (Tr.mk f.kind f.text f.keys f.items),Arg.mk .bool Tc] [.bool] d)/\∀e:Bool,((bif (decide (a<=4096))then(decide (c<=32))else Tc)=Ta->d e)->R (bif (bif (decide (a<=4096))then(decide (c<=32))else Tc)then e else Tc))):
  PC Tp gl 57 [Arg.mk .tree f] [.bool] R:=
 PF ⟨[],[],[],[]⟩ [.tmp 2] 15 Tryz.func57 H
end
end Go.X
end
section
namespace Go.X
open Go Go.Lib
section
variable {v:Tr}
theorem pq(x:Bt):∀(l:List Bt) (i:Nat),(idxFromS l x i=-1/\x∉l)\/∃k:Nat,idxFromS l x i=((i+k:Nat):Int)/\k<l.length/\l[k]?=Td x
 |[],i=>.inl ⟨rfl,by simp⟩
 |z::l,i=>by unfold idxFromS;by_cases h:z=x;rw[zb h];exact .inr ⟨0,rfl,by simp,by simp[h]⟩;rw[za h];rcases pq x l (i+1)with⟨h1,b⟩|⟨k,h1,b,c⟩;exact .inl ⟨h1,by simp[b];exact λe=>h e.symm⟩;exact .inr ⟨k+1,by rw[h1];congr 1;omega,by simp;omega,by simpa using c⟩
theorem jf{q:Tr->Bool}{v x:Tr}(h:Zk q v=Ta)(b:x∈v.items):Zk q x=Ta:=by rw[Zb,YH,jw,ZH]at h;exact h.2 x b
theorem Jr{q:Tr->Bool}(h:Zk q v=Ta):q v=Ta:=by rw[Zb,YH]at h;exact h.1
end
section
theorem TB{v:Tr}(h:xx v=Ta):bR v<=4096:=by unfold xx Zd at h;simp at h;omega
def zT:Tr:=.mk 0 ⟨#[]⟩ [] []
end
end Go.X
end
section
namespace Go.X
open Go Go.RowKit
section
def Js(v:Tr)(sk si:Sl):List Value:=[.int .i64 v.kind,.string v.text,aK sk,aK si]
end
end Go.X
end
section
namespace Go.X
open Go Go.Lib
section
def lw(v:Tr):Bool:=decide (v.kind=0/\lb v.text=[]/\v.keys=[]/\v.items=[])
abbrev cR:=Bt×List Bt×List Bt×Tr
def pB:Bs:=[97,100,100]
def r9:Bs:=[114,101,109,111,118,101]
def Jt:Bs:=[114,101,112,108,97,99,101]
def ow:Bs:=[109,111,118,101]
def rT:Bs:=[99,111,112,121]
def vx:Bs:=[116,101,115,116]
def j9(s:Bs):Bool×Bool×Bool:=if s=pB\/s=Jt\/s=vx then(Ta,Tc,Ta)else if s=ow\/s=rT then(Tc,Ta,Ta)else(Tc,Tc,decide (s=r9))
def y8(o:cR):Bool:=(j9 (lb o.1)).2.2&&(yb o.2.1&&(yb o.2.2.1&&(((j9 (lb o.1)).2.1||decide (o.2.2.1=[]))&&(bif (j9 (lb o.1)).1 then zn o.2.2.2 else lw o.2.2.2))))
mutual
def yw:Tr->Tr->Bool
 |.mk k s ks xs,b=>decide (k=b.kind)&&(decide (s=b.text)&&(decide (xs.length=b.items.length)&&(if k=6 then ku ks xs b else kv xs b.items)))
def kv:List Tr->List Tr->Bool
 |[],[]=>Ta
 |x::l,y::m=>yw x y&&kv l m
 |_,_=>Tc
def ku:List Bt->List Tr->Tr->Bool
 |_,[],_=>Ta
 |[],_::_,_=>Tc
 |k::ks,x::xs,b=>(match b.items[(idxOfS b.keys k).toNat]? with
  |some y=>decide (0<=idxOfS b.keys k)&&yw x y
  |none=>Tc)&&ku ks xs b
end
theorem IS{v:Tr}(h:zl v=Ta)(b:v.kind=6):v.keys.length=v.items.length:=by unfold zl at h;simp[b]at h;exact h.1.2
end
section
variable {v:Tr}
theorem WE{q:Tr->Bool}(h:q v=Ta)(hi:∀x∈v.items,Zk q x=Ta):Zk q v=Ta:=by rw[Zb,h,zal,jw,ZH];exact hi
theorem TY(h:zn v=Ta):xx v=Ta:=by
 unfold zn at h;unfold xx;rw[YH]at h ⊢;refine⟨h.1,?_⟩;have key:∀n (x:Tr),bR x<=n->Zk (λx=>decide (x.kind≠7)&&zl x) x=Ta->Zk zl x=Ta:=by
  intro n;induction n with
  |zero=>intro x f;have:=Ye x;omega
  |succ n e=>intro x f b;have:=Jr b;simp at this;refine WE this.2 λy c=>e y (by have:=qp c;omega) (jf b c)
 exact key _ v (XV _) h.2
theorem xM(h:xx v=Ta):Zk zl v=Ta:=by unfold xx at h;rw[YH]at h;exact h.2
end
section
def lL(b:List Bt)(ys:List Tr)(q:Tr->Tr->Bool)(k:Bt)(x:Tr):Bool:=match ys[(idxOfS b k).toNat]? with
 |some y=>decide (0<=idxOfS b k)&&q x y
 |none=>Tc
theorem Hl(b:Tr):∀(ks:List Bt) (xs:List Tr),ks.length=xs.length->ku ks xs b=(ks.zip xs).all λp=>lL b.keys b.items yw p.1 p.2
 |[],[],_=>by simp[ku]
 |k::ks,x::xs,h=>by rw[ku,Hl b ks xs (by simpa using h)];rfl
 |[],_::_,h=>by simp at h
 |_::_,[],h=>by simp at h
theorem I9:∀(xs ys:List Tr),xs.length=ys.length->kv xs ys=(xs.zip ys).all λp=>yw p.1 p.2
 |[],[],_=>by simp[kv]
 |x::xs,y::ys,h=>by rw[kv,I9 xs ys (by simpa using h)];rfl
 |[],_::_,h=>by simp at h
 |_::_,[],h=>by simp at h
theorem Wz(a b:Tr):yw a b=(decide (a.kind=b.kind)&&(decide (a.text=b.text)&&(decide (a.items.length=b.items.length)&&(if a.kind=6 then ku a.keys a.items b else kv a.items b.items)))):=by cases a;rw[yw]
end
end Go.X
end
section
namespace Go.X
open Go Go.X Go.Proofs Go.Lib
section
variable {gl M:Fr} {F:FuncId} {xs ys:List Tr} {h:zc}
theorem Kz(hF:zm Tp F=Ta){q:Tr->Tr->Bool}(hp:∀x∈xs,∀y∈ys,PC Tp gl F [Arg.mk .tree x,Arg.mk .tree y] [.bool] (λr=>r=q x y)){s1 s2:Sl}(hM:Fr.le gl M)(ag:AgM M h) (r1:Rd M (.row .tree) xs [aK s1]) (r2:Rd M (.row .tree) ys [aK s2]):
  PX Tp 140 #[aK s1,aK s2,.func (.func F) #[] #[]] h M [.bool] (λr=>r=(decide (xs.length=ys.length)&&(xs.zip ys).all λp=>q p.1 p.2)):=by
 obtain⟨T,n1,_⟩:=rowLen r1;obtain⟨l2,n2,_⟩:=rowLen r2;apply PX.of;apply qw s1 s2 F #[] #[];refine⟨λB=>⟨M,_,Later.refl ag,Y2.2 (rdBool _),?_⟩,λB=>?_⟩;have:¬xs.length=ys.length:=by rw[T,l2]at B;simp at B;omega
 simp[this];have ae:xs.length=ys.length:=by rw[T,l2]at B;simp at B;omega
 refine⟨λi g=>∃(k:Nat) (M':Fr),i=(k:Int)/\k<=xs.length/\Later h M g M'/\((xs.zip ys).take k).all (λp=>q p.1 p.2)=Ta,λi _=>xs.length-i.toNat,⟨0,M,rfl,YT _,Later.refl ag,by simp⟩,?_⟩;rintro i g ⟨k,M',rfl,hk,L,b⟩;refine⟨λC=>?_,λC=>?_⟩;have n:k<xs.length:=by rw[T]at C;simp at C;omega
 have H:k<ys.length:=by omega
 obtain⟨a,G,A,ea,Z,t1,t2⟩:=Jn L.ag (r1.mono L.le) n;refine⟨a,⟨ea,by omega,by omega⟩,xs[k].kind,xs[k].text,G,A,by rw[XW];exact Z,?_⟩;intro e;have aj:Keep g.size g e:=Keep.push _ _ (XV _);have ai:Blk e g.size (zj 0 ⟨#[]⟩ ⟨Te,0,0⟩ ⟨Te,0,0⟩).toArray:=Blk.new _ _ _;have al:e.size=g.size+1:=XY _;clear_value e;refine w5 ai rfl _ _ _ _ λc ab au Y=>?_;have O:Keep g.size g c:=⟨by omega,λj hj=>by rw[Y j (by omega)];exact aj.get j hj⟩;have t:=L.ag.keep O;obtain⟨a2,Q,S,aa,z,t3,t4⟩:=Jn t (r2.mono L.le) H;refine⟨a2,⟨aa,by omega,by omega⟩,ys[k].kind,ys[k].text,Q,S,by rw[XW];exact z,?_⟩;intro l;have P:Keep c.size c l:=Keep.push _ _ (XV _);have af:Blk l c.size (zj 0 ⟨#[]⟩ ⟨Te,0,0⟩ ⟨Te,0,0⟩).toArray:=Blk.new _ _ _;have am:l.size=c.size+1:=XY _;clear_value l;refine w5 af rfl _ _ _ _ λm ah an N=>?_;have u:Blk m g.size (zj xs[k].kind xs[k].text G A).toArray:=(ab.ofKeep P).keep (N _ (by omega));have ak:Keep g.size g m:=⟨by omega,λj hj=>by rw[N j (by omega),P.get j (by omega)];exact O.get j hj⟩;have f:Later h M m M':=L.trans (Later.same L.ag ak);refine⟨xs[k].kind,xs[k].text,G,A,u.ld (cs:=zj xs[k].kind xs[k].text G A),ys[k].kind,ys[k].text,Q,S,ah.ld (cs:=zj ys[k].kind ys[k].text Q S),hF,?_⟩;have o:=(hp xs[k] (YI n) ys[k] (YI H)).px (h:=m) (M:=M') (vs:=[.agg #[.int .i64 xs[k].kind,.string xs[k].text,aK G,aK A],.agg #[.int .i64 ys[k].kind,.string ys[k].text,aK Q,aK S]]) (hM.trans f.le) f.ag (qk (qe t1 t2) (qk (qe t3 t4) ym));refine o.go λw ar E r J D hr=>?_;have hr:r=q xs[k] ys[k]:=hr;subst hr;have I:(xs.zip ys).take (k+1)=(xs.zip ys).take k++[(xs[k],ys[k])]:=by rw[YD (by simp;omega)];simp
 refine⟨q xs[k] ys[k],ib D,λhf=>⟨E,_,f.trans J,Y2.2 (rdBool _),?_⟩,λht=>?_⟩;have U:q xs[k] ys[k]=Tc:=by simpa using hf
 have:(xs.zip ys).all (λp=>q p.1 p.2)=Tc:=by rw[zc1];exact⟨(xs[k],ys[k]),zb7.2 ⟨k,by simp;omega,by simp⟩,by simp[U]⟩
 rw[this,zdl];have V:q xs[k] ys[k]=Ta:=by simpa using ht
 rw[qz n (by omega)];refine⟨⟨k+1,E,rfl,n,f.trans J,?_⟩,by simp only[XW];omega⟩;rw[I,zb9,b];simp[V];have ac:k=xs.length:=by rw[T]at C;simp at C;omega
 subst ac;refine⟨M',_,L,Y2.2 (rdBool _),?_⟩;rw[ZS (by simp;omega)]at b;rw[b];simp[ae]
theorem Tn{l:List Bt}(h:l.Nodup){i j:Nat}(hi:i<l.length)(b:j<l.length)(e:l[i]=l[j]):i=j:=by unfold List.Nodup at h;rw[List.pairwise_iff_getElem]at h;rcases Nat.lt_trichotomy i j with h1|h1|h1;exact absurd e (h i j hi b h1);exact h1;exact absurd e.symm (h j i b hi h1)
theorem If{a b:Bt}(h:ZC a=ZC b):a=b:=by injection h
theorem Ln(ks:List Bt)(us:List Value)(h:ks.length=us.length):(Yx (ks.zip us)).map (·.1)=ks.map ZC:=by
 unfold Yx;rw[ZY];have:(ks.zip us).map (λp=>ZC p.1)=(ks.zip us).unzip.1.map ZC:=by simp
 show(ks.zip us).map (λp=>ZC p.1)=_;rw[this,List.unzip_zip h]
theorem Uj{ks:List Bt}(h:ks.Nodup):(ks.map ZC).Nodup:=by
 induction ks with
 |nil=>simp
 |cons k ks b=>rw[zaj]at h;rw[ZE,zaj];refine⟨λc=>?_,b h.2⟩;obtain⟨x,f,e⟩:=ZI.1 c;exact h.1 (If e ▸ f)
set_option maxHeartbeats 2000000 in
theorem KU(hF:zm Tp F=Ta){q:Tr->Tr->Bool}{f l:List Bt}{A o:List Value}(ar:f.Nodup)(la:f.length=xs.length)(ba:l.length=ys.length)(aZ:A.length=xs.length)(a7:o.length=ys.length)(aU:xs.length<=1000000000000/\ys.length<=1000000000000) (hp:∀x∈xs,∀y∈ys,PC Tp gl F [Arg.mk .tree x,Arg.mk .tree y] [.bool] (λr=>r=q x y)) {B m2:Nat} (hM:Fr.le gl M) (ag:AgM M h) (w1:MapW h B (Yx (f.zip A))) (w2:MapW h m2 (Yx (l.zip o))) (ra:∀i (h1:i<xs.length) (h2:i<A.length),RdV M .tree xs[i] A[i]) (rb:∀i (h1:i<ys.length) (h2:i<o.length),RdV M .tree ys[i] o[i]):
  PX Tp 141 #[.map (Td B),.map (Td m2),.func (.func F) #[] #[]] h M [.bool] (λr=>r=(decide (xs.length=ys.length)&&(f.zip xs).all λp=>lL l ys q p.1 p.2)):=by
 apply PX.of;apply zy (Td B) (Td m2) F #[] #[];have L1:(Yx (f.zip A)).length=xs.length:=by unfold Yx;simp;omega
 have E:(Yx (l.zip o)).length=ys.length:=by unfold Yx;simp;omega
 have Q:=Fb (P:=Tp) (ty:=3) mapVal.map w1;have O:=Fb (P:=Tp) (ty:=3) mapVal.map w2;rw[L1]at Q;rw[E]at O;refine⟨xs.length,Q,ys.length,O,λhx=>⟨M,_,Later.refl ag,Y2.2 (rdBool _),?_⟩,λhx=>?_⟩;have:¬xs.length=ys.length:=by simp at hx;omega
 simp[this];have aP:xs.length=ys.length:=by simp at hx;omega
 have aS:=w1.lt;have al:=w2.lt;have aQ:((Yx (f.zip A)).map (·.1)).Nodup:=by rw[Ln _ _ (by omega)];exact Uj ar
 refine A1 mapVal.map w1 λh4 z4 k4 aO=>⟨Td ⟨h.size,0,Te⟩,rfl,?_⟩;refine⟨λg=>∃dn M',MapIt g h.size B (Yx (f.zip A)) dn/\Later h M g M'/\h.size<g.size/\∀i (h1:i<f.length) (h2:i<xs.length),ZC f[i]∈dn->lL l ys q f[i] xs[i]=Ta,λg=>leftN g h.size B,⟨[],M,aO,Later.same ag k4,by omega,λi _ _ hm=>by cases hm⟩,?_⟩;rintro g ⟨dn,M',it,L,zg,am⟩;have kg:=L.keep;refine xX it aQ (by omega) (λah=>.inl ⟨rfl,(λZ=>by cases Z),λ_=>⟨M',_,L,Y2.2 (rdBool _),?_⟩⟩) λk u ax hk g1 aN aB z1 f1 rF=>.inr ⟨k,u,rfl,λ_=>?_,λZ=>by cases Z⟩;have aA:((f.zip xs).all λp=>lL l ys q p.1 p.2)=Ta:=by rw[ZH];intro p U;obtain⟨i,hi,e⟩:=zca U;rw[List.length_zip,Nat.lt_min]at hi;have:=am i hi.1 hi.2 (ah (.string f[i],A[i]) (by unfold Yx;refine ZI.2 ⟨(f[i],A[i]),zb7.2 ⟨i,by simp;omega,by simp⟩,rfl⟩));rw[<-e];simpa using this
 rw[aA];simp[aP]
 ·obtain⟨i,aL,aD,ek,eu⟩:∃i,∃(h1:i<f.length) (h2:i<A.length),k=.string f[i]/\u=A[i]:=by unfold Yx at ax;obtain⟨p,U,e⟩:=ZI.1 ax;obtain⟨i,hi,H⟩:=zca U;rw[List.length_zip,Nat.lt_min]at hi;simp at H;injection e with e3 e4;exact⟨i,hi.1,hi.2,by rw[<-e3,<-H],by rw[<-e4,<-H]⟩
  subst ek;subst eu;have ae:i<xs.length:=by omega
  have an:Keep h.size h g1:=⟨by omega,λj V=>by rw[f1 j (by omega)];exact kg.get j V⟩;have ay:AgM M' g1:=λb c e=>by obtain⟨T,mm,H⟩:=L.ag b c e;by_cases hb:b=h.size;subst hb;obtain⟨_,_,_,_,_,e3,_⟩:=it;rw[e3]at H;cases H;exact⟨T,mm,by rw[f1 b hb];exact H⟩
  refine zZ aB ⟨_,_,rfl,?_⟩;intro I;have aJ:Keep g1.size g1 I:=Keep.push _ _ (XV _);have aI:Blk I g1.size (zj 0 ⟨#[]⟩ ⟨Te,0,0⟩ ⟨Te,0,0⟩).toArray:=Blk.new _ _ _;have aY:I.size=g1.size+1:=XY _;clear_value I;obtain⟨ck,ci,eu,t1,t2⟩:=qn (ra i ae aD);rw[eu];refine w5 aI rfl _ _ _ _ λt aH aV aE=>?_;have S:Keep g1.size g1 t:=⟨by omega,λj V=>by rw[aE j (by omega)];exact aJ.get j V⟩;have aT:=ay.keep S;have aF:MapW t m2 (Yx (l.zip o)):=w2.keep ((S.get _ (by omega)).trans (an.get _ al));have n:=Q4 mapVal aF.at f[i] Ta;simp only[if_true]at n;obtain⟨y,N,G,hget,t3,t4,hm1⟩:∃(y:Tr) (N G:Sl),jD (l.zip o) f[i] (.agg #[.int .i64 0,.string ⟨#[]⟩,.slice Te 0 0,.slice Te 0 0])=.agg #[.int .i64 y.kind,.string y.text,aK N,aK G]/\RdV M .tree y (.agg #[.int .i64 y.kind,.string y.text,aK N,aK G]) /\
    ((hX (l.zip o) f[i]).isSome=Ta->y∈ys)/\lL l ys q f[i] xs[i]=((hX (l.zip o) f[i]).isSome&&q xs[i] y):=by
   rcases Dd f[i] l o 0 (by omega)with⟨g1,g2⟩|⟨j,w,g1,g2,g3⟩;refine⟨zT,⟨Te,0,0⟩,⟨Te,0,0⟩,by unfold jD;rw[g2];rfl,?_,?_,?_⟩;refine qe (v:=zT) ?_ ?_;exact⟨_,rfl,Te,0,rfl,⟨by simp[zT],by simp[zT]⟩,.inl rfl⟩;exact⟨_,rfl,Te,0,rfl,⟨by simp[zT],by simp[zT]⟩,.inl rfl⟩;rw[g2];intro Z;cases Z;rw[g2];unfold lL idxOfS;rw[g1];simp;split;rfl;rfl;obtain⟨V,ej⟩:=ZV.1 g2;have ac:j<ys.length:=by omega
   have hr:=rb j ac V;rw[ej]at hr;obtain⟨N,G,ew,t3,t4⟩:=qn hr;refine⟨ys[j],N,G,by unfold jD;rw[g3];exact ew,by rw[<-ew];exact hr,λ_=>YI ac,?_⟩;rw[g3];unfold lL idxOfS;rw[g1];simp[YA ac]
  rw[hget]at n;refine⟨y.kind,y.text,N,G,(hX (l.zip o) f[i]).isSome,n,?_⟩;intro J;have ak:Keep t.size t J:=Keep.push _ _ (XV _);have aM:Blk J t.size (zj 0 ⟨#[]⟩ ⟨Te,0,0⟩ ⟨Te,0,0⟩).toArray:=Blk.new _ _ _;have a8:J.size=t.size+1:=XY _;clear_value J;refine w5 aM rfl _ _ _ _ λm aG a6 ai=>?_;have aj:Blk m g1.size (zj xs[i].kind xs[i].text ck ci).toArray:=(aH.ofKeep ak).keep (ai _ (by omega));have z:Keep g1.size g1 m:=⟨by omega,λj V=>by rw[ai j (by omega),ak.get j (by omega)];exact S.get j V⟩;have az:Keep h.size h m:=an.trans z (by omega);have C:Later h M m M':=⟨az,L.le,L.old,ay.keep z⟩;have af:MapIt m h.size B (Yx (f.zip A)) (.string f[i]::dn):=aN.keep (z.get _ (by omega)) (z.get _ (by omega));have aa:leftN m h.size B<leftN g h.size B:=by rw[leftN.keep (z.get h.size (by omega)) (z.get B (by omega))];exact rF
  refine⟨xs[i].kind,xs[i].text,ck,ci,λ_=>aj.ld (cs:=zj xs[i].kind xs[i].text ck ci),y.kind,y.text,N,G,λ_=>aG.ld (cs:=zj y.kind y.text N G),?_⟩;have ab:lL l ys q f[i] xs[i]=Tc->((f.zip xs).all λp=>lL l ys q p.1 p.2)=Tc:=λhf=>by rw[zc1];exact⟨(f[i],xs[i]),zb7.2 ⟨i,by simp;omega,by simp⟩,by simp[hf]⟩
  refine⟨λw g2=>∃b M2,w=.bool b/\Later m M' g2 M2/\((hX (l.zip o) f[i]).isSome=Ta->b=q xs[i] y),λD=>⟨hF,?_⟩,λD=>⟨Ta,Ta,M',rfl,Later.refl C.ag,λZ=>by rw[Z]at D;cases D⟩,λ_ w g2 ⟨b,_,e,_⟩=>⟨b,e⟩,?_⟩;have aC:(hX (l.zip o) f[i]).isSome=Ta:=by simpa using D
  have Y:=(hp xs[i] (YI ae) y (t4 aC)).px (h:=m) (M:=M') (vs:=[.agg #[.int .i64 xs[i].kind,.string xs[i].text,aK ck,aK ci],.agg #[.int .i64 y.kind,.string y.text,aK N,aK G]]) (hM.trans C.le) C.ag (qk (RdV.mono L.le (qe t1 t2)) (qk (RdV.mono L.le t3) ym));exact Y.go λw g2 M2 r E au hr=>⟨r,ib au,r,M2,rfl,E,λ_=>hr⟩;rintro b g2 ⟨b',M2,e,E,hb⟩;cases e;refine⟨λhf=>⟨M2,_,C.trans E,Y2.2 (rdBool _),?_⟩,λht=>⟨⟨_,M2,af.keep (E.keep.get _ (by omega)) (E.keep.get _ (by omega)),C.trans E,by have:=E.keep.size;omega,λi2 h1 h2 hm=>?_⟩,?_⟩⟩;have:lL l ys q f[i] xs[i]=Tc:=by
   rw[hm1];cases D:(hX (l.zip o) f[i]).isSome with
   |false=>rfl
   |true=>rw[D]at hf;rw[<-hb D];simpa using hf
  rw[ab this,zdl];rcases YB.1 hm with e|hm;have H:=If e;have:i2=i:=Tn ar h1 aL H;subst this;rw[hm1];cases D:(hX (l.zip o) f[i2]).isSome with
  |false=>rw[D]at ht;simp at ht
  |true=>rw[D]at ht;rw[<-hb D];simpa using ht
  exact am i2 h1 h2 hm;show leftN g2 h.size B<leftN g h.size B;rw[leftN.keep (E.keep.get h.size (by omega)) (E.keep.get B (by omega))];exact aa
end
end Go.X
end
section
namespace Go.X
section
theorem Y6(gl:Fr)(h:List (Bt×(List Bt)×(List Bt)×Tr))(R:Bool->Prop) (H:PC Tp gl 30 [] [.bool] (λa:Bool=>PC Tp gl 37 [Arg.mk (.row (.pair .str (.pair (.row .str) (.pair (.row .str) .tree)))) h] [.bool] (λb:Bool=>((!b)=Ta->R a)/\((!b)=Tc->PC Tp gl 38 [Arg.mk (.row (.pair .str (.pair (.row .str) (.pair (.row .str) .tree)))) h] [.str,.int .i64] (λc:Bt×Int=>PC Tp gl 39 [Arg.mk (.row (.pair .str (.pair (.row .str) (.pair (.row .str) .tree)))) h] [.str,.int .i64] (λd:Bt×Int=>∃e:List Bt->Prop,((bif (bif a then(c.1.toList==d.1.toList)else Tc)then(c.2==d.2)else Tc)=Ta->PC Tp gl 41 [Arg.mk (.row (.pair .str (.pair (.row .str) (.pair (.row .str) .tree)))) h] [.row .str] e)/\∀f:List Bt,((bif (bif a then(c.1.toList==d.1.toList)else Tc)then(c.2==d.2)else Tc)=Ta->e f)->∃g:List Bt->Prop,((bif (bif a then(c.1.toList==d.1.toList)else Tc)then(c.2==d.2)else Tc)=Ta->PC Tp gl 42 [Arg.mk (.row (.pair .str (.pair (.row .str) (.pair (.row .str) .tree)))) h] [.row .str] g)/\∀i:List Bt,((bif (bif a then(c.1.toList==d.1.toList)else Tc)then(c.2==d.2)else Tc)=Ta->g i)->∃j:Bool->Prop,((bif (bif a then(c.1.toList==d.1.toList)else Tc)then(c.2==d.2)else Tc)=Ta->PC Tp gl 40 [Arg.mk (.row .str) f,Arg.mk (.row .str) i] [.bool] j)/\∀k:Bool,((bif (bif a then(c.1.toList==d.1.toList)else Tc)then(c.2==d.2)else Tc)=Ta->j k)->R (bif (bif (bif a then(c.1.toList==d.1.toList)else Tc)then(c.2==d.2)else Tc)then k else Tc))))))):
  PC Tp gl 6 [Arg.mk (.row (.pair .str (.pair (.row .str) (.pair (.row .str) .tree)))) h] [.bool] R:=
 PF ⟨[],[],[],[]⟩ [.tmp 2] 43 Tryz.func6 H
theorem Ju(gl:Fr)(a0:Tr)(b1:Tr)(R:Bool->Prop) (H:PC Tp gl 30 [] [.bool] (λa:Bool=>PC Tp gl 12 [Arg.mk .tree (Tr.mk a0.kind a0.text a0.keys a0.items),Arg.mk (.int .i64) 120] [.bool] (λb:Bool=>∃c:Bool->Prop,(b=Ta->PC Tp gl 12 [Arg.mk .tree (Tr.mk b1.kind b1.text b1.keys b1.items),Arg.mk (.int .i64) 120] [.bool] c)/\∀d:Bool,(b=Ta->c d)->((!(bif b then d else Tc))=Ta->R a)/\((!(bif b then d else Tc))=Tc->PC Tp gl 33 [Arg.mk .tree (Tr.mk a0.kind a0.text a0.keys a0.items),Arg.mk .tree (Tr.mk b1.kind b1.text b1.keys b1.items)] [.row (.pair .str (.pair (.row .str) (.pair (.row .str) .tree))),.int .i64] (λe:(List (Bt×(List Bt)×(List Bt)×Tr))×Int=>PC Tp gl 33 [Arg.mk .tree (Tr.mk b1.kind b1.text b1.keys b1.items),Arg.mk .tree (Tr.mk a0.kind a0.text a0.keys a0.items)] [.row (.pair .str (.pair (.row .str) (.pair (.row .str) .tree))),.int .i64] (λf:(List (Bt×(List Bt)×(List Bt)×Tr))×Int=>PC Tp gl 41 [Arg.mk (.row (.pair .str (.pair (.row .str) (.pair (.row .str) .tree)))) e.1] [.row .str] (λg:List Bt=>((e.2 != 0)=Ta->R (bif (bif a then(f.2==e.2)else Tc)then((XS .i64 ((XS .i64 ((e.1.length:Int)+(f.1.length:Int)))+(g.length:Int)):Int)==0)else Tc))/\((e.2 != 0)=Tc->∃i:Int->Prop,((bif a then(f.2==0)else Tc)=Ta->PC Tp gl 43 [Arg.mk .tree (Tr.mk a0.kind a0.text a0.keys a0.items)] [.int .i64] i)/\∀j:Int,((bif a then(f.2==0)else Tc)=Ta->i j)->∃k:Int->Prop,((bif a then(f.2==0)else Tc)=Ta->PC Tp gl 43 [Arg.mk .tree (Tr.mk b1.kind b1.text b1.keys b1.items)] [.int .i64] k)/\∀l:Int,((bif a then(f.2==0)else Tc)=Ta->k l)->∃m:Int->Prop,((bif (bif a then(f.2==0)else Tc)then(decide ((e.1.length:Int)<=(XS .i64 (j+l))))else Tc)=Ta->PC Tp gl 43 [Arg.mk .tree (Tr.mk a0.kind a0.text a0.keys a0.items)] [.int .i64] m)/\∀n:Int,((bif (bif a then(f.2==0)else Tc)then(decide ((e.1.length:Int)<=(XS .i64 (j+l))))else Tc)=Ta->m n)->∃o:Int->Prop,((bif (bif a then(f.2==0)else Tc)then(decide ((e.1.length:Int)<=(XS .i64 (j+l))))else Tc)=Ta->PC Tp gl 43 [Arg.mk .tree (Tr.mk b1.kind b1.text b1.keys b1.items)] [.int .i64] o)/\∀p:Int,((bif (bif a then(f.2==0)else Tc)then(decide ((e.1.length:Int)<=(XS .i64 (j+l))))else Tc)=Ta->o p)->R (bif (bif (bif (bif (bif a then(f.2==0)else Tc)then(decide ((e.1.length:Int)<=(XS .i64 (j+l))))else Tc)then(decide ((f.1.length:Int)<=(XS .i64 (n+p))))else Tc)then((g.length:Int)==(e.1.length:Int))else Tc)then(((e.1.length:Int)==0)==((f.1.length:Int)==0))else Tc))))))))):
  PC Tp gl 7 [Arg.mk .tree a0,Arg.mk .tree b1] [.bool] R:=
 PF ⟨[],[(10,39,[],[0,1,2,3,4,5,6,7,8,10,9,11,12,13,14,15,16,17,18,20,19,21,22,23,24,25,26,27,28,29,30,31,32,33,34,35,36,37,38],[])],[],[]⟩ [.tmp 4] 96 Tryz.func7 H
theorem MX(gl:Fr)(h:List (Bt×(List Bt)×(List Bt)×Tr))(R:Bool->Prop) (H:∃(a:Int->Prop) (b:Int->Nat),a 0/\∀c:Int,a c->(((bif (decide (c<h.length))then(decide (c<40))else Tc)=Ta->∃d:Bt×(List Bt)×(List Bt)×Tr,(0<=c/\h[c.toNat]?=Td d)/\PC Tp gl 67 [Arg.mk (.row .str) d.2.1] [.bool] (λe:Bool=>∃f:Bt×(List Bt)×(List Bt)×Tr,(e=Ta->(0<=c/\h[c.toNat]?=Td f))/\∃g:Bool->Prop,(e=Ta->PC Tp gl 67 [Arg.mk (.row .str) f.2.2.1] [.bool] g)/\∀i:Bool,(e=Ta->g i)->∃j:Bt×(List Bt)×(List Bt)×Tr,((bif e then i else Tc)=Ta->(0<=c/\h[c.toNat]?=Td j))/\∃k:Bool->Prop,((bif e then i else Tc)=Ta->PC Tp gl 12 [Arg.mk .tree (Tr.mk j.2.2.2.kind j.2.2.2.text j.2.2.2.keys j.2.2.2.items),Arg.mk (.int .i64) 200] [.bool] k)/\∀l:Bool,((bif e then i else Tc)=Ta->k l)->∃m:Bt×(List Bt)×(List Bt)×Tr,((!(!(bif (bif e then i else Tc)then l else Tc)))=Ta->(0<=c/\h[c.toNat]?=Td m))/\((bif (!(bif (bif e then i else Tc)then l else Tc))then Ta else(decide ((m.1.size:Int)>100)))=Ta->R Tc)/\((bif (!(bif (bif e then i else Tc)then l else Tc))then Ta else(decide ((m.1.size:Int)>100)))=Tc->(a (XS .i64 (c+1))/\b (XS .i64 (c+1))<b c))))/\((bif (decide (c<h.length))then(decide (c<40))else Tc)=Tc->R (decide ((h.length:Int)<=30))))):
  PC Tp gl 37 [Arg.mk (.row (.pair .str (.pair (.row .str) (.pair (.row .str) .tree)))) h] [.bool] R:=
 PF ⟨[],[],[(2,⟨[(3,.one (.dat (.int .i64)))],[],[],[100192]⟩)],[]⟩ [.tmp 2] 51 Tryz.func37 H
theorem PE(gl:Fr)(h:List (Bt×(List Bt)×(List Bt)×Tr))(R:(Bt×Int)->Prop) (H:∃(a:Bt->Int->Prop) (b:Bt->Int->Nat),a (⟨#[]⟩:Bt) 0/\∀c:Bt,∀d:Int,a c d->((decide (d<h.length)=Ta->∃e:Bt×(List Bt)×(List Bt)×Tr,(0<=d/\h[d.toNat]?=Td e)/\PC Tp gl 71 [Arg.mk (.pair .str (.pair (.row .str) (.pair (.row .str) .tree))) (e.1,(e.2.1,(e.2.2.1,Tr.mk e.2.2.2.kind e.2.2.2.text e.2.2.2.keys e.2.2.2.items)))] [.bool] (λf:Bool=>((!f)=Ta->R ((⟨#[]⟩:Bt),1))/\((!f)=Tc->∃g:Bt×(List Bt)×(List Bt)×Tr,(0<=d/\h[d.toNat]?=Td g)/\zw (c.size+g.1.size)/\zw ((c++g.1).size+((⟨#[32]⟩:Bt)).size)/\∃i:Bt×(List Bt)×(List Bt)×Tr,(0<=d/\h[d.toNat]?=Td i)/\PC Tp gl 72 [Arg.mk (.row .str) i.2.1] [.str] (λj:Bt=>zw (((c++g.1)++(⟨#[32]⟩:Bt)).size+j.size)/\∀k:Bt->Prop,(∀l:Bt,(∃m:Bt×(List Bt)×(List Bt)×Tr,(0<=d/\h[d.toNat]?=Td m)/\((m.2.2.2.kind != 0)=Ta->∃n:Bt×(List Bt)×(List Bt)×Tr,(0<=d/\h[d.toNat]?=Td n)/\PC Tp gl 73 [Arg.mk .tree (Tr.mk n.2.2.2.kind n.2.2.2.text n.2.2.2.keys n.2.2.2.items)] [.str,.int .i64] (λo:Bt×Int=>zw (l.size+((⟨#[32]⟩:Bt)).size)/\zw ((l++(⟨#[32]⟩:Bt)).size+o.1.size)/\zw (((l++(⟨#[32]⟩:Bt))++o.1).size+((⟨#[10]⟩:Bt)).size)/\(a (((l++(⟨#[32]⟩:Bt))++o.1)++(⟨#[10]⟩:Bt)) (XS .i64 (d+1))/\b (((l++(⟨#[32]⟩:Bt))++o.1)++(⟨#[10]⟩:Bt)) (XS .i64 (d+1))<b c d)))/\((m.2.2.2.kind != 0)=Tc->zw (l.size+((⟨#[10]⟩:Bt)).size)/\(a (l++(⟨#[10]⟩:Bt)) (XS .i64 (d+1))/\b (l++(⟨#[10]⟩:Bt)) (XS .i64 (d+1))<b c d)))->k l)->∃p:Bt×(List Bt)×(List Bt)×Tr,(0<=d/\h[d.toNat]?=Td p)/\∃q:Bt×(List Bt)×(List Bt)×Tr,((!(p.1.toList==(⟨#[109,111,118,101]⟩:Bt).toList))=Ta->(0<=d/\h[d.toNat]?=Td q))/\((bif (p.1.toList==(⟨#[109,111,118,101]⟩:Bt).toList)then Ta else(q.1.toList==(⟨#[99,111,112,121]⟩:Bt).toList))=Ta->zw ((((c++g.1)++(⟨#[32]⟩:Bt))++j).size+((⟨#[32]⟩:Bt)).size)/\∃r:Bt×(List Bt)×(List Bt)×Tr,(0<=d/\h[d.toNat]?=Td r)/\PC Tp gl 72 [Arg.mk (.row .str) r.2.2.1] [.str] (λs:Bt=>zw (((((c++g.1)++(⟨#[32]⟩:Bt))++j)++(⟨#[32]⟩:Bt)).size+s.size)/\k (((((c++g.1)++(⟨#[32]⟩:Bt))++j)++(⟨#[32]⟩:Bt))++s)))/\((bif (p.1.toList==(⟨#[109,111,118,101]⟩:Bt).toList)then Ta else(q.1.toList==(⟨#[99,111,112,121]⟩:Bt).toList))=Tc->k (((c++g.1)++(⟨#[32]⟩:Bt))++j))))))/\(decide (d<h.length)=Tc->R (c,0)))):
  PC Tp gl 39 [Arg.mk (.row (.pair .str (.pair (.row .str) (.pair (.row .str) .tree)))) h] [.str,.int .i64] R:=
 PF ⟨[],[(8,14,[],[0,1,2,3,4,5,6,7,8,9,10,11,12,13],[])],[(3,⟨[(4,.one (.dat .str)),(5,.one (.dat (.int .i64)))],[],[],[100256,100320]⟩)],[(11,⟨[(4,.one (.dat .str))],[],[],[100256]⟩)]⟩ [.tmp 2,.tmp 3] 83 Tryz.func39 H
theorem Ts(gl:Fr)(h:List (Bt×(List Bt)×(List Bt)×Tr))(R:(List Bt)->Prop) (H:∃(a:(List Bt)->Int->Prop) (b:(List Bt)->Int->Nat),a [] 0/\∀c:List Bt,∀d:Int,a c d->((decide (d<h.length)=Ta->∃e:Bt×(List Bt)×(List Bt)×Tr,(0<=d/\h[d.toNat]?=Td e)/\PC Tp gl 75 [Arg.mk (.row .str) e.2.1] [.str,.int .i64] (λf:Bt×Int=>((c.length+ZM ([f.1]:List Bt))*16<=140737488355328/\(a (c++[f.1]) (XS .i64 (d+1))/\b (c++[f.1]) (XS .i64 (d+1))<b c d))))/\(decide (d<h.length)=Tc->R c))):
  PC Tp gl 41 [Arg.mk (.row (.pair .str (.pair (.row .str) (.pair (.row .str) .tree)))) h] [.row .str] R:=
 PF ⟨[],[],[(3,⟨[(3,.one (.own 9 .str)),(10,.one (.dat (.int .i64)))],[],[],[100192,100640]⟩)],[]⟩ [.tmp 2] 26 Tryz.func41 H
theorem U8(gl:Fr)(h:List (Bt×(List Bt)×(List Bt)×Tr))(R:(List Bt)->Prop) (H:∃(a:(List Bt)->Int->Prop) (b:(List Bt)->Int->Nat),a [] 0/\∀c:List Bt,∀d:Int,a c d->((decide (d<h.length)=Ta->∃e:Bt×(List Bt)×(List Bt)×Tr,(0<=d/\h[d.toNat]?=Td e)/\PC Tp gl 76 [Arg.mk (.row .str) e.2.1] [.str,.int .i64] (λf:Bt×Int=>((c.length+ZM ([f.1]:List Bt))*16<=140737488355328/\(a (c++[f.1]) (XS .i64 (d+1))/\b (c++[f.1]) (XS .i64 (d+1))<b c d))))/\(decide (d<h.length)=Tc->R c))):
  PC Tp gl 42 [Arg.mk (.row (.pair .str (.pair (.row .str) (.pair (.row .str) .tree)))) h] [.row .str] R:=
 PF ⟨[],[],[(3,⟨[(3,.one (.own 9 .str)),(4,.one (.dat (.int .i64)))],[],[],[100192,100256]⟩)],[]⟩ [.tmp 2] 27 Tryz.func42 H
theorem SF(gl:Fr)(h:Bt×(List Bt)×(List Bt)×Tr)(R:Bool->Prop) (H:PC Tp gl 77 [Arg.mk .str h.1] [.bool,.bool,.bool] (λa:Bool×Bool×Bool=>∀b:Bool->Prop,(∀c:Bool,((c=Ta->R Tc)/\(c=Tc->(a.1=Ta->PC Tp gl 49 [Arg.mk .tree (Tr.mk h.2.2.2.kind h.2.2.2.text h.2.2.2.keys h.2.2.2.items)] [.bool] (λd:Bool=>R d))/\(a.1=Tc->PC Tp gl 79 [Arg.mk .tree (Tr.mk h.2.2.2.kind h.2.2.2.text h.2.2.2.keys h.2.2.2.items)] [.bool] (λe:Bool=>R e))))->b c)->((!a.2.2)=Ta->b (!a.2.2))/\((!a.2.2)=Tc->PC Tp gl 78 [Arg.mk (.row .str) h.2.1] [.bool] (λf:Bool=>((!f)=Ta->b (!f))/\((!f)=Tc->PC Tp gl 78 [Arg.mk (.row .str) h.2.2.1] [.bool] (λg:Bool=>((!g)=Ta->b (!g))/\((!g)=Tc->b (bif (!a.2.1)then(decide ((h.2.2.1.length:Int)>0))else Tc)))))))):
  PC Tp gl 44 [Arg.mk (.pair .str (.pair (.row .str) (.pair (.row .str) .tree))) h] [.bool] R:=
 PF ⟨[],[],[],[(6,⟨[(13,.one (.dat .bool))],[],[1],[100832]⟩)]⟩ [.tmp 2] 40 Tryz.func44 H
theorem NS(gl:Fr)(f:Bt×(List Bt)×(List Bt)×Tr)(R:Bool->Prop) (H:PC Tp gl 128 [Arg.mk .str f.1] [.bool,.bool,.bool] (λa:Bool×Bool×Bool=>PC Tp gl 129 [Arg.mk (.row .str) f.2.1] [.bool] (λb:Bool=>PC Tp gl 129 [Arg.mk (.row .str) f.2.2.1] [.bool] (λc:Bool=>((bif (bif (bif (!a.2.2)then Ta else(!b))then Ta else(!c))then Ta else(bif (!a.2.1)then(decide ((f.2.2.1.length:Int)>0))else Tc))=Ta->R Tc)/\((bif (bif (bif (!a.2.2)then Ta else(!b))then Ta else(!c))then Ta else(bif (!a.2.1)then(decide ((f.2.2.1.length:Int)>0))else Tc))=Tc->(a.1=Ta->PC Tp gl 57 [Arg.mk .tree (Tr.mk f.2.2.2.kind f.2.2.2.text f.2.2.2.keys f.2.2.2.items)] [.bool] (λd:Bool=>R d))/\(a.1=Tc->PC Tp gl 130 [Arg.mk .tree (Tr.mk f.2.2.2.kind f.2.2.2.text f.2.2.2.keys f.2.2.2.items)] [.bool] (λe:Bool=>R e))))))):
  PC Tp gl 71 [Arg.mk (.pair .str (.pair (.row .str) (.pair (.row .str) .tree))) f] [.bool] R:=
 PF ⟨[],[],[],[]⟩ [.tmp 2] 48 Tryz.func71 H
theorem VA(gl:Fr)(c:List Bt)(R:Bt->Prop) (H:PC Tp gl 76 [Arg.mk (.row .str) c] [.str,.int .i64] (λa:Bt×Int=>PC Tp gl 131 [Arg.mk .str a.1] [.str,.int .i64] (λb:Bt×Int=>R b.1))):
  PC Tp gl 72 [Arg.mk (.row .str) c] [.str] R:=
 PF ⟨[],[],[],[]⟩ [.tmp 2] 18 Tryz.func72 H
theorem WN(gl:Fr)(c:Bt)(R:(Bool×Bool×Bool)->Prop) (H:∀a:Bool->Prop,(∀b:Bool,((b=Ta->R (Ta,Tc,Ta))/\(b=Tc->((c.toList==(⟨#[109,111,118,101]⟩:Bt).toList)=Ta->((c.toList==(⟨#[109,111,118,101]⟩:Bt).toList)=Ta->R (Tc,Ta,Ta))/\((c.toList==(⟨#[109,111,118,101]⟩:Bt).toList)=Tc->R (Tc,Tc,(c.toList==(⟨#[114,101,109,111,118,101]⟩:Bt).toList))))/\((c.toList==(⟨#[109,111,118,101]⟩:Bt).toList)=Tc->((c.toList==(⟨#[99,111,112,121]⟩:Bt).toList)=Ta->R (Tc,Ta,Ta))/\((c.toList==(⟨#[99,111,112,121]⟩:Bt).toList)=Tc->R (Tc,Tc,(c.toList==(⟨#[114,101,109,111,118,101]⟩:Bt).toList))))))->a b)->((c.toList==(⟨#[97,100,100]⟩:Bt).toList)=Ta->a (c.toList==(⟨#[97,100,100]⟩:Bt).toList))/\((c.toList==(⟨#[97,100,100]⟩:Bt).toList)=Tc->((c.toList==(⟨#[114,101,112,108,97,99,101]⟩:Bt).toList)=Ta->a (c.toList==(⟨#[114,101,112,108,97,99,101]⟩:Bt).toList))/\((c.toList==(⟨#[114,101,112,108,97,99,101]⟩:Bt).toList)=Tc->a (c.toList==(⟨#[116,101,115,116]⟩:Bt).toList)))):
  PC Tp gl 77 [Arg.mk .str c] [.bool,.bool,.bool] R:=
 PF ⟨[],[],[],[(5,⟨[(6,.one (.dat .bool))],[],[],[100384]⟩)]⟩ [.tmp 2,.tmp 3,.tmp 4] 15 Tryz.func77 H
theorem SU(gl:Fr)(b:Tr)(R:Bool->Prop) (H:R (bif (bif (b.kind==0)then(b.text.toList==(⟨#[]⟩:Bt).toList)else Tc)then((XS .i64 ((b.keys.length:Int)+(b.items.length:Int)))==0)else Tc)):
  PC Tp gl 79 [Arg.mk .tree b] [.bool] R:=
 PF ⟨[],[],[],[]⟩ [.tmp 2] 21 Tryz.func79 H
theorem QZ(gl:Fr)(c:List Bt)(R:Bt->Prop) (H:PC Tp gl 75 [Arg.mk (.row .str) c] [.str,.int .i64] (λa:Bt×Int=>PC Tp gl 125 [Arg.mk .str a.1] [.str,.int .i64] (λb:Bt×Int=>R b.1))):
  PC Tp gl 124 [Arg.mk (.row .str) c] [.str] R:=
 PF ⟨[],[],[],[]⟩ [.tmp 2] 18 Tryz.func124 H
theorem Ni(gl:Fr)(c:Bt)(R:(Bool×Bool×Bool)->Prop) (H:∀a:Bool->Prop,(∀b:Bool,((b=Ta->R (Ta,Tc,Ta))/\(b=Tc->((c.toList==(⟨#[114,101,109,111,118,101]⟩:Bt).toList)=Ta->R (Tc,Tc,Ta))/\((c.toList==(⟨#[114,101,109,111,118,101]⟩:Bt).toList)=Tc->((c.toList==(⟨#[109,111,118,101]⟩:Bt).toList)=Ta->((c.toList==(⟨#[109,111,118,101]⟩:Bt).toList)=Ta->R (Tc,Ta,Ta))/\((c.toList==(⟨#[109,111,118,101]⟩:Bt).toList)=Tc->R (Tc,Tc,Tc)))/\((c.toList==(⟨#[109,111,118,101]⟩:Bt).toList)=Tc->((c.toList==(⟨#[99,111,112,121]⟩:Bt).toList)=Ta->R (Tc,Ta,Ta))/\((c.toList==(⟨#[99,111,112,121]⟩:Bt).toList)=Tc->R (Tc,Tc,Tc))))))->a b)->((c.toList==(⟨#[97,100,100]⟩:Bt).toList)=Ta->a (c.toList==(⟨#[97,100,100]⟩:Bt).toList))/\((c.toList==(⟨#[97,100,100]⟩:Bt).toList)=Tc->((c.toList==(⟨#[114,101,112,108,97,99,101]⟩:Bt).toList)=Ta->a (c.toList==(⟨#[114,101,112,108,97,99,101]⟩:Bt).toList))/\((c.toList==(⟨#[114,101,112,108,97,99,101]⟩:Bt).toList)=Tc->a (c.toList==(⟨#[116,101,115,116]⟩:Bt).toList)))):
  PC Tp gl 128 [Arg.mk .str c] [.bool,.bool,.bool] R:=
 PF ⟨[],[],[],[(5,⟨[(6,.one (.dat .bool))],[],[],[100384]⟩)]⟩ [.tmp 2,.tmp 3,.tmp 4] 15 Tryz.func128 H
theorem UG(gl:Fr)(b:Tr)(R:Bool->Prop) (H:R (bif (bif (bif (b.kind==0)then(b.text.toList==(⟨#[]⟩:Bt).toList)else Tc)then((b.keys.length:Int)==0)else Tc)then((b.items.length:Int)==0)else Tc)):
  PC Tp gl 130 [Arg.mk .tree b] [.bool] R:=
 PF ⟨[],[],[],[]⟩ [.tmp 2] 23 Tryz.func130 H
theorem RL(gl:Fr)(h:List Tr)(R:((List ((List Bt)×List Int))×Int)->Prop) (H:∃(a:Int->Prop) (b:Int->Nat),a 0/\∀c:Int,a c->((decide (c<h.length)=Ta->∃d,(0<=c/\h[c.toNat]?=Td d)/\PC Tp gl 49 [Arg.mk .tree (Tr.mk d.kind d.text d.keys d.items)] [.bool] (λe:Bool=>((!e)=Ta->R ([],1))/\((!e)=Tc->(a (XS .i64 (c+1))/\b (XS .i64 (c+1))<b c))))/\(decide (c<h.length)=Tc->(decide ((h.length:Int)>64)=Ta->R ([],6))/\(decide ((h.length:Int)>64)=Tc->∃(f:(List ((List Bt)×List Int))->Int->Int->Prop) (g:(List ((List Bt)×List Int))->Int->Int->Nat),f [] 512 0/\∀i:List ((List Bt)×List Int),∀j k:Int,f i j k->((decide (k<h.length)=Ta->∃l,(0<=k/\h[k.toNat]?=Td l)/\PC Tp gl 14 [Arg.mk .tree (Tr.mk l.kind l.text l.keys l.items)] [.pair (.row .str) (.row (.int .i64)),.int .i64] (λm:((List Bt)×List Int)×Int=>((bif (m.2 != 0)then Ta else(decide ((XS .i64 (j-(m.1.1.length:Int)))<0)))=Ta->R ([],6))/\((bif (m.2 != 0)then Ta else(decide ((XS .i64 (j-(m.1.1.length:Int)))<0)))=Tc->((i.length+ZM ([(m.1.1,m.1.2)]:List ((List Bt)×List Int)))*48<=140737488355328/\(f (i++[(m.1.1,m.1.2)]) (XS .i64 (j-(m.1.1.length:Int))) (XS .i64 (k+1))/\g (i++[(m.1.1,m.1.2)]) (XS .i64 (j-(m.1.1.length:Int))) (XS .i64 (k+1))<g i j k)))))/\(decide (k<h.length)=Tc->R (i,0))))))):
  PC Tp gl 182 [Arg.mk (.row .tree) h] [.row (.pair (.row .str) (.row (.int .i64))),.int .i64] R:=
 PF ⟨[],[],[(2,⟨[(14,.one (.dat (.int .i64)))],[],[],[100896]⟩),(12,⟨[(6,.one (.own 31 (.pair (.row .str) (.row (.int .i64))))),(7,.one (.dat (.int .i64))),(27,.one (.dat (.int .i64)))],[],[],[100384,100448,101728]⟩)],[]⟩ [.tmp 2,.tmp 3] 53 Tryz.func182 H
end
end Go.X
end
section
namespace Go.X
open Go Go.X Go.Proofs Go.RowKit
section
variable {b:Nat} {h h':zc} {ln:Bool} {nd:Int} {l:Bs} {K:Value -> zc -> Prop}
def nU(o:Obj):Bool:=match o with
 |.cells _ T _=>!(Nat.beq T 5) && !(Nat.beq T 207)
 |_=>Ta
def Otk(h h':zc):Prop:=∀(i:Nat) (o:Obj),h[i]?=Td o->nU o=Ta->h'[i]?=Td o
theorem Otk.trans{a b c:zc}(x:Otk a b)(y:Otk b c):Otk a c:=λi o e n=>y i o (x i o e n) n
theorem Otk.keep(k:Keep h.size h h'):Otk h h':=λi o e _=>by have hi:i<h.size:=(YE.1 e).1;rw[k.get i hi];exact e
theorem Otk.ne{cs:Array Value}{m:Nat×Nat}(e:h[b]?=Td (.cells cs 207 m))(f:∀i,i≠b->h'[i]?=h[i]?):Otk h h':=λi o c n=>by by_cases hi:i=b;subst hi;rw[e]at c;cases c;cases n;rw[f i hi];exact c
theorem Otk.own{base:Nat}{sz:Nat}{s:Sl}{xs:List Value}(H:Owns h base 5 sz s xs)(f:∀i,i<h.size->(∀p,s.a=Td p->i≠p.block)->h'[i]?=h[i]?):Otk h h':=λi o c n=>by have hi:i<h.size:=(YE.1 c).1;rw[f i hi λq l k=>?_];exact c;rcases H.2 with⟨b,_⟩|⟨g,cap,e,b,_,j,_⟩;rw[l]at b;cases b;have j:h[g]?=Td (.cells e 5 (0,0)):=j;rw[l]at b;injection b with e1 _ _;injection e1 with e1;rw[k,e1]at c;rw[j]at c;cases c;cases n
theorem No:liesAt Tp ZB.depth 207 (4 / ZB.cellsOf 207) 0 89 1=Ta:=by kernel_rfl
def Prn(h:zc)(b:Nat)(ln:Bool)(nd:Int)(l:Bs):Prop:=∃(p:Option Addr) (s:Sl),h[b]?=Td (.cells #[.pointer p,aK s,.bool ln,.int .i64 nd] 207 (0,0))/\(p=Te\/p=Td ⟨b,0,Te⟩)/\Owns h (b+1) 5 1 s (Lib.byteCells l)
theorem Prn.lt(H:Prn h b ln nd l):b<h.size:=by obtain⟨p,s,e,_⟩:=H;rcases ZX b h.size with q|q;exact q;rw[Array.getElem?_eq_none q]at e;cases e
theorem Prn.keep(H:Prn h b ln nd l)(k:Keep h.size h h'):Prn h' b ln nd l:=by have c:=H.lt;obtain⟨p,s,e,f,i⟩:=H;exact⟨p,s,by rw[k.get b c];exact e,f,i.keepN k⟩
theorem Prn.new(h:zc)(ln:Bool)(nd:Int):Prn (h.push (.cells #[.pointer Te,.slice Te 0 0,.bool ln,.int .i64 nd] 207)) h.size ln nd []:= ⟨Te,⟨Te,0,0⟩,qm _ _,.inl rfl,Owns.nil _ _ _ _⟩
set_option maxHeartbeats 1000000 in
set_option maxRecDepth 100000 in
theorem NY(b:Nat)(w:World)(h0:w.cell? ⟨b,0,Te⟩=Td (.pointer Te))(c:w.shape? b=Td (207,4))(i:w.frozen? ⟨b,0,Te⟩=Tc):
  Calls Tp 123 #[.pointer (Td ⟨b,0,Te⟩)] w λe w'=>e=.returned (.tuple #[])/\w'=w.setCell ⟨b,0,Te⟩ (.pointer (Td ⟨b,0,Te⟩)):=by
 obtain⟨j,h,f⟩:=zbk.1 Bj;have mixed:=Tryz.mixed
 go_enter Tryz.func123,Tryz.ntmps123
 go_wp2
 rw[Lib.run_to_unsafe w ⟨b,0,Te⟩ qR vN h (by rw[f];decide) c (Nat.zero_lt_succ 3)];simp only[Result.andThen];rw[Oper.upon_value]
 go_wp2
 rw[run_callFunc_extern Tryz.func195 (by kernel_rfl) (by kernel_rfl) (by kernel_rfl) (e:=zdz) (by kernel_rfl)];rw[Lib.run_noEscape];simp only[Result.andThen];rw[Oper.upon_value]
 go_wp2
 rw[Lib.run_from_unsafe w ⟨b,0,Te⟩ vN qR h c No];simp only[Result.andThen];rw[Oper.upon_value]
 go_wp2
 go_end0
 exact⟨rfl,rfl⟩
theorem Ha(H:Prn h b ln nd l)(k:∀h',Prn h' b ln nd l->Keep b h h'->h'.size=h.size->Otk h h'->K (.tuple #[]) h'):XC Tp 123 #[.pointer (Td ⟨b,0,Te⟩)] h K:=by
 have j:=H.lt;obtain⟨p,s,e,m,f⟩:=H;have c:∀B d,(mk B d h).cell? ⟨b,0,Te⟩=Td (.pointer p):=λB d=>by have:(mk B d h).heap[b]?=Td (.cells #[.pointer p,aK s,.bool ln,.int .i64 nd] 207 (0,0)):=e;simp[World.cell?,this]
 rcases m with rfl|rfl;refine XC.of_calls λB d=>(NY b (mk B d h) (c B d) ?_ ?_).mono ?_
 have:(mk B d h).heap[b]?=Td (.cells #[.pointer Te,aK s,.bool ln,.int .i64 nd] 207 (0,0)):=e;simp[World.shape?,this];exact vV ⟨_,e⟩ B d;rintro e' w' ⟨rfl,rfl⟩;rw[H9 e];refine⟨_,rfl,rfl,rfl,rfl,?_⟩;show K _ (h.setIfInBounds b _);refine k _ ⟨_,s,?_,.inr rfl,?_⟩ ?_ (by simp) (Otk.ne e λi hi=>YV (Ne.symm hi));rw[zbf j];rfl;refine f.keep λq n=>?_;have:=f.base_le q n;rw[YV (by omega)];exact Keep.setBlk _ (XV _);refine XC.of_calls λB d=>(EP b (mk B d h) (c B d)).mono ?_;rintro e' w' ⟨rfl,rfl⟩;exact⟨_,rfl,rfl,rfl,rfl,k _ ⟨_,s,e,.inr rfl,f⟩ (Keep.refl _ _) rfl (Otk.keep (Keep.refl _ _))⟩
theorem HU{p:Option Addr}{s t:Sl}(e:h[b]?=Td (.cells #[.pointer p,aK t,.bool ln,.int .i64 nd] 207 (0,0)))(k:p=Te\/p=Td ⟨b,0,Te⟩)(i:Owns h (b+1) 5 1 s (Lib.byteCells l)){K:zc->Prop}
  (r:∀h',Prn h' b ln nd l->Keep b h h'->h'.size=h.size->Otk h h'->K h'):XRunU Tp (YG 87 (.pointer (Td ⟨b,1,Te⟩)) (.slice s.a s.len s.cap)) h K:=by
 intro B d;obtain⟨h',n,j,f,c⟩:=Q9 (P:=Tp) Gm Ek e (o:=1) (v:=aK s) rfl (by simp) (by simp[aK,Value.cells,Value.oneCell']) B d;refine⟨d,h',n,r h' ⟨p,s,?_,k,?_⟩ (Keep.ne f c) f (Otk.ne e c)⟩;rw[j];rfl;refine i.keep λq m=>?_;have:=i.base_le q m;exact c _ (by omega)
theorem Qu(H:Prn h b ln nd l)(T:l.length<140737488355328)(c:UInt8)(P:∀h',Prn h' b ln nd (l++[c])->Keep b h h'->Otk h h'->K .nilIface h'):
  XC Tp 133 #[.pointer (Td ⟨b,0,Te⟩),.int .u8 (c.toNat:Int)] h K:=by
 apply j8;refine Ha H λf B k2 Y F=>⟨rfl,_,rfl,?_⟩;have x:=B.lt;obtain⟨p,s,e,Q,t⟩:=B;have m:=t.1;rw[Lib.byteCells_length,zac]at m;refine⟨s,Blk.cellAdd (o:=0) (k:=1) (cs:=#[.pointer p,aK s,.bool ln,.int .i64 nd]) ⟨_,e⟩ rfl,?_⟩;intro j;have r:Keep f.size f j:=Keep.push _ _ (XV _);have U:j.size=f.size+1:=XY _;have b5:Blk j f.size #[.int .u8 (c.toNat:Int)]:=Blk.new _ _ _;have D:j[b]?=Td (.cells #[.pointer p,aK s,.bool ln,.int .i64 nd] 207 (0,0)):=by rw[r.get b x];exact e
 have A:=t.keepN r;clear_value j;refine Zs vt A (src:=⟨Td ⟨f.size,0,Te⟩,1,1⟩) (news:=[.int .u8 (c.toNat:Int)]) (n:=j.size) ?_ rfl (by simp[Value.oneCell']) (by simp only;omega) (by simp only;omega) (by omega) λC z Z I u q4 S=>⟨C,rfl,_,rfl,?_⟩;refine .inr ⟨f.size,0,rfl,by omega,λi v w=>?_⟩
 match i,w with
 |0,w=>cases w;exact b5.cell rfl
 have M:z[b]?=Td (.cells #[.pointer p,aK s,.bool ln,.int .i64 nd] 207 (0,0)):=by rw[u b (by omega) λq y=>by have:=t.base_le q y;omega];exact D
 have E:Owns z (b+1) 5 1 C (Lib.byteCells (l++[c])):=by
  have:Lib.byteCells (l++[c])=Lib.byteCells l++[.int .u8 (c.toNat:Int)]:=by unfold Lib.byteCells;rw[ZT];rfl
  rw[this];exact I
 have G:Keep b h z:=k2.trans ⟨by omega,λi hi=>by rw[u i (by omega) λq y=>by have:=t.base_le q y;omega];exact r.get i (by omega)⟩ (XV _);refine HU M Q E λO J L V N=>P O J (G.trans L (XV _)) (F.trans ((Otk.keep r).trans ((Otk.own A u).trans N)))
theorem Yy(H:Prn h b ln nd l)(t:Bs)(hl:l.length+t.length<=140737488355328)(N:∀h',Prn h' b ln nd (l++t)->Keep b h h'->Otk h h'->K (.tuple #[.int .i64 (t.length:Int),.nilIface]) h'):
  XC Tp 68 #[.pointer (Td ⟨b,0,Te⟩),.string (bl t)] h K:=by
 apply jk;refine Ha H λC z k2 U F=>⟨rfl,_,rfl,?_⟩;have A:=z.lt;obtain⟨p,s,e,Q,j⟩:=z;have f:=j.1;rw[Lib.byteCells_length,zac]at f;refine⟨s,Blk.cellAdd (o:=0) (k:=1) (cs:=#[.pointer p,aK s,.bool ln,.int .i64 nd]) ⟨_,e⟩ rfl,?_⟩;have c:=zk t;refine s7 vt j (x:=.string (bl t)) (m:=(bl t).size) (news:=Lib.byteCells t) (λB d=>?_) (by rw[c];omega) (by rw[c];omega) (by omega) λy u V S r Z Y=>⟨y,rfl,_,rfl,?_⟩;have:=Src.ofString (P:=Tp) (w:=mk B d C) EC (bl t);have O:byteCells (bl t)=Lib.byteCells t:=by unfold byteCells Lib.byteCells;have:(bl t).data.toList=t:=ww t;rw[this]
 rw[O]at this;exact this;have I:u[b]?=Td (.cells #[.pointer p,aK s,.bool ln,.int .i64 nd] 207 (0,0)):=by rw[r b (by omega) λq n=>by have:=j.base_le q n;omega];exact e
 have D:Owns u (b+1) 5 1 y (Lib.byteCells (l++t)):=by
  have:Lib.byteCells (l++t)=Lib.byteCells l++Lib.byteCells t:=by unfold Lib.byteCells;rw[ZT]
  rw[this];exact S
 have J:Keep b h u:=k2.trans ⟨by omega,λi hi=>r i (by omega) λq n=>by have:=j.base_le q n;omega⟩ (XV _);refine HU I Q D λM E G T L=>?_;rw[c];exact N M E (J.trans G (XV _)) (F.trans ((Otk.own j r).trans L))
theorem V2(b:Nat)(p:Value)(ln:Bool)(nd:Int)(v:Value)(l:Bs)(w:World)(n:w.heap[b]?=Td (.cells #[p,v,.bool ln,.int .i64 nd] 207 (0,0)))(f:w.ownsRow (b+1) 5 1 v l.length (Lib.byteCells l))(h0:l≠[]):
  Calls Tp 70 #[.pointer (Td ⟨b,0,Te⟩)] w λe w'=>e=.returned (.string ⟨l.toArray⟩)/\Below (b+1) w w':=by
 have h:l.length≠0:=by simpa using h0
 obtain⟨g,cap,c,rfl,k,u,z,t,A,m⟩:∃g cap c,v=.slice (Td ⟨g,0,Te⟩) l.length cap/\b+1<=g/\w.heap[g]?=Td (.cells c 5 (0,0))/\_:=by rcases f.2 with⟨_,hz⟩|⟨g,cap,c,C,r⟩;exact absurd hz h;exact⟨g,cap,c,C,r⟩
 have c1:w.drew.cell? ⟨b,1,Te⟩=Td (.slice (Td ⟨g,0,Te⟩) l.length cap):=by have:w.drew.heap[b]?=Td (.cells #[p,.slice (Td ⟨g,0,Te⟩) l.length cap,.bool ln,.int .i64 nd] 207 (0,0)):=n;rw[Lib.cell_of_heap this];rfl
 have y:(Builtin.unsafeSliceData_ #[87] 133 #[.slice (Td ⟨g,0,Te⟩) l.length cap]).run Tp w.drew=.ok (.pointer (Td ⟨g,0,Te⟩)) w.drew:= Lib.run_unsafeSliceData_row _ _ _ _ _ _ (by omega);have o:(Builtin.unsafeString_ #[133,3] 9 #[.pointer (Td ⟨g,0,Te⟩),.int .i64 l.length]).run Tp w.drew=.ok (.string ⟨l.toArray⟩) (w.drew.freeze ⟨g,0,Te⟩ l.length):=by refine Lib.run_unsafeString_row w.drew 133 3 9 5 Tryz.underlying133 (by kernel_rfl) g c.size (by have i:w.drew.heap[g]?=Td (.cells c 5 (0,0)):=u;simp[World.shape?,i]) l h0 (by omega) (by have:maxLen=9223372036854775807:=rfl;omega) ?_;intro j x B;have:=f.cells (g:=g) rfl j (.int .u8 x.toNat) (by simp[Lib.byteCells,B]);exact this
 have mixed:=Tryz.mixed
 go_enter Tryz.func70,Tryz.ntmps70
 go_wp2
 go_region_o
 all_goals (go_wp2;go_ret;exact⟨rfl,Lib.below_freeze (Below.drew (Below.refl (b+1) w)) (p:=⟨g,0,Te⟩) k _⟩)
theorem QO(H:Prn h b ln nd l)(h0:l≠[])(k:∀h',Keep b h h'->K (.string (bl l)) h'):XC Tp 70 #[.pointer (Td ⟨b,0,Te⟩)] h K:=by obtain⟨p,s,e,m,j⟩:=H;have f:=j.1;rw[Lib.byteCells_length,zac]at f;refine XC.of_calls λB d=>(V2 b (.pointer p) ln nd (aK s) l (mk B d h) e (by rw[f];exact j) h0).mono ?_;rintro e' w' ⟨rfl,c⟩;exact⟨_,rfl,c.os,c.tape,c.output,k _ ⟨c.size,λi hi=>c.block i (by omega)⟩⟩
end
end Go.X
end
section
namespace Go.X
open Go Go.Lib
section
def uX(r:Nat):Prop:=r<55296\/(57344<=r/\r<=1114111)
theorem Hr{x:Int}(h0:0<=x)(h1:x<256):(x.toNat.toUInt8).toNat=x.toNat:=by rw[Nat.toUInt8,UInt8.toNat_ofNat'];omega
theorem SS(l:Bs):uX (dec l).1:=by
 have h0:=(l.getD 0 0).toNat_lt;have h1:=(l.getD 1 0).toNat_lt;have c:=(l.getD 2 0).toNat_lt;have b:=(l.getD 3 0).toNat_lt;unfold uX dec decodeN;repeat' split
 all_goals omega
def iB(x:Tr):Bool:=decide (x.kind≠7)&&zl x
mutual
theorem BF{p q:Tr->Bool}(h:∀x,p x=Ta->q x=Ta):∀v:Tr,Zk p v=Ta->Zk q v=Ta
 |.mk k s ks xs,hv=>by rw[Zk,YH]at hv ⊢;exact⟨h _ hv.1,E6 h xs hv.2⟩
theorem E6{p q:Tr->Bool}(h:∀x,p x=Ta->q x=Ta):∀l:List Tr,mf p l=Ta->mf q l=Ta
 |[],_=>rfl
 |x::l,hl=>by rw[mf,YH]at hl ⊢;exact⟨BF h x hl.1,E6 h l hl.2⟩
end
end
section
theorem HE(a b:Bs):hY (a++b)=hY a++hY b:=by unfold hY;rw[zb2]
theorem EN(c:UInt8):(jU c).length<=6:=by
 unfold jU;repeat' split
 all_goals simp
theorem tT:∀l:Bs,(hY l).length<=6*l.length
 |[]=>by simp[hY]
 |c::l=>by have:=tT l;have h1:=EN c;have e:hY (c::l)=jU c++hY l:=rfl;rw[e,XX,YL];omega
theorem Vl{c:UInt8}(h:128<=c.toNat):jU c=[c]:=by
 have ne:∀n:Nat,n<128->c≠zat n:=λn b e=>by rw[e,UInt8.toNat_ofNat']at h;omega
 unfold jU;rw[za (by rintro(e|e);exact ne 34 (by omega) e;exact ne 92 (by omega) e),za (show¬c=8 from ne 8 (by omega)),za (show¬c=12 from ne 12 (by omega)),za (show¬c=10 from ne 10 (by omega)),za (show¬c=13 from ne 13 (by omega)),za (show¬c=9 from ne 9 (by omega)),za (by omega)]
theorem Cg:∀{l:Bs},(∀c∈l,128<=c.toNat)->hY l=l
 |[],_=>rfl
 |c::l,h=>by have e:hY (c::l)=jU c++hY l:=rfl;rw[e,Vl (h c YJ),Cg λx b=>h x (XZ _ b)];rfl
theorem Sp{r:Nat}(h:uX r)(j:128<=r):∀c∈encodeRune (r:Int),128<=c.toNat:=by
 unfold uX at h;intro c i;unfold encodeRune at i;obtain⟨x,b,rfl⟩:=ZI.1 i;have key:∀y:Int,x=y->128<=y->y<256->128<=x.toNat.toUInt8.toNat:=λy e h1 f=>by subst e;rw[Hr (by omega) f];omega
 by_cases f:r<=2047;rw[encodeRuneZ_two (by omega) (by omega)]at b;simp only[YB,zcx,or_false]at b;rcases b with e|e <;> exact key _ e (by omega) (by omega);by_cases k:r<=65535;rw[encodeRuneZ_three (by omega)]at b;simp only[YB,zcx,or_false]at b;rcases b with e|e|e <;> exact key _ e (by omega) (by omega);rw[encodeRuneZ_four (by omega) (by omega)]at b;simp only[YB,zcx,or_false]at b;rcases b with e|e|e|e <;> exact key _ e (by omega) (by omega)
def jV(r:Nat):Nat:=if r=34\/r=92 then r else if r=8 then 98 else if r=12 then 102 else if r=10 then 110 else if r=13 then 114 else if r=9 then 116 else 0
def vW(k:Nat):UInt8:=zat (if k<10 then 48+k else 87+k)
def oS(r:Nat):Bs:=if jV r≠0 then [92,zat (jV r)]else if 32<=r then encodeRune (r:Int)else [92,117,48,48,zat (48+r / 16),vW (r % 16)]
theorem UN:(ZN 128).all (λk=>decide (jU (zat k)=oS k))=Ta:=by kernel_rfl
theorem Mq{l:Bs}(h:l≠[])(j:i9 (dec l)=Tc):hY (l.take (dec l).2)=oS (dec l).1:=by
 by_cases f:(dec l).1<128;obtain⟨c,t,rfl⟩:=zb1 h;have k:c.toNat<128:=by
  rcases ZX c.toNat 128 with h1|h1;exact h1;exfalso;have b:=JI h j;have p:=(Z6 (c::t)).1;have o:encodeRune ((dec (c::t)).1:Int)=[((dec (c::t)).1:Int).toNat.toUInt8]:=by unfold encodeRune;rw[encodeRuneZ_one (by omega) (by omega)];rfl
  obtain⟨n,i⟩:∃n,(dec (c::t)).2=n+1:=⟨(dec (c::t)).2-1,by omega⟩;rw[o,i,zct]at b;injection b with b _;rw[<-b,Hr (by omega) (by omega)]at h1;omega
 rw[tP k]at f ⊢;have:=ZH.1 UN c.toNat (ZR.2 k);have:=zA this;rw[UInt8.ofNat_toNat]at this;rw[<-this];simp[hY];have f:128<=(dec l).1:=by omega
 have e:=JI h j;have m:jV (dec l).1=0:=by unfold jV;rw[za (by omega),za (by omega),za (by omega),za (by omega),za (by omega),za (by omega)]
 unfold oS;rw[za (by rw[m];exact λh=>h rfl),zb (by omega),<-e];exact Cg (Sp (SS l) f)
end
end Go.X
end
section
namespace Go.X
open Go Go.X Go.Proofs Go.RowKit
section
variable {h:zc} {it:Nat} {K:Value -> zc -> Prop} {gl:Fr} {t:Bs}
theorem Nr{P:Program}{s:Bt}{p:Nat}(e:h[it]?=Td (.stringIter s p)){T:TypeId}(h1:p<s.size->K (.tuple #[.bool Ta,.int .i64 (p:Int),.int .i32 (ki s p)]) (h.setIfInBounds it (.stringIter s (iN s p))))
  (h0:s.size<=p->K (.tuple #[.bool Tc]) h):yp P (zcg (.pointer (Td ⟨it,0,Te⟩)) Ta T) h K:=by
 have f:∀(w:World),w.heap[it]?=Td (.stringIter s p)->(getObj it).run P w=.ok (.stringIter s p) w:=λw e=>by simp[getObj,Sem.run,e]
 have i:∀(w:World) (c:Obj),w.heap[it]?=Td (.stringIter s p)->(setObj it c).run P w=.ok () { w with heap:=w.heap.setIfInBounds it c }:=λw c e=>by simp[setObj,Sem.run,e]
 intro B d;by_cases b:p<s.size;have k:iS s p=Ta:=by simpa[iS,zbo]using b
 have j:iN s p=p+(zdu s p).2:=by unfold iN;rw[show Nat.blt p s.size=Ta from k];rfl
 refine⟨_,d,_,?_,h1 b⟩;unfold zcg;simp only;rw[Sem.run_bind,f (mk B d h) e];simp only[Result.andThen_ok,b,if_true];rw[Sem.run_bind,i (mk B d h) _ e,j];rfl;refine⟨_,d,h,?_,h0 (by omega)⟩;unfold zcg;simp only;rw[Sem.run_bind,f (mk B d h) e];simp only[Result.andThen_ok,b,if_false];rfl
theorem Bld.other{h h':zc}{b:Nat}{l:Bs}(H:Bld h b l){s:Bt}{p:Nat}(e:h[it]?=Td (.stringIter s p))(f:∀i,i≠it->h'[i]?=h[i]?):Bld h' b l:=by obtain⟨q,r,n,u,o⟩:=H;refine⟨q,r,?_,u,o.keep λa t=>?_⟩;rw[f b (λc=>by rw[c,e]at n;cases n)];exact n;refine f _ λc=>?_;rcases o.2 with⟨j,_⟩|⟨g,cap,m,j,_,k,_⟩;rw[t]at j;cases j;have k:h[g]?=Td (.cells m 5 (0,0)):=k;rw[t]at j;injection j with e1 _ _;injection e1 with e1;rw[e1]at c;have c:g=it:=c;rw[c,e]at k;cases k
theorem Bld.zero(h:zc):Bld (h.push (.cells #[.pointer Te,.slice Te 0 0] 89)) h.size []:= ⟨Te,⟨Te,0,0⟩,qm _ _,.inl rfl,Owns.nil _ _ _ _⟩
theorem U6{r:Nat}(y:r<=1114111)(c:K (.int .u8 (jV r:Int)) h):XC Tp 197 #[.int .i32 (r:Int)] h K:=by
 apply Nx;intro w j;have i:∀n:Nat,((r:Int)==(n:Int))=decide (r=n):=λn=>by rw[YW];simp only[beq_iff_eq,zv];omega
 have l:((r:Int)==34)=decide (r=34):=i 34;have p:((r:Int)==92)=decide (r=92):=i 92;have x:((r:Int)==8)=decide (r=8):=i 8;have t:((r:Int)==12)=decide (r=12):=i 12;have o:((r:Int)==10)=decide (r=10):=i 10;have m:((r:Int)==13)=decide (r=13):=i 13;have u:((r:Int)==9)=decide (r=9):=i 9;unfold jV at c;have fin:∀b:Bool,(b=Ta↔r=34\/r=92)->w b h:=λb k=>by
  refine j _ _ ⟨λf=>?_,λf=>?_⟩;rw[zb (k.1 f)]at c;have e:XS .u8 (r:Int)=(r:Int):=by rcases k.1 f with rfl|rfl <;> rfl
  rw[e];exact c;rw[za (λh=>by rw[k.2 h]at f;cases f)]at c;rw[x,t,o,m,u];refine⟨λh=>?_,λh=>?_⟩;rw[zb (zA h)]at c;exact c;rw[za (zG h)]at c;refine⟨λh=>?_,λh=>?_⟩;rw[zb (zA h)]at c;exact c;rw[za (zG h)]at c;refine⟨λh=>?_,λh=>?_⟩;rw[zb (zA h)]at c;exact c;rw[za (zG h)]at c;refine⟨λh=>?_,λh=>?_⟩;rw[zb (zA h)]at c;exact c;rw[za (zG h)]at c;refine⟨λh=>?_,λh=>?_⟩;rw[zb (zA h)]at c;exact c;rw[za (zG h)]at c;exact c
 rw[l,p];refine⟨λf=>fin _ ?_,λf=>fin _ ?_⟩;rw[f];exact⟨λ_=>.inl (zA f),λ_=>rfl⟩;rw[zv];exact⟨.inr,λh=>h.resolve_left (zG f)⟩
theorem N9{c:Nat}(b:c<32):[92,117]++Lib.repeatL [48] (4-(gK c).length)++gK c=[92,117,48,48,zat (48+c / 16),vW (c % 16)]/\((gK c).length=1\/(gK c).length=2):=by
 have:(ZN 32).all (λc=>decide ([92,117]++Lib.repeatL [48] (4-(gK c).length)++gK c=[92,117,48,48,zat (48+c / 16),vW (c % 16)]/\((gK c).length=1\/(gK c).length=2)))=Ta:=by kernel_rfl
 exact zA (ZH.1 this c (ZR.2 b))
set_option maxRecDepth 100000 in
set_option maxHeartbeats 4000000 in
theorem DG(hg:GL gl)(ht:t.length<=1048576){M:Fr}(hM:Fr.le gl M)(hb:Brn M)(ag:AgM M h)(Z:∀h',Keep h.size h h'->K (.tuple #[.string (bl (ik t).1),.int .i64 (ik t).2]) h'):
  XC Tp 125 #[.string (bl t)] h K:=by
 apply MU
 refine(Aj hg.tabs (l:=t) (by omega) (R:=λr=>r.2=Zv t) λk=>rfl).go hM ag (qk (a:=Arg.mk .str _) (rdStr _) ym) λv f M2 r L2 V hr=>?_
 obtain⟨n,is⟩:=r
 have hr:is=Zv t:=hr
 subst hr
 obtain⟨_,⟨u1,_,rfl,aD,u2,rfl,C⟩,rfl⟩:=V
 obtain rfl:=rG aD
 have C:u2=.bool (Zv t):=by rw[hG rfl]at C;simpa[Rd]using C
 subst C
 refine⟨_,_,rfl,?_⟩
 unfold ik at Z
 refine⟨λu=>?_,λu=>?_⟩
 ·have:Zv t=Tc:=by simpa using u
  rw[this]at Z
  exact Z f L2.keep
 have hu:Zv t=Ta:=by simpa using u
 rw[zb hu]at Z
 intro h5
 have k5:Keep f.size f h5:=Keep.push _ _ (XV _)
 have z5:h5.size=f.size+1:=XY _
 have B5:Bld h5 f.size []:=Bld.zero f
 clear_value h5
 have z2:=L2.keep.size
 refine Yf B5 (by simp) 34 λw B7 k7 i7=>⟨_,rfl,?_⟩
 have z7:f.size<w.size:=B7.lt
 intro E
 have k9:Keep w.size w E:=Keep.push _ _ (XV _)
 have z9:E.size=w.size+1:=XY _
 have B9:Bld E f.size [34]:=B7.keep k9
 have e9:E[w.size]?=Td (.stringIter (bl t) 0):=qm _ _
 clear_value E
 have I:Keep h.size h E:=⟨by omega,λj J=>by rw[k9.get j (by omega),k7.get j (by omega),k5.get j (by omega),L2.keep.get j J]⟩
 refine⟨λg=>∃p,p<=t.length/\Bld g f.size (34::hY (t.take p))/\g[w.size]?=Td (.stringIter (bl t) p)/\Zv (t.drop p)=Ta/\Keep f.size E g,λg=>match g[w.size]? with
  |some (.stringIter _ p)=>t.length-p
  |_=>0,⟨0,by omega,B9,e9,hu,Keep.refl _ _⟩,?_⟩
 rintro g ⟨p,hp,Bg,eg,A,kg⟩
 have aL:(hY (t.take p)).length<=6*t.length:=by
  have:=tT (t.take p)
  rw[ZP]at this;omega
 refine Nr eg (λQ=>.inr ⟨_,_,rfl,λ_=>?_,λu=>(by cases u)⟩) (λz=>.inl ⟨rfl,λu=>(by cases u),λ_=>?_⟩)
 ·-- a rune more
  rw[zk]at Q
  have hd:t.drop p≠[]:=by intro e;rw[List.drop_eq_nil_iff]at e;omega
  have G:i9 (dec (t.drop p))=Tc:=by
   rw[Jo hd]at A
   cases hbd:i9 (dec (t.drop p))with
   |true=>rw[hbd]at A;cases A
   |false=>rfl
  have O:Zv (t.drop (p+(dec (t.drop p)).2))=Ta:=by
   rw[Jo hd,G]at A
   rw[<-zcv];simpa using A
  have hq:=Mq hd G
  have hw:=Z6 (t.drop p)
  have T:=uU hd
  rw[zai]at T
  have H:=Ol (t.drop p)
  have o:hY (t.take (p+(dec (t.drop p)).2))=hY (t.take p)++oS (dec (t.drop p)).1:=by
   rw[<-hq,<-HE,List.take_add]
  rw[ui,re t p Q]
  generalize hr:(dec (t.drop p)).1=r at H o ⊢
  generalize hn:(dec (t.drop p)).2=n at hw T O o ⊢
  have ak:w.size<g.size:=(YE.1 eg).1
  generalize B:g.setIfInBounds w.size (.stringIter (bl t) (p+n))=h14
  have U:∀i,i≠w.size->h14[i]?=g[i]?:=λi hi=>by rw[<-B,YV (Ne.symm hi)]
  have al:h14[w.size]?=Td (.stringIter (bl t) (p+n)):=by rw[<-B,zbf ak]
  have aQ:h14.size=g.size:=by rw[<-B];simp
  have D:=Bg.other eg U
  have L:Keep f.size E h14:=⟨by have:=kg.size;omega,λj J=>by rw[U j (by omega)];exact kg.get j J⟩
  have fin:∀g':zc,Bld g' f.size (34::hY (t.take p)++oS r)->Keep f.size h14 g'->Itk h14 g'->(∃p,p<=t.length/\Bld g' f.size (34::hY (t.take p))/\g'[w.size]?=Td (.stringIter (bl t) p)/\Zv (t.drop p)=Ta/\Keep f.size E g') /\
    (match g'[w.size]? with|some (.stringIter _ p)=>t.length-p|_=>0)<(match g[w.size]? with|some (.stringIter _ p)=>t.length-p|_=>0):=λg' B' k' i'=>by
   have e':=i' _ _ _ al
   refine⟨⟨p+n,by omega,by rw[o];exact B',e',O,L.trans k' (XV _)⟩,?_⟩
   rw[e',eg]
   show t.length-(p+n)<t.length-p
   omega
  have aY:(34::hY (t.take p)).length=(hY (t.take p)).length+1:=rfl
  unfold oS at fin
  refine U6 H ⟨_,rfl,λu=>?_,λu=>?_⟩
  ·have h0:jV r≠0:=by intro e;rw[e]at u;simp at u
   rw[zb h0]at fin
   have ab:jV r<256:=by
    unfold jV
    repeat' split
    all_goals omega
   have e8:((zat (jV r)).toNat:Int)=(jV r:Int):=by rw[UInt8.toNat_ofNat'];omega
   refine Yf D (by omega) 92 λaO af aJ aE=>⟨_,rfl,?_⟩
   rw[<-e8]
   refine Yf af (by simp;omega) (zat (jV r)) λaB P az aI=>⟨_,rfl,?_⟩
   refine fin aB ?_ (aJ.trans az (XV _)) (aE.trans aI)
   rw[YS]at P;exact P
  ·have h0:jV r=0:=by
    have:((jV r:Int) != 0)=Tc:=u
    simpa using this
   rw[za (by rw[h0];exact λh=>h rfl)]at fin
   refine⟨λz=>?_,λb=>?_⟩
   ·have z:32<=r:=by have:=zA z;omega
    rw[zb z]at fin
    refine My D (by omega) (by omega) (by omega) λan m aG aH aF=>⟨_,_,rfl,?_⟩
    exact fin an aG aH aF
   ·have b:r<32:=by have:=zG b;omega
    rw[za (by omega)]at fin
    obtain⟨ax,aV⟩:=N9 b
    rw[eK (by omega)]
    have S:Keep h.size h h14:=⟨by have:=L.size;have:=I.size;omega,λj J=>by rw[L.get j (by omega),I.get j J]⟩
    have F:AgM M h14:=ag.keep S
    refine Ui b hb F λaT y=>⟨_,rfl,?_⟩
    have aM:(gK r).length<=4:=by omega
    rw[zk,eK (by omega),show(4:Int)-((gK r).length:Int)=((4-(gK r).length:Nat):Int)from by omega]
    refine(wW (gl:=gl) (s:=bl [48]) (c:=4-(gK r).length) (by omega) (by rw[zk];simp;omega) (R:=λx=>x=bl (Lib.repeatL [48] (4-(gK r).length))) (by rw[ww])).go hM (F.keep y) (qk (a:=Arg.mk .str _) (rdStr _) (qk (a:=Arg.mk (.int .i64) _) (jJ _ _) ym)) λv aA aP x N V u=>?_
    subst u
    have V:=oB (Y2.1 V)
    have ae:=Lib.repeatL_length [48] (4-(gK r).length)
    have hz:(Lib.repeatL [48] (4-(gK r).length)).length<=4:=by rw[ae];simp
    refine⟨_,V,?_,?_,?_⟩
    ·show zw ((bl [92,117]).size+(bl (Lib.repeatL [48] (4-(gK r).length))).size)
     unfold zw
     rw[zk,zk];simp only[YL,zag];omega
    ·show zw ((bl [92,117]++bl (Lib.repeatL [48] (4-(gK r).length))).size+(bl (gK r)).size)
     unfold zw
     rw[zr,zk,zk,XX];simp only[YL,zag];omega
    ·have e:((⟨#[92,117]⟩:Bt)++bl (Lib.repeatL [48] (4-(gK r).length)))++bl (gK r)=bl ([92,117]++Lib.repeatL [48] (4-(gK r).length)++gK r):=by
      show(bl [92,117]++bl (Lib.repeatL [48] (4-(gK r).length)))++bl (gK r)=_
      rw[zr,zr]
     rw[e,ax]
     have aU:=y.size
     have ai:=(D.keep y).keep N.keep
     have aC:Itk h14 aA:=(Itk.keep y).trans (Itk.keep N.keep)
     have aN:=D.lt
     refine FO ai _ (by simp only[YL,zag];omega) λah am aj au=>⟨_,_,rfl,?_⟩
     exact fin ah am (((y.mono (m:=f.size) (by omega)).trans (N.keep.mono (m:=f.size) (by omega)) (XV _)).trans aj (XV _)) (aC.trans au)
 ·rw[zk]at z
  have ay:p=t.length:=by omega
  subst ay
  rw[YR]at Bg
  refine Yf Bg (by rw[YR]at aL;simp;omega) 34 λaZ ac Y aS=>⟨_,rfl,?_⟩
  refine Bw ac λar aa=>⟨_,rfl,?_⟩
  refine Z ar ⟨?_,λj J=>?_⟩
  ·have:=kg.size;have:=Y.size;have:=aa.size;omega
  ·rw[aa.get j (by omega),Y.get j (by omega),kg.get j (by omega),I.get j J]
theorem FP(j:GL gl)(i:Brn gl)(f:t.length<=1048576){R:Bt×Int->Prop}(e:R (bl (ik t).1,(ik t).2)):PC Tp gl 125 [Arg.mk .str (bl t)] [.str,.int .i64] R:=by
 intro h M vs b ag c
 match vs,c with
 |[u1],⟨a1,_⟩=>obtain rfl:=oB (s:=bl t) a1;apply PX.of;exact DG j f b (i.mono b) ag λh' k=>⟨M,_,Later.same ag k,⟨[_,_],⟨_,_,rfl,rdStr _,_,rfl,jJ _ _⟩,rfl⟩,e⟩
end
end Go.X
end
section
namespace Go.X
open Go Go.Lib
section
def Zf(ln:Bool)(nd lv:Nat):Bs:=if ln then 10::za9 (nd*lv) 32 else []
def w7(ln:Bool)(nd lv:Nat):List Bs->Bs
 |[]=>[]
 |p::ps=>Zf ln nd lv++p++ps.flatMap λq=>44::(Zf ln nd lv++q)
def jE(ln:Bool)(nd lv:Nat)(ps:List Bs):Bs:=w7 ln nd (lv+1) ps++(if ps=[]then []else Zf ln nd lv)
def jp(ln:Bool)(k:Bt)(p:Bs):Bs:=(ik (lb k)).1++58::((if ln then [32]else [])++p)
mutual
def Qv(ln:Bool)(nd:Nat):Tr->Nat->Bs
 |.mk k s ks xs,lv=>if k=1 then [110,117,108,108]else if k=4 then(ik (lb s)).1 else if k=5 then 91::jE ln nd lv (pI ln nd xs (lv+1))++[93]
  else if k=6 then 123::jE ln nd lv (List.zipWith (jp ln) ks (pI ln nd xs (lv+1)))++[125]else lb s
def pI(ln:Bool)(nd:Nat):List Tr->Nat->List Bs
 |[],_=>[]
 |x::l,lv=>Qv ln nd x lv::pI ln nd l lv
end
theorem DW(ln:Bool)(nd:Nat)(lv:Nat):∀l:List Tr,pI ln nd l lv=l.map λx=>Qv ln nd x lv
 |[]=>rfl
 |x::l=>by rw[pI,DW ln nd lv l];rfl
theorem Yg(ln:Bool)(nd:Nat)(v:Tr)(lv:Nat):Qv ln nd v lv=if v.kind=1 then [110,117,108,108]else if v.kind=4 then(ik (lb v.text)).1 else if v.kind=5 then 91::jE ln nd lv (v.items.map λx=>Qv ln nd x (lv+1))++[93]
  else if v.kind=6 then 123::jE ln nd lv (List.zipWith (jp ln) v.keys (v.items.map λx=>Qv ln nd x (lv+1)))++[125]else lb v.text:=by
 cases v with
 |mk k s ks xs=>rw[Qv,DW]
theorem TI(ln:Bool)(nd lv:Nat)(ps:List Bs)(p:Bs):w7 ln nd lv (ps++[p])=w7 ln nd lv ps++((if ps=[]then []else [44])++(Zf ln nd lv++p)):=by
 cases ps with
 |nil=>simp[w7]
 |cons q b=>rw[ZU,w7,w7,zb2,za (by simp)];simp[YS]
theorem uv(ln:Bool)(nd lv:Nat){ps:List Bs}{n:Nat}(h:n<ps.length):w7 ln nd lv (ps.take (n+1))=w7 ln nd lv (ps.take n)++((if n=0 then []else [44])++(Zf ln nd lv++ps[n])):=by rw[YD h,TI];congr 2;by_cases h0:n=0;subst h0;rfl;rw[za h0,za (by intro e;rw[List.take_eq_nil_iff]at e;rcases e with e|e;exact h0 e;rw[e]at h;simp at h)]
theorem uf(ln:Bool)(nd lv:Nat){ps:List Bs}:∀{n:Nat},n<=ps.length->(w7 ln nd lv (ps.take n)).length<=(w7 ln nd lv ps).length:=by
 have step:∀k n,n+k=ps.length->(w7 ln nd lv (ps.take n)).length<=(w7 ln nd lv ps).length:=by
  intro k;induction k with
  |zero=>intro n h;rw[zco]at h;subst h;rw[YR];exact XV _
  |succ k b=>intro n h;have h1:=b (n+1) (by omega);rw[uv ln nd lv (by omega),XX]at h1;omega
 intro n h;exact step (ps.length-n) n (by omega)
theorem CH:∀n:Nat,repeatL [32] n=za9 n 32
 |0=>rfl
 |n+1=>by rw[show repeatL [32] (n+1)=[32]++repeatL [32] n from rfl,CH n];rfl
theorem IB:∀{l:List Tr} {y:Tr},y∈l->iq y<=X7 l
 |x::l,y,h=>by rw[X7];rcases YB.1 h with rfl|h;omega;have:=IB h;omega
theorem yK{v x:Tr}(h:x∈v.items):iq x<iq v:=by have:=IB h;rw[X8 v];omega
end
end Go.X
end
section
namespace Go.X
open Go Go.X Go.Proofs Go.RowKit
section
variable {b:Nat} {g g':zc} {K:Value -> zc -> Prop}
structure FrP (b:Nat) (g g':zc):Prop where
 keep:Keep b g g'
 oth:Otk g g'
theorem FrP.refl(b:Nat)(g:zc):FrP b g g:=⟨Keep.refl _ _,λi o e _=>e⟩
theorem FrP.trans{g g' c:zc}(h:FrP b g g')(k:FrP b g' c):FrP b g c:=⟨h.keep.trans k.keep (XV _),h.oth.trans k.oth⟩
theorem FrP.ofKeep(k:Keep g.size g g')(c:b<=g.size):FrP b g g':=⟨k.mono c,Otk.keep k⟩
theorem FrP.blk(h:FrP b g g'){c:Nat}{cs:Array Value}(e:g[c]?=Td (.cells cs 25 (0,0))):g'[c]?=Td (.cells cs 25 (0,0)):=h.oth c _ e rfl
structure Low (gl M:Fr) (b:Nat) (g:zc):Prop where
 hM:Fr.le gl M
 ag:AgM M g
 low:∀c cs,M c=Td cs->c<b
theorem Low.frp{gl M:Fr}(L:Low gl M b g)(f:FrP b g g'):Low gl M b g':=⟨L.hM,λc cs e=>by rw[f.keep.get c (L.low c cs e)];exact L.ag c cs e,L.low⟩
theorem add0(b:Nat):XT ⟨b,0,Te⟩ 0=⟨b,0,Te⟩:=rfl
section
variable {gl M : Fr} {b N : Nat} {ln : Bool} {l : Bs} {g : zc}
theorem VH(i:GL gl)(n:Brn gl)(H:Prn g b ln (N:Int) l)(L:Low gl M b g){t:Bs}(j:t.length<=1048576)(c:l.length+(ik t).1.length<=140737488355328)(o:∀g',Prn g' b ln (N:Int) (l++(ik t).1)->FrP b g g'->K (.tuple #[]) g'):
  XC Tp 253 #[.pointer (Td ⟨b,0,Te⟩),.string (bl t)] g K:=by
 apply Wu;refine DG i j L.hM (n.mono L.hM) L.ag λh' k=>⟨_,_,rfl,_,rfl,?_⟩;rw[add0];have f:=FrP.ofKeep k (zdc H.lt);refine Yy (H.keep k) _ c λe h p m=>⟨_,_,rfl,o e h (f.trans ⟨p,m⟩)⟩
theorem Gz(i:GL gl)(h:Brn gl)(H:Prn g b ln (N:Int) l)(L:Low gl M b g){s:Bt}(f:(lb s).length<=1048576)(c:l.length+(ik (lb s)).1.length<=140737488355328)(e:∀g',Prn g' b ln (N:Int) (l++(ik (lb s)).1)->FrP b g g'->K (.tuple #[]) g'):
  XC Tp 253 #[.pointer (Td ⟨b,0,Te⟩),.string s] g K:=by
 have:=VH i h H L (t:=lb s) f c e;rw[Qj]at this;exact this
theorem D5(H:Prn g b ln (N:Int) l)(L:Low gl M b g){lv:Nat}(V:N<=8)(y:lv<=100)(D:l.length+(Zf ln N lv).length<=140737488355328)(j:∀g',Prn g' b ln (N:Int) (l++Zf ln N lv)->FrP b g g'->K (.tuple #[]) g'):
  XC Tp 307 #[.pointer (Td ⟨b,0,Te⟩),.int .i64 (lv:Int)] g K:=by
 apply MQ;obtain⟨p,s,e,A,B⟩:=H;refine⟨_,rfl,ln,Blk.cellAdd (o:=0) (k:=2) (cs:=#[.pointer p,aK s,.bool ln,.int .i64 (N:Int)]) ⟨_,e⟩ rfl,λf=>?_,λf=>?_⟩;subst f;unfold Zf at D j;simp only[if_true,YL,zbq]at D j;refine⟨_,rfl,?_⟩;rw[add0];refine Qu (b:=b) (nd:=(N:Int)) ⟨p,s,e,A,B⟩ (by omega) 10 λP t Q J=>⟨_,rfl,_,rfl,_,rfl,?_⟩;have u:=t;obtain⟨F,Y,G,I,O⟩:=u;have E:FrP b g P:=⟨Q,J⟩;have z:=L.frp E;have C:N*lv<=800:=zay (zci V y) (by omega);refine⟨(N:Int),Blk.cellAdd (o:=0) (k:=3) (cs:=#[.pointer F,aK Y,.bool Ta,.int .i64 (N:Int)]) ⟨_,G⟩ rfl,?_⟩;rw[show((N:Int)*(lv:Int))=((N*lv:Nat):Int)from by rw[Int.natCast_mul],eK (by omega)];refine(wW (gl:=gl) (s:=bl [32]) (c:=N*lv) (by omega) (by rw[zk];simp;omega) (R:=λx=>x=bl (za9 (N*lv) 32)) (by rw[ww,CH])).go z.hM z.ag (qk (a:=Arg.mk .str _) (rdStr _) (qk (a:=Arg.mk (.int .i64) _) (jJ _ _) ym)) λv S U x i y T=>?_;subst T;refine⟨_,oB (Y2.1 y),?_⟩;have w:=FrP.ofKeep i.keep (zdc t.lt);rw[add0];refine Yy (t.keep i.keep) _ (by simp only[XX,YL,zag,zbq];omega) λm h r n=>⟨_,_,rfl,?_⟩;refine j m ?_ ((E.trans w).trans ⟨r,n⟩);rw[YS]at h;exact h;subst f;refine j g ?_ (FrP.refl _ _);have:l++Zf Tc N lv=l:=by unfold Zf;simp
 rw[this];exact⟨p,s,e,A,B⟩
end
end
end Go.X
end
section
namespace Go.X
open Go Go.RowKit
section
variable {cs:Array Value} {o n b:Nat} {h:zc}
theorem oW(h:o+n<=cs.size):(cut cs o n).length=n:=by unfold cut;simp;omega
theorem GF(H:Blk h b cs):Arr h.size h (Td ⟨b,o,Te⟩) (cut cs o n):=by refine .inr ⟨b,o,rfl,H.lt,λi v c=>H.cell ?_⟩;rw[qj]at c;split at c;rw[<-ZZ];exact c;cases c
theorem LP{P:Program}(H:Blk h b cs){vs:List Value}(k:o+vs.length<=cs.size)(h1:∀u∈vs,u.oneCell'=Ta)(B:World)(d:Nat):
  ∃h',(storeCells ⟨b,o,Te⟩ vs 0).run P (mk B d h)=.ok () (mk B d h')/\Blk h' b (jc cs o vs)/\h'.size=h.size/\∀j,j≠b->h'[j]?=h[j]?:=by
 obtain⟨T,e⟩:=H;obtain⟨h',l,c,i,f⟩:=GY (P:=P) e k h1 B d;exact⟨h',l,⟨T,c⟩,i,f⟩
end
section
variable {cs:Array Value} {vs:List Value}
structure RowO (h:zc) (s:Sl) (b:Nat) (cs:Array Value) (sz:Nat):Prop where
 le:s.len<=s.cap
 at_:(s.len=0/\s.cap=0)\/(s.a=Td ⟨b,0,Te⟩/\Blk h b cs/\s.cap*sz<=cs.size)
structure RowN (h h':zc) (s':Sl) (b b':Nat) (cs':Array Value) (sz n:Nat) (cells:List Value):Prop where
 a:s'.a=Td ⟨b',0,Te⟩
 len:s'.len=n
 cap:n<=s'.cap
 blk:Blk h' b' cs'
 size:s'.cap*sz<=cs'.size
 cut:cut cs' 0 (n*sz)=cells
 new:b'=b\/h.size<=b'
 grow:h.size<=h'.size
 old:∀j,j<h.size->j≠b'->h'[j]?=h[j]?
theorem Vz{n m:Nat}(f:n+vs.length<=cs.size)(c:m=n+vs.length):cut (jc cs n vs) 0 m=cut cs 0 n++vs:=by subst c;have b:(cut cs 0 n).length=n:=oW (by omega);apply zab;intro q;rw[qj];split;rename_i e;rw[YP,zN f];split;rename_i h1;rw[zbn (by rw[b];exact h1),qj,zb h1,YP];rename_i h1;rw[zbg (by rw[b];omega),b];rename_i e;rw[ZQ];rw[XX,b];omega
theorem wL{P:Program}{t e:TypeId}{z:Value}{sz bytes:Nat}(T:ElemT P t e z sz bytes){ty:TypeId}{h:zc}{s:Sl}{b:Nat}(H:RowO h s b cs sz){bv y:Nat}(Z:Blk h bv vs.toArray)(i:vs.length=sz)(h1:∀u∈vs,u.oneCell'=Ta)(J:(s.len+1)*bytes<=140737488355328)(V:s.len+1<=140737488355328){K:Value->zc->Prop} (C:∀(x:Sl) (h':zc) (b':Nat) (cs':Array Value),RowN h h' x b b' cs' sz (s.len+1) (cut cs 0 (s.len*sz)++vs)->K (.slice x.a x.len x.cap) h'):
  yp P (YO #[t,t] ty #[.slice s.a s.len s.cap,.slice (Td ⟨bv,0,Te⟩) 1 y]) h K:=by
 intro B d;have m:Arr h.size h (Td ⟨bv,0,Te⟩) vs:=by have:=GF Z (o:=0) (n:=vs.length);rw[show cut vs.toArray 0 vs.length=vs by unfold cut;simp]at this;exact this
 have F:∀B d,Src P sz t (.slice (Td ⟨bv,0,Te⟩) 1 y) 1 vs (mk B d h):=λB d=>Gp (P:=P) (s:=⟨Td ⟨bv,0,Te⟩,1,y⟩) m (by simp[i]) T.pos h1 T.slice B d;have Q:(s.len+1)*sz=s.len*sz+sz:=zcz _ _;by_cases A:s.len+1<=s.cap;rcases H.at_ with⟨_,h0⟩|⟨w,k,G⟩;omega;have S:(s.len+1)*sz<=s.cap*sz:=ZK _ A;obtain⟨h',I,U,r3,L⟩:=LP (P:=P) k (o:=s.len*sz) (vs:=vs) (by rw[i];omega) h1 B d;have r:=Yb (P:=P) (ty:=ty) T (s:=s) (h':=h') (F B d) A (λp D=>by rw[w]at D;cases D;rw[zh,YP];exact I) (λE=>by rw[w]at E;cases E);refine⟨_,d,h',r,C ⟨s.a,s.len+1,s.cap⟩ h' b _ ⟨w,rfl,A,U,by rw[Ii (by rw[i];omega)];exact G,Vz (by rw[i];omega) (by rw[i];exact Q),.inl rfl,by omega,λj Y l=>L j l⟩⟩;have f:Arr h.size h s.a (cut cs 0 (s.len*sz))/\(cut cs 0 (s.len*sz)).length=s.len*sz:=by rcases H.at_ with⟨h0,_⟩|⟨w,k,G⟩;rw[h0,zda];exact⟨.inl (by unfold cut;simp),by unfold cut;simp⟩;have S:s.len*sz<=s.cap*sz:=ZK _ H.le;rw[w];exact⟨GF k,oW (by omega)⟩
 obtain⟨c,blk,M,q2,q3,O,N⟩:=Wc (P:=P) (ty:=ty) (base:=0) T f.2 (λB d=>Ya f.1 f.2 T.pos B d) F J V (YT _) (by omega) B d;refine⟨_,d+1,_,M,C ⟨Td ⟨h.size,0,Te⟩,s.len+1,c⟩ _ h.size blk ⟨rfl,rfl,q2,Blk.new _ _ _,by rw[O];exact XV _,by unfold cut;rw[za2];exact N,.inr (XV _),by simp,λj Y l=>by rw[zau,za (by omega)]⟩⟩
end
end Go.X
end
section
namespace Go.X
section
variable {lo:Nat} {h h':zc} {M M':Fr} {bs:List Nat}
def ORow(lo:Nat)(h:zc)(M:Fr)(T:Ty)(xs:List (El T))(s:Sl)(bs:List Nat):Prop:=
 (xs=[]/\s.len=0/\s.cap=0/\bs=[])\/∃(b:Nat) (cs:Array Value),bs=[b]/\s.a=Td ⟨b,0,Te⟩/\s.len=xs.length/\s.len<=s.cap/\Blk h b cs/\s.cap*sz T<=cs.size/\lo<=b/\M b=Te/\∀i (hi:i<xs.length),Rd M T xs[i] (cut cs (i*sz T) (sz T))
theorem ORow.nil{T:Ty}:ORow lo h M T [] ⟨Te,0,0⟩ []:=.inl ⟨rfl,rfl,rfl,rfl⟩
theorem ORow.len{T:Ty}{xs:List (El T)}{s:Sl}(H:ORow lo h M T xs s bs):s.len=xs.length:=by rcases H with⟨rfl,h1,_⟩|⟨b,cs,_,_,h1,_⟩;exact h1;exact h1
theorem ORow.own{T:Ty}{xs:List (El T)}{s:Sl}(H:ORow lo h M T xs s bs):∀c∈bs,lo<=c/\c<h.size/\M c=Te:=by rcases H with⟨_,_,_,rfl⟩|⟨b,cs,rfl,_,_,_,e,_,h1,i,_⟩;intro c f;cases f;intro c f;rw[YY.1 f];exact⟨h1,e.lt,i⟩
theorem ORow.frame{T:Ty}{xs:List (El T)}{s:Sl}(H:ORow lo h M T xs s bs)(f:∀c∈bs,h'[c]?=h[c]?)(le:Fr.le M M')(l:∀c∈bs,M' c=Te):ORow lo h' M' T xs s bs:=by rcases H with H|⟨b,cs,rfl,h1,k,m,e,o,n,p,j⟩;exact .inl H;refine .inr ⟨b,cs,rfl,h1,k,m,?_,o,n,l b (by simp),λi hi=>Rd.mono le (j i hi)⟩;unfold Blk at e ⊢;rw[f b (by simp)];exact e
theorem ORow.call{T:Ty}{xs:List (El T)}{s:Sl}(H:ORow lo h M T xs s bs)(L:Later h M h' M'):ORow lo h' M' T xs s bs:=by refine H.frame (λc b=>L.keep.get c (H.own c b).2.1) L.le λc b=>?_;rw[L.old c (H.own c b).2.1];exact(H.own c b).2.2
theorem ORow.rd{T:Ty}{xs:List (El T)}{s:Sl}{bs all:List Nat}(H:ORow lo h M T xs s bs)(ag:AgM M h)(k:∀c∈bs,c∈all)(n:xs.length<=1000000):Rd (MxL M h all) (.row T) xs [aK s]:=by rcases H with⟨rfl,h1,e,rfl⟩|⟨b,cs,rfl,h1,e,m,l,r,o,p,f⟩;refine⟨_,rfl,s.a,s.cap,?_,⟨by simp,by simp⟩,.inl rfl⟩;show aK s=_;unfold aK;rw[h1];rfl;refine⟨_,rfl,s.a,s.cap,?_,⟨by omega,by omega⟩,?_⟩;unfold aK;rw[e];by_cases j:xs=[];exact .inl j;refine .inr ⟨b,0,cs,h1,MxL.at (k b (by simp)) l,λi hi=>?_⟩;rw[YP];exact Rd.mono (qD ag all) (f i hi)
theorem ORow.app{t e:TypeId}{z:Value}{bytes:Nat}{T:Ty}(E:ElemT Tp t e z (sz T) bytes)(F:bytes<=1000){ty:TypeId}{xs:List (El T)}{s:Sl}(ag:AgM M h)(H:ORow lo h M T xs s bs)(af:lo<=h.size){bv Z:Nat}{vs:List Value}{x:El T}(hv:Blk h bv vs.toArray)(G:Rd M T x vs)(Q:xs.length<=1000000){K:Value->zc->Prop} (hK:∀(n:Sl) (h':zc) (bs':List Nat),ORow lo h' M T (xs++[x]) n bs'->h.size<=h'.size->(∀c∈bs',c∈bs\/h.size<=c)->(∀j,j<h.size->j∉bs->h'[j]?=h[j]?)->K (.slice n.a n.len n.cap) h'):
  yp Tp (YO #[t,t] ty #[.slice s.a s.len s.cap,.slice (Td ⟨bv,0,Te⟩) 1 Z]) h K:=by
 have B:vs.length=sz T:=Rd.len G;have h1:∀u∈vs,u.oneCell'=Ta:=Rd.one G;have m:=H.len;have y:∀c,h.size<=c->M c=Te:=by
  intro c S;cases e:M c with
  |none=>rfl
  |some cs=>have:=ag.lt e;omega
 obtain⟨b,cs,f,Y,C⟩:∃b cs,RowO h s b cs (sz T)/\((bs=[b]/\lo<=b/\M b=Te)\/(b=h.size/\bs=[]))/\∀i (hi:i<xs.length),i*sz T+sz T<=cs.size/\Rd M T xs[i] (cut cs (i*sz T) (sz T)):=by rcases H with⟨rfl,I,P,rfl⟩|⟨b,cs,rfl,I,P,e3,e4,U,e6,V,e8⟩;exact⟨h.size,#[],⟨by omega,.inl ⟨I,P⟩⟩,.inr ⟨rfl,rfl⟩,λi hi=>by simp at hi⟩;refine⟨b,cs,⟨e3,.inr ⟨I,e4,U⟩⟩,.inl ⟨rfl,e6,V⟩,λi hi=>⟨?_,e8 i hi⟩⟩;have:(i+1)*sz T<=s.cap*sz T:=ZK _ (by omega);rw[zcz]at this;omega
 have r:(s.len+1)*bytes<=140737488355328:=by have:(s.len+1)*bytes<=1000001*1000:=zci (by omega) F;omega
 refine wL E f hv B h1 r (by omega) λn h' b' cs' N=>?_;have l:(b'∈bs/\lo<=b'/\M b'=Te)\/h.size<=b':=by rcases N.new with e|e;rcases Y with⟨p,O,D⟩|⟨p,_⟩;subst e;exact .inl ⟨by rw[p];simp,O,D⟩;exact .inr (by omega);exact .inr e
 refine hK n h' [b'] (.inr ⟨b',cs',rfl,N.a,by rw[N.len,XX,m];rfl,by rw[N.len];exact N.cap,N.blk,N.size,?_,?_,λi hi=>?_⟩) N.grow (λc S=>?_) λj hj Q=>N.old j hj λe=>?_;rcases l with q|q;exact q.2.1;omega;rcases l with q|q;exact q.2.2;exact y b' q;have w:=N.cut;have aa:i<xs.length+1:=by simpa using hi
 have hm:(i+1)*sz T<=(s.len+1)*sz T:=ZK _ (by omega);have ac:(i+1)*sz T=i*sz T+sz T:=zcz _ _;have ae:(s.len+1)*sz T=s.len*sz T+sz T:=zcz _ _;have key:∀q,q<sz T->(cut cs' (i*sz T) (sz T))[q]?=(cut cs 0 (s.len*sz T)++vs)[i*sz T+q]?:=by intro q k;rw[qj,zb k,<-w,qj,zb (by omega),YP]
 by_cases o:i<xs.length;rw[za8 o];obtain⟨g1,g2⟩:=C i o;have ab:(i+1)*sz T<=s.len*sz T:=ZK _ (by omega);have e:cut cs' (i*sz T) (sz T)=cut cs (i*sz T) (sz T):=by
  apply zab;intro q;by_cases k:q<sz T;rw[key q k,zbn ?_,qj,qj,zb k,zb (by omega),YP];have A:s.len*sz T<=cs.size:=by rcases f.at_ with⟨p,O⟩|⟨_,_,D⟩;omega;have:s.len*sz T<=s.cap*sz T:=ZK _ f.le;omega
  rw[oW (by omega)];omega;rw[qj,qj,za k,za k]
 rw[e];exact g2;have J:i=xs.length:=by omega
 subst J;rw[zbm (XV _)];have L:(cut cs 0 (s.len*sz T)).length=xs.length*sz T:=by
  rcases f.at_ with⟨p,O⟩|⟨_,_,D⟩;have:xs.length=0:=by omega
  rw[p,this];unfold cut;simp;have:s.len*sz T<=s.cap*sz T:=ZK _ f.le;rw[oW (by omega),m]
 have e:cut cs' (xs.length*sz T) (sz T)=vs:=by apply zab;intro q;by_cases k:q<sz T;rw[key q k,zbg (by omega),L];congr 1;omega;rw[qj,za k,ZQ (by omega)]
 rw[e];simpa using G;rw[YY.1 S];rcases l with q|q;exact .inl q.1;exact .inr q;rcases l with q|q;exact Q (by rw[e];exact q.1);omega
end
end Go.X
end
section
namespace Go.X
open Go Go.X Go.Proofs Go.RowKit
section
variable {cs:Array Value} {o n z b:Nat} {l:List Value} {g:zc}
structure CR (g:zc) (z:Nat) (els:List (List Value)) (sl:Sl) (b:Nat) (cs:Array Value):Prop where
 ro:RowO g sl b cs z
 ln:sl.len=els.length
 el:∀(i:Nat) (e:List Value),els[i]?=Td e->(i+1)*z<=cs.size/\cut cs (i*z) z=e
theorem uj(c:l.length=n)(h:∀q,q<n->cs.toList[o+q]?=l[q]?):cut cs o n=l:=by apply zab;intro q;rw[qj];split;rename_i b;exact h q b;rename_i b;rw[ZQ (by omega)]
theorem wB(h:cut cs o n=l){q:Nat}(b:q<n):cs.toList[o+q]?=l[q]?:=by rw[<-h,qj,zb b]
theorem CR.blk{els:List (List Value)}{sl:Sl}(H:CR g z els sl b cs)(c:els≠[]):sl.a=Td ⟨b,0,Te⟩/\Blk g b cs:=by rcases H.ro.at_ with⟨h1,_⟩|⟨h1,e,_⟩;have:=H.ln;rw[h1]at this;exact absurd (zba.1 this.symm) c;exact⟨h1,e⟩
theorem CR.frame{g g':zc}{els:List (List Value)}{sl:Sl}(H:CR g z els sl b cs)(f:els≠[]\/sl.cap≠0->g'[b]?=g[b]?):CR g' z els sl b cs:=by refine⟨⟨H.ro.le,?_⟩,H.ln,H.el⟩;rcases H.ro.at_ with h1|⟨h1,e,h⟩;exact .inl h1;by_cases c:sl.cap=0;exact .inl ⟨by have:=H.ro.le;omega,c⟩;exact .inr ⟨h1,e.keep (f (.inr c)),h⟩
theorem CR.app{t e:TypeId}{O:Value}{bytes z:Nat}(E:ElemT Tp t e O z bytes)(y:bytes<=1000){ty:TypeId}{els:List (List Value)}{sl:Sl}(H:CR g z els sl b cs){bv D:Nat}{vs:List Value}(Q:Blk g bv vs.toArray)(l:vs.length=z)(h1:∀u∈vs,u.oneCell'=Ta)(T:els.length<=1000000){K:Value->zc->Prop} (G:∀(h:Sl) (g':zc) (b':Nat) (cs':Array Value),CR g' z (els++[vs]) h b' cs'->g.size<=g'.size->((b'=b/\¬(sl.len=0/\sl.cap=0))\/g.size<=b')->b'<g'.size->(∀j,j<g.size->j≠b'->g'[j]?=g[j]?)->K (.slice h.a h.len h.cap) g'):
  yp Tp (YO #[t,t] ty #[.slice sl.a sl.len sl.cap,.slice (Td ⟨bv,0,Te⟩) 1 D]) g K:=by
 have c:=H.ln;have n:(sl.len+1)*bytes<=140737488355328:=by have:(sl.len+1)*bytes<=1000001*1000:=zci (by omega) y;omega
 obtain⟨b0,f,r,x,m⟩:∃b0 f,RowO g sl b0 f z/\((b0=b/\¬(sl.len=0/\sl.cap=0))\/g.size<=b0)/\(∀(i:Nat) (e:List Value),els[i]?=Td e->(i+1)*z<=f.size/\cut f (i*z) z=e):=by by_cases h0:sl.len=0/\sl.cap=0;have P:els=[]:=zba.1 (by omega);exact⟨g.size,#[],⟨H.ro.le,.inl h0⟩,.inr (XV _),λi e hi=>by rw[P]at hi;cases hi⟩;exact⟨b,cs,H.ro,.inl ⟨rfl,h0⟩,H.el⟩
 refine wL E r Q l h1 n (by omega) λh g' b' cs' N=>G h g' b' cs' ⟨⟨by rw[N.len];exact N.cap,.inr ⟨N.a,N.blk,N.size⟩⟩,by rw[N.len,XX,c];rfl,λi e hi=>?_⟩ N.grow ?_ N.blk.lt N.old;have C:i<els.length+1:=by have:=(ZV.1 hi).1;rw[XX]at this;exact this
 have U:(i+1)*z<=(sl.len+1)*z:=ZK _ (by omega);have I:(sl.len+1)*z<=h.cap*z:=ZK _ N.cap;have J:(i+1)*z=i*z+z:=zcz _ _;have M:(sl.len+1)*z=sl.len*z+z:=zcz _ _;have:=N.size;refine⟨by omega,?_⟩;have o:=N.cut;have key:∀q,i*z+q<(sl.len+1)*z->cs'.toList[i*z+q]?=(cut f 0 (sl.len*z)++vs)[i*z+q]?:=λq p=>by rw[<-o,qj,zb p,YP]
 have k:(cut f 0 (sl.len*z)).length=sl.len*z:=by
  by_cases h0:els=[];have:sl.len=0:=by rw[c,h0];rfl
  rw[this,zda];unfold cut;simp;have L:els.length-1<els.length:=by have:=zav.2 h0;omega
  have:=(m (els.length-1) _ (YA L)).1;rw[show els.length-1+1=els.length by omega,<-c]at this;exact oW (by omega)
 by_cases w:i<els.length;rw[zbn w]at hi;obtain⟨S,B⟩:=m i e hi;have F:(i+1)*z<=sl.len*z:=ZK _ (by omega);refine uj (by rw[<-B];exact oW (by omega)) λq p=>?_;rw[key q (by omega),zbn (by rw[k];omega),qj,zb (by omega),YP];exact wB B p;have A:i=els.length:=by omega
 subst A;rw[zbg (XV _),Nat.sub_self]at hi;cases hi;refine uj l λq p=>?_;have V:els.length*z=sl.len*z:=by rw[c]
 rw[key q (by omega),zbg (by rw[k];omega),k];congr 1;omega;rcases N.new with e|e;rcases x with q|q;exact .inl ⟨e.trans q.1,q.2⟩;exact .inr (by omega);exact .inr e
end
end Go.X
end
section
namespace Go.X
section
section
variable {lo hi : Nat} {g : zc} {b0 : Nat} {v : Tr} {sk si : Sl}
theorem FD:yc Tp 22=Ta:=by kernel_rfl
theorem BX:yf Tp 22=1:=by kernel_rfl
theorem O8:yc Tp 23=Ta:=by kernel_rfl
theorem OM:yf Tp 23=1:=by kernel_rfl
end
end
end Go.X
end
section
namespace Go.X
open Go Go.Code
section
variable {ro:Option Nat} {n:Nat} {P:Program} {f:FuncId} {args:Array Value} {w:World} {o:Oper} {a:Act} {e:bK} {h:zc}
abbrev rf(ro:Option Nat):Fence:={ Fence.wide with round:=ro }
def kE(K:Act->World->Prop):Exit->Act->World->Prop
 |.normal,a,w=>K a w
 |_,_,_=>False
theorem Yh{K:Act->World->Prop}:¬LetsOut (kE K):=λ⟨_,_,h⟩=>h
theorem U1{R:Ending->World->Prop}(h:Calls P f args w R):CallsIn (rf ro) n P f args w R:=by have h1:CallsIn Fence.wide n P f args w R:=callsIn_wide.2 h;exact h1
theorem WF{row:String}{R:Value->World->Prop}(h:Rows P row args w R):RowsIn (rf ro) n P row args w R:=by have h1:RowsIn Fence.wide n P row args w R:=λc cs _=>let ⟨v,w',r,s⟩:=h c cs;⟨v,w',r,stepsIn_wide.2 s⟩;exact h1
def Zg(o:Oper):Bool:=match o.op with
 |.defer _=>Tc
 |_=>Ta
theorem Ld(h:Zg o=Ta):∀c,o.op≠.defer c:=by intro c e;unfold Zg at h;rw[e]at h;cases h
theorem Hk(c:Zg o=Ta){K:Act->World->Prop}{Q:Exit->Act->World->Prop}(h:o.wp P a w K Q):o.wpIn (rf ro) n P a w K Q:=by
 refine⟨λ_ _=>trivial,?_⟩;rw[Oper.semAt_eq _ _ _ (Ld c)];unfold Oper.wp at h;generalize (execOp a.eval o).run P w=r at *;cases r with
 |ok x w'=>
  cases x with
  |enter f args=>exact⟨λb=>(by cases b),U1 h⟩
  |row row args=>exact⟨λb=>(by cases b),WF h⟩
  |value v=>exact h
  |skip=>exact h
  |defer d=>exact h
  |_=>exact h.elim
 |halt x w'=>cases x <;> first|exact h|exact h.elim
theorem qX{ro:Option Nat}{n:Nat}{P:Program}{ops:Array Oper}{K:Act->World->Prop}{Q:Exit->Act->World->Prop}: ∀(l i:List Oper) (a:Act) (w:World),l.all Zg=Ta->wpList P ops (kE K) l a w->(∀a w,K a w->wpListIn (rf ro) n P ops Q i a w)->wpListIn (rf ro) n P ops Q (l++i) a w
 |[],i,a,w,_,h,hK=>hK a w h
 |o::l,i,a,w,hd,h,hK=>by
  rw[zcr,YH]at hd;rw[ZU];unfold wpListIn;unfold wpList at h;by_cases k:za5 o (yielded ops a.tmps)=Ta;rw[zb k]at h ⊢;rcases h with h|⟨_,h⟩;have h1:=Hk (ro:=ro) (n:=n) hd.1 h;have m:=Oper.wpIn_mono (λa w p=>qX l i a w hd.2 p hK) h1;refine⟨m.1,?_⟩;have b:=m.2;revert b;generalize (o.semAt (rf ro).round a.eval).run P w=r;cases r with
  |ok x w'=>
   cases x with
   |enter f args=>exact λb=>⟨b.1,CallsIn.mono b.2 λe j c=>by cases e <;> first|exact c|exact c.elim|exact(Yh c).elim⟩
   |round l f tmps assign body=>exact λb=>⟨b.1,RoundIn.mono b.2 λe j c=>by cases e <;> first|exact c|exact c.elim|exact(Yh c).elim⟩
   |_=>exact λb=>b
  |halt x w'=>cases x <;> first|exact λb=>b|exact λb=>b.elim
  exact(Yh h).elim;rw[za k]at h ⊢;exact⟨λ_ _=>trivial,qX l i _ _ hd.2 h hK⟩
theorem sZ{ro:Option Nat}{n:Nat}{P:Program}{md:Region.Mode}{ops:Array Oper}{K:Act->World->Prop}(c:∀(i:Nat) (o:Oper),ops[i]?=Td o->Zg o=Ta):∀(fuel:Nat) (listed:Array Bool) (a:Act) (w:World),wpAny P md ops (kE K) fuel listed a w->wpAnyIn (rf ro) n P md ops (kE K) fuel listed a w
 |0,_,_,_,h=>h
 |fuel+1,listed,a,w,h=>by refine⟨h.1,λi hi=>?_⟩;have b:=h.2 i hi;unfold wpOp at b;unfold wpOpIn;split at b;rename_i e;rw[e];exact sZ c fuel _ _ _ b;rename_i o e;rw[e];simp only;by_cases f:za5 o (yielded ops a.tmps)=Ta;rw[zb f]at b ⊢;rcases b with b|⟨_,b⟩;exact Oper.wpIn_mono (λa w j=>sZ c fuel _ a w j) (Hk (c i o e) b);exact(Yh b).elim;rw[za f]at b ⊢;exact⟨λ_ _=>trivial,sZ c fuel _ _ _ b⟩
def Yz(D:List Deferred)(a:Act):Act:={ a with defers:=a.defers++D }
theorem Dw{D:List Deferred}{K:Act->World->Prop}{R:Act->World->Prop}(h:o.wp P a w K (kE R)):o.wp P (Yz D a) w (λa1 w1=>∃a0,a1=Yz D a0/\K a0 w1) (kE λa1 w1=>∃a0,a1=Yz D a0/\R a0 w1):=by
 unfold Oper.wp at h ⊢;have b:(Yz D a).eval=a.eval:=rfl;rw[b];have c:∀d v,(Yz D a).put d v=Yz D (a.put d v):=λd v=>by cases d <;> rfl
 generalize (execOp a.eval o).run P w=r at *;cases r with
 |ok x w'=>
  cases x with
  |enter f args=>exact Calls.mono h λe i b=>by cases e with
    |returned v=>exact⟨_,c _ _,b⟩
    |panicked ch=>exact b
    |outgrown=>exact(Yh b).elim
  |row row args=>exact Rows.mono h λv i b=>⟨_,c _ _,b⟩
  |value v=>exact⟨_,c _ _,h⟩
  |skip=>exact⟨_,c _ _,h⟩
  |defer d=>exact⟨(Act.put { a with defers:=d::a.defers } o.dst undef),(by cases o.dst <;> rfl),(show K (Act.put { a with defers:=d::a.defers } o.dst undef) w' from h)⟩
  |_=>exact h.elim
 |halt x w'=>cases x <;> first|exact h|exact h.elim
theorem vG{P:Program}{md:Region.Mode}{ops:Array Oper}{D:List Deferred}{K:Act->World->Prop}:∀(fuel:Nat) (listed:Array Bool) (a:Act) (w:World),wpAny P md ops (kE K) fuel listed a w->wpAny P md ops (kE λa1 w1=>∃a0,a1=Yz D a0/\K a0 w1) fuel listed (Yz D a) w
 |0,_,a,_,h=>⟨h.1,a,rfl,h.2⟩
 |fuel+1,listed,a,w,h=>by
  refine⟨λk=>⟨a,rfl,h.1 k⟩,λi hi=>?_⟩;have b:=h.2 i hi;unfold wpOp at b ⊢;have j:yielded ops (Yz D a).tmps=yielded ops a.tmps:=rfl;split at b;exact vG fuel _ _ _ b;rename_i o m;rw[j];by_cases c:za5 o (yielded ops a.tmps)=Ta;rw[zb c]at b ⊢;rcases b with b|⟨_,b⟩;exact .inl (Oper.wp_mono (λa1 w1 ⟨a0,e,l⟩=>by rw[e];exact vG fuel _ a0 w1 l) (Dw b));exact(Yh b).elim;rw[za c]at b ⊢;have f:(Yz D a).put o.dst undef=Yz D (a.put o.dst undef):=by cases o.dst <;> rfl
  rw[f];exact vG fuel _ _ _ b
def YX(P:Program)(l:Nat)(args:Array Value)(h:zc)(K:Value->zc->Prop):Prop:=
 ∀(m:Nat) (B:World) (d:Nat),∃fn tmps assign body,(Instr.yield l args).run P (mk B d h)=.ok (.round l fn tmps assign body) (mk B d h) /\
  RoundIn (rf Te) m P l fn tmps assign body (mk B d h) λe w'=>∃v b h',e=.returned v/\w'=mk B b h'/\K v h'
def DK(o:Oper):Bool:=match o.op with
 |.call c=>match c.callee with
  |.value x=>!(pL x)
  |_=>Tc
 |_=>Tc
def qO:List Oper->Option (List Oper×Oper×List Oper)
 |[]=>Te
 |o::l=>bif DK o then Td ([],o,l)else match qO l with
  |some (pre,o',post)=>Td (o::pre,o',post)
  |none=>Te
theorem La{l:List Oper}:∀{pre b:List Oper} {o:Oper},qO l=Td (pre,o,b)->l=pre++o::b:=by
 induction l with
 |nil=>intro pre b o h;cases h
 |cons x l j=>
  intro pre b o h;rw[qO]at h;cases hd:DK x with
  |true=>rw[hd,zI]at h;have h:=ZA h;have h1:=congrArg Prod.fst h;have c:=congrArg (λq=>q.2.1) h;have e:=congrArg (λq=>q.2.2) h;simp only at h1 c e;rw[<-h1,<-c,<-e];rfl
  |false=>
   rw[hd,zJ]at h;cases hs:qO l with
   |none=>rw[hs]at h;cases h
   |some q=>obtain⟨i,k,f⟩:=q;rw[hs]at h;have h:=ZA h;have h1:=congrArg Prod.fst h;have c:=congrArg (λq=>q.2.1) h;have e:=congrArg (λq=>q.2.2) h;simp only at h1 c e;rw[j hs,<-h1,<-c,<-e];rfl
def tS(P:Program)(o:Oper)(e:bK)(h:zc)(K:Value->zc->Prop):Prop:=match o.op with
 |.call c=>match c.callee with
  |.value x=>match Xd e [] x with
   |some (.func (.yield l) A C)=>bif (bif (Nat.beq A.size 0)then(Nat.beq C.size 0)else Tc)then(bif known e [] c.args.toList then YX P l (c.args.map (jF e [])) h λv h'=>typed P o.type v λb=>K b h' else False)else False
   |_=>False
  |_=>False
 |_=>False
theorem VY{n m:Nat}{K:Value->zc->Prop}(H:tS P o e h K)(k:Sat n e a)(B:World)(d:Nat){next:Act->World->Prop}{Q:Exit->Act->World->Prop}
  (E:∀v j h',K v h'->next (a.put o.dst v) (mk B j h')):o.wpIn (rf Te) m P a (mk B d h) next Q:=by
 unfold tS at H;split at H;rename_i c t;split at H;rename_i x i;split at H;rename_i l A C u;obtain⟨hA,p,H⟩:A=#[]/\C=#[]/\(bif known e [] c.args.toList then YX P l (c.args.map (jF e [])) h λv h'=>typed P o.type v λr=>K r h' else False):=by
  cases h1:Nat.beq A.size 0 with
  |false=>rw[h1]at H;exact zc0 H
  |true=>
   cases f:Nat.beq C.size 0 with
   |false=>rw[h1,f]at H;exact zc0 H
   |true=>rw[h1,f]at H;exact⟨Array.eq_empty_of_size_eq_zero (YC h1),Array.eq_empty_of_size_eq_zero (YC f),H⟩
 subst hA;subst p;cases hk:known e [] c.args.toList with
 |false=>rw[hk]at H;exact zc0 H
 |true=>
  rw[hk]at H;simp only[zI]at H;obtain⟨fn,tmps,assign,body,h1,f⟩:=H (m-1) B d;have F:a.eval x=.func (.yield l) #[] #[]:=qu k (c:=[]) trivial u;have b:c.args.map a.eval=c.args.map (jF e []):=by apply Array.map_congr_left;intro y w;exact Jx k (c:=[]) trivial hk y (by simpa using w)
  have z:(o.semAt (rf Te).round a.eval).run P (mk B d h)=.ok (.round l fn tmps assign body) (mk B d h):=by show(execOp a.eval o).run P (mk B d h)=_;simp only[execOp,t,resolve,i,F,zc7,Sem.run_bind,Sem.run_pure,Result.andThen_ok,invoke];rw[b];simpa using h1
  refine⟨λ_ _=>trivial,?_⟩;rw[z];refine⟨λi=>(by cases i),f.mono ?_⟩;rintro e' w' ⟨v,j,h',rfl,rfl,D⟩;exact E _ _ _ (xz D)
 exact zc0 H;exact zc0 H;exact zc0 H
def AM(P:Program)(n:Nat)(f:List (Nat×Nat))(id:Nat)(ops:Array Oper)(b:Bool)(K:bK->zc->Prop)(e:bK)(h:zc):Prop:=
 match qO ops.toList with
 |none=>regionF P n f id ops b K e h
 |some (pre,o,post)=>bif b then False else bif (pre.all Zg&&post.all Zg)then(match o.guard with
  |none=>bif jr n [] o.dst then wR P n ops (λc h1=>tS P o c h1 λv i=>wR P n ops K post (putO c o.dst [] v) i) pre e h else False
  |some _=>False)else False
theorem Mo(T:P.follows .mixedOrders=Ta){J:List (Nat×Nat)}{id:Nat}{ops:Array Oper}{c:Bool}{K:bK->zc->Prop} (H:AM P n J id ops c K e h) (m:Nat) (B:World) (d:Nat) (G:Sat n e a) {Q:Exit->Act->World->Prop}
  (F:∀j f k h',Sat n j f->Same (wl ops.toList) a f->K j h'->Q .normal f (mk B k h')):(zdq id ops c).wpIn (rf Te) m P Q a (mk B d h):=by
 unfold AM at H;split at H;exact wpIn_wide.2 (Fv T H B d G F);rename_i pre o b A;have p:=La A;cases c with
 |true=>exact zc0 H
 |false=>
  simp only[zJ]at H;cases hnd:(pre.all Zg&&b.all Zg)with
  |false=>rw[hnd]at H;exact zc0 H
  |true=>
   rw[hnd]at H;simp only[zI]at H;rw[YH]at hnd;split at H;rename_i M;cases hd:jr n [] o.dst with
   |false=>rw[hd]at H;exact zc0 H
   |true=>
    rw[hd]at H;simp only[zI]at H;refine wpIn_region_list ?_;have t:∀x∈wl pre,x∈wl ops.toList:=λx r=>by rw[p,Qz];exact YM _ r
    have u:∀i,o.dst=Td i->i∈wl ops.toList:=λi hi=>by rw[p,Qz];exact ZD _ (by simp[wl,hi])
    have D:∀x∈wl b,x∈wl ops.toList:=λx r=>by rw[p,Qz];refine ZD _ ?_;unfold wl;split;exact XZ _ r;exact r
    rw[p];refine qX (K:=λa1 w1=>∃l d1 h1,w1=mk B d1 h1/\Sat n l a1/\Same (wl ops.toList) a a1/\tS P o l h1 λv E=>wR P n ops K b (putO l o.dst [] v) E) pre (o::b) a _ hnd.1 (rM B pre e h a d H G λj f k h' z C N=>⟨j,k,h',rfl,z,C.mono t,N⟩) ?_;rintro a1 w1 ⟨l,d1,h1,rfl,s1,O,z⟩;unfold wpListIn;have y:za5 o (yielded ops a1.tmps)=Ta:=by simp[za5,M]
    rw[zb y];refine VY z s1 B d1 λv d2 E C=>?_;have s2:Sat n (putO l o.dst [] v) (a1.put o.dst v):=s1.putO hd (λ_=>rfl) (λU=>absurd trivial U);rw[<-ZO b];refine qX (K:=λf w'=>Q .normal f w') b [] _ _ hnd.2 (rM B b _ _ _ _ C s2 λj f k h' L S I=>?_) λa w h=>h;exact F j f k h' L ((O.trans (Same.put a1 o.dst v u)).trans (S.mono D)) I
   exact zc0 H
def WI(P:Program)(n:Nat)(pl:Plan):Code->Jf->bK->zc->Prop
 |.skip,Q,e,h=>Q .normal e h
 |.ret,Q,e,h=>Q .ret e h
 |.exit id,Q,e,h=>Q (.exit id) e h
 |.label _,Q,e,h=>Q .normal e h
 |.goto l,Q,e,h=>Q (.goto l) e h
 |.region id ops draw,Q,e,h=>AM P n pl.tails id ops draw (λe h=>Q .normal e h) e h
 |.seq x y,Q,e,h=>match qJ pl.joins (y9 y)with
  |none=>WI P n pl x (mB (λe h=>WI P n pl y Q e h) Q) e h
  |some J=>Cn J (λe h=>WI P n pl y Q e h) (λK=>WI P n pl x (mB K Q) e h) (J3 (xf x) e)
 |.cond c x y,Q,e,h=>match Xd e [] c with
  |some (.bool b)=>(b=Ta->WI P n pl x Q e h)/\(b=Tc->WI P n pl y Q e h)
  |_=>False
 |.block id x,Q,e,h=>WI P n pl x (mu id Q) e h
 |.loop x,Q,e,h=>match qJ pl.loops (y9 x)with
  |some J=>AO J (λf e h=>WI P n pl x (mB f Q) e h) (J3 (xf x) e) e h
  |none=>False
 |_,_,_,_=>False
theorem KC(hm:P.follows .mixedOrders=Ta){pl:Plan}:∀(c:Code) (Q:Jf) (e:bK) (h:zc),WI P n pl c Q e h ->
  ∀(m:Nat) (B:World) (d:Nat) (a:Act),Sat n e a->c.wpIn (rf Te) m P (Ij n B (xf c) a Q) a (mk B d h):=by
 intro c;induction c with
 |skip=>exact λQ e h H m B d a f=>wpIn_skip ⟨e,d,h,rfl,f,Same.refl _ _,H⟩
 |ret=>exact λQ e h H m B d a f=>wpIn_ret ⟨e,d,h,rfl,f,Same.refl _ _,H⟩
 |exit id=>exact λQ e h H m B d a f=>wpIn_exit ⟨e,d,h,rfl,f,Same.refl _ _,H⟩
 |label l=>exact λQ e h H m B d a f=>wpIn_label ⟨e,d,h,rfl,f,Same.refl _ _,H⟩
 |goto l=>exact λQ e h H m B d a f=>wpIn_goto ⟨e,d,h,rfl,f,Same.refl _ _,H⟩
 |region id ops aj=>exact λQ e h H m B d a f=>Mo hm H m B d f λe' a' d' h' k o q3=>⟨e',d',h',rfl,k,o,q3⟩
 |seq x y A C=>
  intro Q e h H m B d a f;simp only[WI]at H;have G:∀i∈xf x,i∈xf (x.seq y):=λi hi=>YM _ hi;have O:∀i∈xf y,i∈xf (x.seq y):=λi hi=>ZD _ hi;split at H;refine wpIn_seq (wpIn_mono (A _ _ _ H m B d a f) ?_);rintro ex a1 w1 ⟨z,d1,h1,rfl,s1,u,k⟩;cases ex with
  |normal=>refine wpIn_mono (C _ _ _ k m B d1 a1 s1) ?_;rintro ex a2 w2 ⟨r,d2,t,rfl,s2,w,o⟩;exact⟨r,d2,t,rfl,s2,(u.mono G).trans (w.mono O),o⟩
  |_=>exact⟨z,d1,h1,rfl,s1,u.mono G,k⟩
  rename_i J hJ;have H':=H (nT (ju J) λvs=>λh=>WI P n pl y Q (Q0 J vs++J3 (xf x) e) h) (AF λvs h L=>L);refine wpIn_seq (wpIn_mono (A _ _ _ H' m B d a f) ?_);rintro ex a1 w1 ⟨z,d1,h1,rfl,s1,u,k⟩;cases ex with
  |normal=>obtain⟨vs,q,N,L,hk⟩:=Xr k;have Y:=AN L;subst Y;have S:Sat n (Q0 J vs++J3 (xf x) e) a1:=Xq f s1.defers s1.size u (yj s1 N);refine wpIn_mono (C _ _ _ hk m B d1 a1 S) ?_;rintro ex a2 w2 ⟨r,d2,t,rfl,s2,w,o⟩;exact⟨r,d2,t,rfl,s2,(u.mono G).trans (w.mono O),o⟩
  |_=>exact⟨z,d1,h1,rfl,s1,u.mono G,k⟩
 |cond c x y A C=>intro Q e h H m B d a f;simp only[WI]at H;have G:∀i∈xf x,i∈xf (zdn c x y):=λi hi=>YM _ hi;have O:∀i∈xf y,i∈xf (zdn c x y):=λi hi=>ZD _ hi;split at H;rename_i b D;refine wpIn_cond_split (qu f (c:=[]) trivial D) (λT=>?_) (λab=>?_);refine wpIn_mono (A _ _ _ (H.1 T) m B d a f) ?_;rintro ex a2 w2 ⟨r,d2,t,rfl,s2,w,o⟩;exact⟨r,d2,t,rfl,s2,w.mono G,o⟩;refine wpIn_mono (C _ _ _ (H.2 ab) m B d a f) ?_;rintro ex a2 w2 ⟨r,d2,t,rfl,s2,w,o⟩;exact⟨r,d2,t,rfl,s2,w.mono O,o⟩;exact H.elim
 |block id x ih=>
  intro Q e h H m B d a f;refine wpIn_block (wpIn_mono (ih _ _ _ H m B d a f) ?_);rintro ex a1 w1 ⟨z,d1,h1,rfl,s1,u,k⟩;cases ex with
  |exit i=>simp only[mu]at k;simp only[Exit.inBlock];by_cases D:Nat.beq i id=Ta;rw[zb (YC D)];simp only[D,zI]at k;exact⟨z,d1,h1,rfl,s1,u,k⟩;rw[za (λhe=>D (by rw[he];simp))];simp only[D,zJ]at k;exact⟨z,d1,h1,rfl,s1,u,k⟩
  |_=>exact⟨z,d1,h1,rfl,s1,u,k⟩
 |loop x ih=>
  intro Q e h H m B d a f;simp only[WI]at H;split at H;rename_i J hJ;obtain⟨I,μ,h0,E⟩:=H;obtain⟨aa,p0,ah,ai,af⟩:=Xr h0;let F:=nZ (ju J) I μ;let at_:Act->Option ((zc->Prop)×(zc->Nat)):=λa1=>(Xe (λi=>Td (qh a1 i)) J).bind λvs=>iY (ju J) vs F;refine wpIn_loop (λa1 w1=>∃d1 h1 vs p,w1=mk B d1 h1/\a1.defers=[]/\a1.tmps.size=n/\Same (xf x) a a1/\Xe (λi=>Td (qh a1 i)) J=Td vs/\iY (ju J) vs F=Td p/\p.1 h1) (λa1 w1=>match at_ a1 with|some p=>p.2 w1.heap|none=>0) ⟨d,h,aa,p0,rfl,f.defers,f.size,Same.refl _ _,yj f ah,ai,af⟩ ?_;rintro a1 w1 ⟨d1,h1,vs,p,rfl,U,ae,j,N,hp,hI⟩;have s1:Sat n (Q0 J vs++J3 (xf x) e) a1:=Xq f U ae j N;have D:=vh hp E h1 hI;refine wpIn_mono (ih _ _ _ D m B d1 a1 s1) ?_;rintro ex a2 w2 ⟨r,d2,t,rfl,s2,w,o⟩;cases ex with
  |normal=>
   obtain⟨Z,q,M,L,V,ac⟩:=Xr o;refine⟨⟨d2,t,Z,q,rfl,s2.defers,s2.size,j.trans w,yj s2 M,L,V⟩,?_⟩;have z:at_ a1=Td p:=by simp only[at_,N,zbj];exact hp
   have r:at_ a2=Td q:=by simp only[at_,yj s2 M,zbj];exact L
   rw[z,r];exact ac
  |_=>exact⟨r,d2,t,rfl,s2,j.trans w,o⟩
  exact H.elim
 |_=>exact λQ e h H=>H.elim
def mc(P:Program)(f:FuncId)(args:Array Value)(h:zc)(R:Value->zc->Prop):Prop:=
 ∀(m:Nat) (B:World) (d:Nat),CallsIn (rf Te) m P f args (mk B d h) λe w'=>∃v b h',e=.returned v/\w'=mk B b h'/\R v h'
theorem y6(y:P.follows .mixedOrders=Ta)(pl:Plan)(vs:List Value){fn:Func}{rs:List ResultVar}(t:P.funcs[f]?=Td fn)(e:Q3 fn=Ta)(r:fn.results.toList=rs)(x:fn.ntmps=n)
  (hz:Nat.ble vs.length n=Ta) {R:Value->zc->Prop} (H:WI P n pl (codeOf fn) (uo P rs R) (lD 0 vs) h):mc P f vs.toArray h R:=by
 have o:fn.body=Td (codeOf fn):=by unfold Q3 at e;unfold codeOf;split at e;rename_i c A;rw[A];cases e
 intro m B d;subst x;refine callsIn_of_wp t o trivial ?_ rfl;have z:vs.length<=fn.ntmps:=za3 hz;have u:Sat fn.ntmps (lD 0 vs) { tmps:=vs.toArray++za0 (fn.ntmps-vs.toArray.size) undef,defers:=[] }:=by
  refine⟨rfl,by simp;omega,?_⟩;refine uu vs.toArray _ vs 0 λj v k=>?_;have b:j<vs.length:=by rcases ZX j vs.length with h|h;exact h;rw[ZQ h]at k;cases k
  simp only[YP,zas];rw[zb0 (by simpa using b)];simp[k]
 refine wpIn_mono (KC y (codeOf fn) _ _ _ H m B d _ u) ?_;rintro ex a w ⟨D,d1,h1,rfl,s1,C,p⟩;cases ex with
 |normal=>obtain⟨v,l,i⟩:=Q2 s1 r p;exact⟨s1.defers,v,i B d1,v,d1,h1,rfl,rfl,l⟩
 |ret=>obtain⟨v,l,i⟩:=Q2 s1 r p;exact⟨s1.defers,v,i B d1,v,d1,h1,rfl,rfl,l⟩
 |_=>exact p.elim
end
end Go.X
end
section
namespace Go.X
section
variable {P:Program} {n m id:Nat} {ro:Option Nat} {e:bK} {h:zc} {a:Act}
theorem Ab{P:Program}{ops:Array Oper}{D:List Deferred}{K:Act->World->Prop}:∀(l:List Oper) (a:Act) (w:World),wpList P ops (kE K) l a w->wpList P ops (kE λa1 w1=>∃a0,a1=Yz D a0/\K a0 w1) l (Yz D a) w
 |[],a,w,h=>⟨a,rfl,h⟩
 |o::l,a,w,h=>by
  unfold wpList at h ⊢;have i:yielded ops (Yz D a).tmps=yielded ops a.tmps:=rfl;rw[i];by_cases b:za5 o (yielded ops a.tmps)=Ta;rw[zb b]at h ⊢;rcases h with h|⟨_,h⟩;exact .inl (Oper.wp_mono (λa1 w1 ⟨a0,e,f⟩=>by rw[e];exact Ab l a0 w1 f) (Dw h));exact(Yh h).elim;rw[za b]at h ⊢;have c:(Yz D a).put o.dst undef=Yz D (a.put o.dst undef):=by cases o.dst <;> rfl
  rw[c];exact Ab l _ w h
def pP(P:Program)(n:Nat)(ops:Array Oper)(b:Bool)(K:bK->zc->Prop)(e:bK)(h:zc):Prop:=
 bif ops.toList.all Zg then(bif b then(bif mY ops then wI P n h Ta ops (λc=>lm P n ops h K Ta (i0 ops).length [] (i0 ops) c h) (Je [] (Jd ops [] ops.size) ops.size) e else False)else wR P n ops K ops.toList e h)else False
theorem yA(z:P.follows .mixedOrders=Ta){D:List Deferred}{ops:Array Oper}{f:Bool}{K:bK->zc->Prop}(H:pP P n ops f K e h)(B:World)(d:Nat)(r:Sat n e a){Q:Exit->Act->World->Prop}
  (y:∀b j c h',Sat n b j->Same (wl ops.toList) a j->K b h'->Q .normal (Yz D j) (mk B c h')):(zdq id ops f).wpIn (rf ro) m P Q (Yz D a) (mk B d h):=by
 unfold pP at H;cases hd:ops.toList.all Zg with
 |false=>rw[hd]at H;exact H.elim
 |true=>
  rw[hd,zI]at H;have fin:∀a1 w1,(∃a0,a1=Yz D a0/\∃b c h',w1=mk B c h'/\Sat n b a0/\Same (wl ops.toList) a a0/\K b h')->Q .normal a1 w1:=by rintro a1 w1 ⟨a0,rfl,b,c,h',rfl,k,p,l⟩;exact y b a0 c h' k p l
  cases f with
  |false=>refine wpIn_region_list ?_;rw[<-ZO ops.toList];exact qX _ [] _ _ hd (Ab (K:=λa0 w1=>∃b c h',w1=mk B c h'/\Sat n b a0/\Same (wl ops.toList) a a0/\K b h') _ _ _ (rM B _ _ _ _ _ H r λb j c h' k p l=>⟨b,c,h',rfl,k,p,l⟩)) fin
  |true=>
   rw[zI]at H;cases hB:mY ops with
   |false=>rw[hB]at H;exact H.elim
   |true=>
    rw[hB]at H;have h0:wpAny P .any ops (kE λa0 w1=>∃b c h',w1=mk B c h'/\Sat n b a0/\Same (wl ops.toList) a a0/\K b h') ops.size (za0 ops.size Tc) a (mk B (d+1) h):= C7 B hB H r (λb j c h' k p l=>⟨b,c,h',rfl,k,p,l⟩) (d+1);refine wpIn_mono (wpIn_region_any (Q:=kE λa1 w1=>∃a0,a1=Yz D a0/\∃b c h',w1=mk B c h'/\Sat n b a0/\Same (wl ops.toList) a a0/\K b h') z (sZ (λi o w=>?_) _ _ _ _ (vG _ _ _ _ h0))) λx j w' t=>?_;rw[ZH]at hd;obtain⟨u,e⟩:=YE.1 w;exact hd o (by rw[<-e];simp);cases x with
    |normal=>exact fin _ _ t
    |_=>exact t.elim
def WG(P:Program)(n:Nat):Code->Jf->bK->zc->Prop
 |.skip,Q,e,h=>Q .normal e h
 |.ret,Q,e,h=>Q .ret e h
 |.exit id,Q,e,h=>Q (.exit id) e h
 |.region _ ops draw,Q,e,h=>pP P n ops draw (λe h=>Q .normal e h) e h
 |.seq x y,Q,e,h=>WG P n x (mB (λe h=>WG P n y Q e h) Q) e h
 |.cond c x y,Q,e,h=>match Xd e [] c with
  |some (.bool b)=>(b=Ta->WG P n x Q e h)/\(b=Tc->WG P n y Q e h)
  |_=>False
 |.block id x,Q,e,h=>WG P n x (mu id Q) e h
 |_,_,_,_=>False
def xQ(n:Nat)(B:World)(D:List Deferred)(Q:Jf):Exit->Act->World->Prop:=
 λx a w=>∃e d h a0,a=Yz D a0/\w=mk B d h/\Sat n e a0/\Q x e h
theorem Rn{B:World}{D:List Deferred}{Q:Jf}:∀ex a w,xQ n B D (mu id Q) ex a w->Exit.inBlock id (xQ n B D Q) ex a w:=by
 rintro ex a1 w1 ⟨e,d1,h1,a0,rfl,rfl,s1,b⟩;cases ex with
 |exit i=>simp only[mu]at b;simp only[Exit.inBlock];by_cases c:Nat.beq i id=Ta;rw[zb (YC c)];simp only[c,zI]at b;exact⟨e,d1,h1,a0,rfl,rfl,s1,b⟩;rw[za (λf=>c (by rw[f];simp))];simp only[c,zJ]at b;exact⟨e,d1,h1,a0,rfl,rfl,s1,b⟩
 |_=>exact⟨e,d1,h1,a0,rfl,rfl,s1,b⟩
theorem G8(z:P.follows .mixedOrders=Ta){D:List Deferred}:∀(c:Code) (Q:Jf) (e:bK) (h:zc),WG P n c Q e h ->
  ∀(B:World) (d:Nat) (a:Act),Sat n e a->c.wpIn (rf ro) m P (xQ n B D Q) (Yz D a) (mk B d h):=by
 intro c;induction c with
 |skip=>exact λQ e h H B d a f=>wpIn_skip ⟨e,d,h,a,rfl,rfl,f,H⟩
 |ret=>exact λQ e h H B d a f=>wpIn_ret ⟨e,d,h,a,rfl,rfl,f,H⟩
 |exit id=>exact λQ e h H B d a f=>wpIn_exit ⟨e,d,h,a,rfl,rfl,f,H⟩
 |region id ops p=>exact λQ e h H B d a f=>yA z H B d f λu t w h' k _ F=>⟨u,w,h',t,rfl,rfl,k,F⟩
 |seq x y j i=>
  intro Q e h H B d a f;refine wpIn_seq (wpIn_mono (j _ _ _ H B d a f) ?_);rintro ex a1 w1 ⟨A,d1,h1,a0,rfl,rfl,s1,k⟩;cases ex with
  |normal=>exact i _ _ _ k B d1 a0 s1
  |_=>exact⟨A,d1,h1,a0,rfl,rfl,s1,k⟩
 |cond c x y j i=>intro Q e h H B d a f;simp only[WG]at H;split at H;rename_i b r;have E:(Yz D a).eval c=.bool b:=qu f (c:=[]) trivial r;exact wpIn_cond_split E (λo=>j _ _ _ (H.1 o) B d a f) (λl=>i _ _ _ (H.2 l) B d a f);exact H.elim
 |block id x C=>intro Q e h H B d a f;exact wpIn_block (wpIn_mono (C _ _ _ H B d a f) Rn)
 |_=>exact λQ e h H=>H.elim
def WL(P:Program)(n:Nat)(pl:List (Nat×iP)):Code->Jf->bK->zc->Prop
 |.skip,Q,e,h=>Q .normal e h
 |.ret,Q,e,h=>Q .ret e h
 |.exit id,Q,e,h=>Q (.exit id) e h
 |.region _ ops draw,Q,e,h=>pP P n ops draw (λe h=>Q .normal e h) e h
 |.seq x y,Q,e,h=>WL P n pl x (mB (λe h=>WL P n pl y Q e h) Q) e h
 |.cond c x y,Q,e,h=>match Xd e [] c with
  |some (.bool b)=>(b=Ta->WL P n pl x Q e h)/\(b=Tc->WL P n pl y Q e h)
  |_=>False
 |.block id x,Q,e,h=>WL P n pl x (mu id Q) e h
 |.loop x,Q,e,h=>match qJ pl (y9 x)with
  |some J=>AO J (λf e h=>WL P n pl x (mB f Q) e h) (J3 (xf x) e) e h
  |none=>False
 |_,_,_,_=>False
def Sd(n:Nat)(B:World)(D:List Deferred)(ms:List Nat)(a1:Act)(Q:Jf):Exit->Act->World->Prop:=
 λx a w=>∃e d h a0,a=Yz D a0/\w=mk B d h/\Sat n e a0/\Same ms a1 a0/\Q x e h
theorem JV(hm:P.follows .mixedOrders=Ta){D:List Deferred}{pl:List (Nat×iP)}:∀(c:Code) (Q:Jf) (e:bK) (h:zc),WL P n pl c Q e h ->
  ∀(B:World) (d:Nat) (a:Act),Sat n e a->c.wpIn (rf ro) m P (Sd n B D (xf c) a Q) (Yz D a) (mk B d h):=by
 intro c;induction c with
 |skip=>exact λQ e h H B d a f=>wpIn_skip ⟨e,d,h,a,rfl,rfl,f,Same.refl _ _,H⟩
 |ret=>exact λQ e h H B d a f=>wpIn_ret ⟨e,d,h,a,rfl,rfl,f,Same.refl _ _,H⟩
 |exit id=>exact λQ e h H B d a f=>wpIn_exit ⟨e,d,h,a,rfl,rfl,f,Same.refl _ _,H⟩
 |region id ops af=>exact λQ e h H B d a f=>yA hm H B d f λe' a' d' h' k l q3=>⟨e',d',h',a',rfl,rfl,k,l,q3⟩
 |seq x y A C=>
  intro Q e h H B d a f;have M:∀i∈xf x,i∈xf (.seq x y):=λi hi=>YK.2 (.inl hi);have hy:∀i∈xf y,i∈xf (.seq x y):=λi hi=>YK.2 (.inr hi);refine wpIn_seq (wpIn_mono (A _ _ _ H B d a f) ?_);rintro ex a1 w1 ⟨z,d1,h1,a0,rfl,rfl,s1,G,k⟩;cases ex with
  |normal=>refine wpIn_mono (C _ _ _ k B d1 a0 s1) ?_;rintro ex a2 w2 ⟨o,d2,t,r,rfl,rfl,s2,w,l⟩;exact⟨o,d2,t,r,rfl,rfl,s2,(G.mono M).trans (w.mono hy),l⟩
  |_=>exact⟨z,d1,h1,a0,rfl,rfl,s1,G.mono M,k⟩
 |cond c x y A C=>intro Q e h H B d a f;have M:∀i∈xf x,i∈xf (.cond c x y):=λi hi=>YK.2 (.inl hi);have hy:∀i∈xf y,i∈xf (.cond c x y):=λi hi=>YK.2 (.inr hi);simp only[WL]at H;split at H;rename_i b u;have hc:(Yz D a).eval c=.bool b:=qu f (c:=[]) trivial u;exact wpIn_cond_split hc (λN=>wpIn_mono (A _ _ _ (H.1 N) B d a f) λex a2 w2 ⟨o,d2,t,r,r1,r2,s2,w,l⟩=>⟨o,d2,t,r,r1,r2,s2,w.mono M,l⟩) (λY=>wpIn_mono (C _ _ _ (H.2 Y) B d a f) λex a2 w2 ⟨o,d2,t,r,r1,r2,s2,w,l⟩=>⟨o,d2,t,r,r1,r2,s2,w.mono hy,l⟩);exact H.elim
 |block id x V=>
  intro Q e h H B d a f;refine wpIn_block (wpIn_mono (V _ _ _ H B d a f) ?_);rintro ex a1 w1 ⟨z,d1,h1,a0,rfl,rfl,s1,G,k⟩;cases ex with
  |exit i=>simp only[mu]at k;simp only[Exit.inBlock];by_cases u:Nat.beq i id=Ta;rw[zb (YC u)];simp only[u,zI]at k;exact⟨z,d1,h1,a0,rfl,rfl,s1,G,k⟩;rw[za (λhe=>u (by rw[he];simp))];simp only[u,zJ]at k;exact⟨z,d1,h1,a0,rfl,rfl,s1,G,k⟩
  |_=>exact⟨z,d1,h1,a0,rfl,rfl,s1,G,k⟩
 |loop x V=>
  intro Q e h H B d a f;simp only[WL]at H;split at H;rename_i J hJ;obtain⟨I,μ,h0,E⟩:=H;obtain⟨U,p0,ac,ae,ab⟩:=Xr h0;let F:=nZ (ju J) I μ;let at_:Act->Option ((zc->Prop)×(zc->Nat)):=λa1=>(Xe (λi=>Td (qh a1 i)) J).bind λvs=>iY (ju J) vs F;refine wpIn_loop (λa1 w1=>∃d1 h1 vs p a0,a1=Yz D a0/\w1=mk B d1 h1/\a0.defers=[]/\a0.tmps.size=n/\Same (xf x) a a0/\Xe (λi=>Td (qh a0 i)) J=Td vs/\iY (ju J) vs F=Td p/\p.1 h1) (λa1 w1=>match at_ a1 with|some p=>p.2 w1.heap|none=>0) ⟨d,h,U,p0,a,rfl,rfl,f.defers,f.size,Same.refl _ _,yj f ac,ae,ab⟩ ?_;rintro a1 w1 ⟨d1,h1,vs,p,a0,rfl,rfl,O,aa,j,hv,hp,hI⟩;have s1:Sat n (Q0 J vs++J3 (xf x) e) a0:=Xq f O aa j hv;have u:=vh hp E h1 hI;refine wpIn_mono (V _ _ _ u B d1 a0 s1) ?_;rintro ex a2 w2 ⟨o,d2,t,r,rfl,rfl,s2,w,l⟩;have va:∀(a1:Act),(λi=>Td (qh (Yz D a1) i))=λi=>Td (qh a1 i):=λ_=>rfl;cases ex with
  |normal=>
   obtain⟨T,q,L,hq,S,Z⟩:=Xr l;refine⟨⟨d2,t,T,q,r,rfl,rfl,s2.defers,s2.size,j.trans w,yj s2 L,hq,S⟩,?_⟩;have z:at_ (Yz D a0)=Td p:=by simp only[at_,va,hv,zbj];exact hp
   have o:at_ (Yz D r)=Td q:=by simp only[at_,va,yj s2 L,zbj];exact hq
   rw[z,o];exact Z
  |_=>exact⟨o,d2,t,r,rfl,rfl,s2,j.trans w,l⟩
  exact H.elim
 |_=>exact λQ e h H=>H.elim
abbrev i3:=LoopState->Option Code->Loop
def KI(rec:i3)(l:Nat)(K:Value->zc->Prop):Jf
 |.normal,_,h=>h[l]?=Td (.loop (rec .busy Te))/\K (.bool Ta) (h.setIfInBounds l (.loop (rec .ready Te)))
 |.ret,_,h=>h[l]?=Td (.loop (rec .busy Te))/\K (.bool Tc) (h.setIfInBounds l (.loop (rec .done (Td .ret))))
 |_,_,_=>False
def lM(P:Program)(n:Nat)(b bd:Code)(rec:i3)(l:Nat)(K:Value->zc->Prop)(e:bK)(h:zc):Prop:=
 WG P n b (λx c h1=>match x with
  |.normal=>h1[l]?=Td (.loop (rec .ready Te))/\WG P n bd (KI rec l K) c (h1.setIfInBounds l (.loop (rec .busy Te)))
  |_=>False) e h
theorem FN(a:Act):Yz [] a=a:=by unfold Yz;rw[ZO]
def y3:bK->List Nat->List Value->bK
 |e,p::ps,v::vs=>y3 (putO e (Td p) [] v) ps vs
 |e,_,_=>e
def oC:Array Value->List Nat->List Value->Array Value
 |t,p::ps,v::vs=>oC (t.setIfInBounds p v) ps vs
 |t,_,_=>t
theorem Ef:∀(ps:List Nat) (vs:List Value) (t:Array Value),(ps.zip vs).foldl (λ(t:Array Value) (x:Tmp×Value)=>t.setIfInBounds x.1 x.2) t=oC t ps vs
 |[],_,_=>rfl
 |_::_,[],_=>rfl
 |p::ps,v::vs,t=>Ef ps vs (t.setIfInBounds p v)
theorem Fg{n:Nat}:∀(ps:List Nat) (vs:List Value) (e:bK) (a:Act),(∀p∈ps,jr n [] (Td p)=Ta)->Sat n e a->Sat n (y3 e ps vs) { tmps:=oC a.tmps ps vs,defers:=[] }
 |[],vs,e,a,_,hs=>by have:=hs.defers;cases a;simp only at this;subst this;exact hs
 |p::ps,[],e,a,_,hs=>by have:=hs.defers;cases a;simp only at this;subst this;exact hs
 |p::ps,v::vs,e,a,h,hs=>Fg ps vs _ (a.put (Td p) v) (λq b=>h q (XZ _ b)) (hs.putO (h p YJ) (λ_=>rfl) (λc=>absurd trivial c))
theorem IY(I:P.follows .mixedOrders=Ta){n l:Nat}{ps:List Nat}{f bd:Code}{fn:FuncId}{D:Nat}(C:∀p∈ps,jr n [] (Td p)=Ta) {rec:i3} (b:rec=λst T=>{ state:=st,pending:=T,fn:=fn,tmps:=a.tmps,params:=ps.toArray,assign:=f,body:=bd,defers:=D }) {vs:List Value} (Q:ps.length=vs.length) (V:Sat n e a) (N:h[l]?=Td (.loop (rec .ready Te))) {K:Value->zc->Prop}
  (H:lM P n f bd rec l K (y3 e ps vs) h):YX P l vs.toArray h K:=by
 intro m B d;have A:(mk B d h).heap[l]?=Td (.loop (rec .ready Te)):=N;have G:=run_yield (P:=P) (w:=mk B d h) (args:=vs.toArray) A (by rw[b];show vs.toArray.size=ps.toArray.size;simp[Q]);refine⟨_,_,_,_,G,?_⟩;rw[b]at G ⊢;have s2:=Fg ps vs e a C V;have key:RoundIn (rf Te) m P l fn (oC a.tmps ps vs) f bd (mk B d h) (λe w'=>∃v O h',e=.returned v/\w'=mk B O h'/\K v h'):=by
  refine roundIn_of_wpIn (F:=rf Te) trivial ?_;have U:(rf Te).inRound l=rf (Td l):=rfl;rw[U,<-FN { tmps:=oC a.tmps ps vs,defers:=[] }];refine wpIn_mono (G8 I f _ _ _ H B d _ s2) ?_;rintro ex a1 w1 ⟨e1,d1,h1,a0,rfl,rfl,s1,E⟩;cases ex with
  |normal=>
   obtain⟨M,S⟩:=E;have r:(mk B d1 h1).heap[l]?=Td (.loop (rec .ready Te)):=M;have L:=run_beginRound (P:=P) r (by rw[b]);refine⟨_,L,?_⟩;have j:({ rec .ready Te with state:=.busy }:Loop)=rec .busy Te:=by rw[b]
   rw[j];refine wpIn_mono (G8 I bd _ _ _ S B d1 a0 s1) ?_;rintro ex a2 w2 ⟨Y,d2,o,a3,rfl,rfl,Z,u⟩;cases ex with
   |normal=>
    obtain⟨z,y⟩:=u;have i:(mk B d2 o).heap[l]?=Td (.loop (rec .busy Te)):=z;have c:=run_endRound (P:=P) Te i;refine⟨_,_,c,.bool Ta,d2,o.setIfInBounds l (.loop (rec .ready Te)),rfl,?_,y⟩;have k:({ rec .busy Te with state:=if(Te:Option Code).isNone then .ready else .done,pending:=Te }:Loop)=rec .ready Te:=by rw[b];rfl
    rw[k];rfl
   |ret=>
    obtain⟨z,y⟩:=u;have i:(mk B d2 o).heap[l]?=Td (.loop (rec .busy Te)):=z;have c:=run_endRound (P:=P) (Td .ret) i;refine⟨_,_,c,.bool Tc,d2,o.setIfInBounds l (.loop (rec .done (Td .ret))),rfl,?_,y⟩;have k:({ rec .busy Te with state:=if(Td Code.ret:Option Code).isNone then .ready else .done,pending:=Td .ret }:Loop)=rec .done (Td .ret):=by rw[b];rfl
    rw[k];rfl
   |_=>exact u.elim
  |_=>exact E.elim
 show RoundIn (rf Te) m P l fn (Array.foldl (λ(t:Array Value) (x:Tmp×Value)=>t.setIfInBounds x.1 x.2) a.tmps (ps.toArray.zip vs.toArray)) _ _ _ _;have J:Array.foldl (λ(t:Array Value) (x:Tmp×Value)=>t.setIfInBounds x.1 x.2) a.tmps (ps.toArray.zip vs.toArray)=oC a.tmps ps vs:=by rw[<-Ef];simp
 rw[J];exact key
def l6:Code->Code
 |.rangeFunc _ _ x _=>x
 |.seq x y=>match l6 x with
  |.skip=>l6 y
  |c=>c
 |.block _ x=>l6 x
 |_=>.skip
def lK:Code->Code
 |.rangeFunc _ _ _ y=>y
 |.seq x y=>match lK x with
  |.skip=>lK y
  |c=>c
 |.block _ x=>lK x
 |_=>.skip
def marks(c:List Nat):List Deferred:=c.map λb=>{ target:=.collected b,args:=#[] }
abbrev kV:=Exit->List Nat->bK->zc->Prop
def Sk(K:List Nat->bK->zc->Prop)(Q:kV):kV
 |.normal,ds,e,h=>K ds e h
 |x,ds,e,h=>Q x ds e h
def Cc(id:Nat)(Q:kV):kV
 |.exit i,ds,e,h=>bif Nat.beq i id then Q .normal ds e h else Q (.exit i) ds e h
 |x,ds,e,h=>Q x ds e h
def rX(rec:i3)(l:Nat)(N R:zc->Prop)(h:zc):Prop:=
 (h[l]?=Td (.loop (rec .ready Te))/\N (h.setIfInBounds l (.loop (rec .exhausted Te))))\/(h[l]?=Td (.loop (rec .done (Td .ret)))/\R (h.setIfInBounds l (.loop (rec .exhausted (Td .ret)))))
def EO(P:Program)(n:Nat)(i j:Nat)(f bd:Code)(v:Value)(Q:kV)(m:List Nat)(e:bK)(h:zc):Prop:=
 bif jr n [] (Td i)&&jr n [] (Td j)then(∃g lb,v=.func (.func g) #[] lb/\zm P g=Ta/\∀rec:i3,
  (∀{l k:Value} {b:zc} {K:Value->zc->Prop},b[h.size+1]?=Td (.loop (rec .ready Te))->lM P n f bd rec (h.size+1) K (putO (putO e (Td i) [] l) (Td j) [] k) b->YX P (h.size+1) #[l,k] b K) ->
  mc P g (#[.func (.yield (h.size+1)) #[] #[]]++lb) ((h.push (.deferred (Td []))).push (.loop (rec .ready Te))) λ_ o=>rX rec (h.size+1) (λc=>Q .normal (h.size::m) e c) (λc=>Q .ret (h.size::m) e c) o)else False
def IZ(P:Program)(n:Nat)(i:Nat)(f bd:Code)(v:Value)(Q:kV)(k:List Nat)(e:bK)(h:zc):Prop:=
 bif jr n [] (Td i)then(∃g lb,v=.func (.func g) #[] lb/\zm P g=Ta/\∀rec:i3,
  (∀{j:Value} {b:zc} {K:Value->zc->Prop},b[h.size+1]?=Td (.loop (rec .ready Te))->lM P n f bd rec (h.size+1) K (putO e (Td i) [] j) b->YX P (h.size+1) #[j] b K) ->
  mc P g (#[.func (.yield (h.size+1)) #[] #[]]++lb) ((h.push (.deferred (Td []))).push (.loop (rec .ready Te))) λ_ l=>rX rec (h.size+1) (λc=>Q .normal (h.size::k) e c) (λc=>Q .ret (h.size::k) e c) l)else False
def nz(e:bK):Nat->Nat->bK
 |0,_=>[]
 |f+1,i=>match ml e i with
  |some v=>(i,[],v)::nz e f (i+1)
  |none=>nz e f (i+1)
theorem yG{e:bK}:∀{f i:Nat} {x:Nat×qf×Value},x∈nz e f i->x.2.1=[]/\ml e x.1=Td x.2.2
 |0,_,_,h=>nomatch h
 |f+1,i,x,h=>by unfold nz at h;split at h;rename_i v b;rcases YB.1 h with rfl|h;exact⟨rfl,b⟩;exact yG h;exact yG h
theorem uB(h:Sat n e a)(f i:Nat):Sat n (nz e f i) a:=⟨h.defers,h.size,λx j=>by obtain⟨k,c,v⟩:=x;obtain⟨h1,b⟩:=yG j;have h1:c=[]:=h1;subst h1;exact⟨λ_=>Q1 h b,λl=>absurd trivial l⟩⟩
def WD(P:Program)(n:Nat)(pl:List (Nat×iP)):Code->kV->List Nat->bK->zc->Prop
 |.skip,Q,f,e,h=>Q .normal f e h
 |.ret,Q,f,e,h=>Q .ret f e h
 |.exit id,Q,f,e,h=>Q (.exit id) f e h
 |.region _ ops draw,Q,f,e,h=>pP P n ops draw (λe h=>Q .normal f e h) e h
 |.seq x y,Q,f,e,h=>WD P n pl x (Sk (λf e h=>WD P n pl y Q f e h) Q) f e h
 |.cond c x y,Q,f,e,h=>match Xd e [] c with
  |some (.bool b)=>(b=Ta->WD P n pl x Q f e h)/\(b=Tc->WD P n pl y Q f e h)
  |_=>False
 |.block id x,Q,f,e,h=>WD P n pl x (Cc id Q) f e h
 |.rangeFunc g ps asg bd,Q,f,e,h=>match Xd e [] g,ps.toList with
  |some v,[p1,p2]=>EO P n p1 p2 asg bd v Q f (nz e n 0) h
  |some v,[p1]=>IZ P n p1 asg bd v Q f (nz e n 0) h
  |_,_=>False
 |.loop x,Q,f,e,h=>WL P n pl (.loop x) (λex e h=>Q ex f e h) e h
 |_,_,_,_,_=>False
def FB(n:Nat)(B:World)(Q:kV):Exit->Act->World->Prop:=
 λx a w=>∃b e d h a0,a=Yz (marks b) a0/\w=mk B d h/\Sat n e a0/\Q x b e h
theorem BY(x:1<=m){ps:Array Nat}{i bd:Code}{l:FuncId}{lb:Array Value}(E:zm P l=Ta){g:Operand}{Q:kV}{j:List Nat}(z:Sat n e a)(J:(Yz (marks j) a).eval g=.func (.func l) #[] lb) (F:∀fn (rec:i3),rec=(λst u=>{ state:=st,pending:=u,fn:=fn,tmps:=a.tmps,params:=ps,assign:=i,body:=bd,defers:=h.size }) -> mc P l (#[.func (.yield (h.size+1)) #[] #[]]++lb) ((h.push (.deferred (Td []))).push (.loop (rec .ready Te))) λ_ r=>rX rec (h.size+1) (λC=>Q .normal (h.size::j) e C) (λC=>Q .ret (h.size::j) e C) r)
  (B:World) (d:Nat):(Code.rangeFunc g ps i bd).wpIn (rf Te) m P (FB n B Q) (Yz (marks j) a) (mk B d h):=by
 refine wpIn_rangeFunc λo _=>?_;obtain⟨rec,b⟩:∃rec:i3,rec=λst u=>{ state:=st,pending:=u,fn:=o,tmps:=a.tmps,params:=ps,assign:=i,body:=bd,defers:=h.size }:=⟨_,rfl⟩;have w:=F o rec b;refine⟨h.size+1,[{ target:=.collected h.size,args:=#[] }],mk B d ((h.push (.deferred (Td []))).push (.loop (rec .ready Te))),{ target:=.fn (.func l) lb,args:=#[.func (.yield (h.size+1)) #[] #[]] },mk B d ((h.push (.deferred (Td []))).push (.loop (rec .ready Te))),l,#[.func (.yield (h.size+1)) #[] #[]]++lb,mk B d ((h.push (.deferred (Td []))).push (.loop (rec .ready Te))),?_,?_,λ_ _=>trivial,?_,λ_=>x,?_⟩;rw[b];exact run_enterLoop_outer _ _ _ _ _;simp only[resolve,J];simp[go_sem,zc7];simp only[invoke];exact Xo E _ _;have H:({ Yz (marks j) a with defers:=[{ target:=.collected h.size,args:=#[] }]++(Yz (marks j) a).defers }:Act)=Yz (marks (h.size::j)) a:=by unfold Yz marks;simp only[z.defers];rfl
 rw[H];refine CallsIn.mono (w (m-1) B d) ?_;rintro e' w' ⟨v,t,r,rfl,rfl,k⟩;rcases k with⟨f,I⟩|⟨f,G⟩;have c:(mk B t r).heap[h.size+1]?=Td (.loop (rec .ready Te)):=f;have p:=run_endLoop (P:=P) c (by rw[b];intro A;cases A);have D:({ rec .ready Te with state:=.exhausted }:Loop)=rec .exhausted Te:=by rw[b]
 have y:(rec .ready Te).pending=Te:=by rw[b]
 rw[D,y]at p;exact⟨Te,_,p,_,e,t,_,a,rfl,rfl,z,I⟩;have c:(mk B t r).heap[h.size+1]?=Td (.loop (rec .done (Td .ret))):=f;have p:=run_endLoop (P:=P) c (by rw[b];intro A;cases A);have D:({ rec .done (Td .ret)with state:=.exhausted }:Loop)=rec .exhausted (Td .ret):=by rw[b]
 have y:(rec .done (Td .ret)).pending=Td .ret:=by rw[b]
 rw[D,y]at p;exact⟨Td .ret,_,p,wpIn_ret ⟨_,e,t,_,a,rfl,rfl,z,G⟩⟩
theorem Tt(I:P.follows .mixedOrders=Ta)(F:1<=m){pl:List (Nat×iP)}:∀(c:Code) (Q:kV) (k:List Nat) (e:bK) (h:zc),WD P n pl c Q k e h ->
  ∀(B:World) (d:Nat) (a:Act),Sat n e a->c.wpIn (rf Te) m P (FB n B Q) (Yz (marks k) a) (mk B d h):=by
 intro c;induction c with
 |skip=>exact λQ k e h H B d a f=>wpIn_skip ⟨k,e,d,h,a,rfl,rfl,f,H⟩
 |ret=>exact λQ k e h H B d a f=>wpIn_ret ⟨k,e,d,h,a,rfl,rfl,f,H⟩
 |exit id=>exact λQ k e h H B d a f=>wpIn_exit ⟨k,e,d,h,a,rfl,rfl,f,H⟩
 |region id ops V=>exact λQ k e h H B d a f=>yA I H B d f λe' a' d' h' l _ q2=>⟨k,e',d',h',a',rfl,rfl,l,q2⟩
 |seq x y D w=>
  intro Q k e h H B d a f;refine wpIn_seq (wpIn_mono (D _ _ _ _ H B d a f) ?_);rintro ex a1 w1 ⟨r,C,d1,h1,a0,rfl,rfl,s1,l⟩;cases ex with
  |normal=>exact w _ _ _ _ l B d1 a0 s1
  |_=>exact⟨r,C,d1,h1,a0,rfl,rfl,s1,l⟩
 |cond c x y D w=>intro Q k e h H B d a f;simp only[WD]at H;split at H;rename_i b E;have hc:(Yz (marks k) a).eval c=.bool b:=qu f (c:=[]) trivial E;exact wpIn_cond_split hc (λO=>D _ _ _ _ (H.1 O) B d a f) (λJ=>w _ _ _ _ (H.2 J) B d a f);exact H.elim
 |block id x ih=>
  intro Q k e h H B d a f;refine wpIn_block (wpIn_mono (ih _ _ _ _ H B d a f) ?_);rintro ex a1 w1 ⟨r,C,d1,h1,a0,rfl,rfl,s1,l⟩;cases ex with
  |exit i=>simp only[Cc]at l;simp only[Exit.inBlock];by_cases E:Nat.beq i id=Ta;rw[zb (YC E)];simp only[E,zI]at l;exact⟨r,C,d1,h1,a0,rfl,rfl,s1,l⟩;rw[za (λhe=>E (by rw[he];simp))];simp only[E,zJ]at l;exact⟨r,C,d1,h1,a0,rfl,rfl,s1,l⟩
  |_=>exact⟨r,C,d1,h1,a0,rfl,rfl,s1,l⟩
 |rangeFunc g ps Z bd aa ab=>
  intro Q k e h H B d a f;simp only[WD]at H;split at H;rename_i v z L U A;have o:ps=#[z,L]:=by rw[<-Array.toList_inj];exact A
  subst o;unfold EO at H;cases j:(jr n [] (Td z)&&jr n [] (Td L))with
  |false=>rw[j]at H;exact H.elim
  |true=>rw[j]at H;rw[YH]at j;obtain⟨gf,lb,rfl,M,S⟩:=H;exact BY F M (uB f n 0) (qu f (c:=[]) trivial U) (λfn rec t=>S rec (λ {N v2 Y K} T u=>IY I (ps:=[z,L]) (vs:=[N,v2]) (by intro p G;simp only[YB,zcx,or_false]at G;rcases G with rfl|rfl;exact j.1;exact j.2) t rfl (uB f n 0) T u)) B d
  rename_i v z U A;have o:ps=#[z]:=by rw[<-Array.toList_inj];exact A
  subst o;unfold IZ at H;cases j:jr n [] (Td z)with
  |false=>rw[j]at H;exact H.elim
  |true=>rw[j]at H;obtain⟨gf,lb,rfl,M,S⟩:=H;exact BY F M (uB f n 0) (qu f (c:=[]) trivial U) (λfn rec t=>S rec (λ {N Y K} T u=>IY I (ps:=[z]) (vs:=[N]) (by intro p G;simp only[YB,zcx,or_false]at G;subst G;exact j) t rfl (uB f n 0) T u)) B d
  exact H.elim
 |loop x _=>intro Q k e h H B d a f;refine wpIn_mono (JV I (.loop x) _ _ _ H B d a f) ?_;rintro ex a1 w1 ⟨C,d1,h1,a0,rfl,rfl,s1,_,l⟩;exact⟨k,C,d1,h1,a0,rfl,rfl,s1,l⟩
 |_=>exact λQ k e h H=>H.elim
def takeD:List Nat->(zc->Prop)->zc->Prop
 |[],K,h=>K h
 |b::ds,K,h=>h[b]?=Td (.deferred (Td []))/\takeD ds K (h.setIfInBounds b (.deferred Te))
def WC(P:Program)(rs:List ResultVar)(R:Value->zc->Prop):kV
 |.normal,ds,e,h=>takeD ds (λh'=>kZ P h' e rs λvs=>R (lz vs) h') h
 |.ret,ds,e,h=>takeD ds (λh'=>kZ P h' e rs λvs=>R (lz vs) h') h
 |_,_,_,_=>False
theorem A5{P:Program}{fn:Func}{n:Nat}{rs:List ResultVar}(i:fn.results.toList=rs){e:bK}{a:Act}(j:Sat n e a){B:World}{R:Value->zc->Prop}{D:Nat}:∀(c:List Nat) (d:Nat) (h:zc),takeD c (λh'=>kZ P h' e rs λvs=>R (lz vs) h') h ->
  LeavesInM Fence.wide D P fn a.tmps (λe w'=>∃v k h',e=.returned v/\w'=mk B k h'/\R v h') (marks c) .returning (mk B d h)
 |[],d,h,H=>by obtain⟨v,m,l⟩:=Q2 j i H;exact⟨v,l B d,v,d,h,rfl,rfl,m⟩
 |b::c,d,h,⟨h1,H⟩=>by have f:(mk B d h).heap[b]?=Td (.deferred (Td [])):=h1;exact⟨by simp,.inl ⟨_,_,rfl,run_takeDeferred (P:=P) f,A5 i j c d _ H⟩⟩
theorem D8(A:P.follows .mixedOrders=Ta)(vs:List Value){f:FuncId}{fn:Func}{rs:List ResultVar}(x:P.funcs[f]?=Td fn)(e:Q3 fn=Ta)(t:fn.results.toList=rs)(z:fn.ntmps=n)(hz:Nat.ble vs.length n=Ta){R:Value->zc->Prop}{F:Prop}(H:F)(pl:List (Nat×iP):=[])(u:F=WD P n pl (codeOf fn) (WC P rs R) [] (lD 0 vs) h):XC P f vs.toArray h R:=by
 have l:fn.body=Td (codeOf fn):=by unfold Q3 at e;unfold codeOf;split at e;rename_i c D;rw[D];cases e
 intro B d;refine callsIn_wide.1 (callsIn_of_wp_marks (F:=Fence.wide) (n:=1) x l trivial ?_ rfl);subst z;have C:vs.length<=fn.ntmps:=za3 hz;have y:Sat fn.ntmps (lD 0 vs) { tmps:=vs.toArray++za0 (fn.ntmps-vs.toArray.size) undef,defers:=[] }:=by
  refine⟨rfl,by simp;omega,?_⟩;refine uu vs.toArray _ vs 0 λj v o=>?_;have k:j<vs.length:=by rcases ZX j vs.length with h|h;exact h;rw[ZQ h]at o;cases o
  simp only[YP,zas];rw[zb0 (by simpa using k)];simp[o]
 have:=Tt A (m:=1) (by omega) (codeOf fn) _ [] _ _ (u ▸ H) B d _ y;rw[show marks []=[]from rfl,FN]at this;refine wpIn_mono this ?_;rintro ex a w ⟨b,E,d1,h1,a0,rfl,rfl,s1,i⟩;have p:(Yz (marks b) a0).defers=marks b:=by unfold Yz;rw[s1.defers];rfl
 have r:(Yz (marks b) a0).tmps=a0.tmps:=rfl;cases ex with
 |normal=>show LeavesInM _ _ _ _ _ _ _ _ _;rw[p,r];exact A5 t s1 b d1 h1 i
 |ret=>show LeavesInM _ _ _ _ _ _ _ _ _;rw[p,r];exact A5 t s1 b d1 h1 i
 |_=>exact i.elim
end
end Go.X
end
section
namespace Go.X
open Go Go.X Go.Proofs Go.RowKit
section
variable {g:zc} {i:Nat}
theorem zo{i j:Nat}{o:Obj}(h:j≠i):(g.setIfInBounds i o)[j]?=g[j]?:=YV (Ne.symm h)
theorem set_self{o:Obj}(h:i<g.size):(g.setIfInBounds i o)[i]?=Td o:=zbf h
section
variable {h : zc} {M : Fr} {b2 b3 b4 b5 bc D l : Nat} {rec : i3} {s : Bs} {sl : Sl} {bs : List Nat} {g : zc}
end
end
section
section
variable {lo : Nat} {g : zc} {M : Fr} {bp : Nat} {s : Bs} {a e : Int} {O : Nat -> Prop} {K : Value -> zc -> Prop}
theorem GB:yc Tp 3=Ta:=by kernel_rfl
end
end
section
variable {g:zc}
theorem vj{M:Fr}(ag:AgM M g){xs:List Int}{s:Sl}(H:Rd M (.row (.int .i64)) xs [aK s]){k:Nat}(c:k<xs.length):∃b o,s.a=Td ⟨b,o,Te⟩/\zd g ⟨b,o+k*1,Te⟩=Td (.int .i64 xs[k]):=by obtain⟨b,o,cs,e,h,f⟩:=Go.X.rowAt H c;exact⟨b,o,e,HR ag h f⟩
theorem Pp:yc Tp 25=Ta:=by kernel_rfl
theorem OX:yf Tp 25=4:=by kernel_rfl
theorem mS{b:Nat}{x y z w:Value}(B:Blk g b #[x,y,z,w]){k:Int}{s:Bt}{sk si:Sl}{K:zc->Prop}(f:∀g',(∀j,j≠b->g'[j]?=g[j]?)->g'.size=g.size->Blk g' b #[.int .i64 k,.string s,aK sk,aK si]->K g'):
  XRunU Tp (YG 25 (.pointer (Td ⟨b,0,Te⟩)) (.agg #[.int .i64 k,.string s,aK sk,aK si])) g K:=by
 refine mV (vs:=[.int .i64 k,.string s,aK sk,aK si]) Pp B rfl OX (XV _) (λu c=>?_) λg' e i h=>f g' h i e;simp at c;rcases c with rfl|rfl|rfl|rfl <;> rfl
section
variable {t : Bs} {lvs : List Nat} {gl : Fr}
end
end
section
theorem nI:ElemT Tp 29 3 (.int .i64 0) (sz (.int .i64)) 8:=⟨by kernel_rfl,⟨Tryz.t3,by kernel_rfl,by kernel_rfl,by kernel_rfl,by kernel_rfl⟩,rfl,by decide⟩
section
variable {lo : Nat} {g : zc} {M : Fr} {bp : Nat} {s : Bs} {a e : Int} {O J D : Nat -> Prop} {K : Value -> zc -> Prop} {HI : List Bs -> zc -> Prop} {F : FuncId} {A C : Array Value}
end
end
section
theorem Rv:ElemT Tp 22 9 (.string ⟨#[]⟩) (sz .str) 16:=⟨by kernel_rfl,⟨Tryz.t9,by kernel_rfl,by kernel_rfl,by kernel_rfl,by kernel_rfl⟩,rfl,by decide⟩
section
variable {lo : Nat} {g : zc} {M gl : Fr} {bp : Nat} {s : Bs} {a e : Int} {O : Nat -> Prop} {K : Value -> zc -> Prop}
end
end
section
theorem kW{M:Fr}{T:Ty}:Rd M (.row T) [] [aK ⟨Te,0,0⟩]:=⟨_,rfl,Te,0,rfl,⟨by simp,by simp⟩,.inl rfl⟩
end
end Go.X
end
section
namespace Go.X.U
section
def nS(o:Oper):Option Bool:=match o.op with
 |.fieldAddr _ _ _=>Td Ta
 |.indexAddr _ _ _=>Td Ta
 |.move _=>Td Ta
 |.assign _=>Td Ta
 |.load _ _=>Td Tc
 |.binOp _ _ _ _ _=>Td Ta
 |.call c=>match c.callee with
  |.builtin .len=>Td Ta
  |_=>Te
 |_=>Te
def pG(o:Oper):Bool:=match nS o with
 |some _=>Ta
 |none=>Tc
def jd(o:Oper):Bool:=match nS o with
 |some b=>!b
 |none=>Tc
end
end Go.X.U
end
section
namespace Go.X
section
theorem wk{gl:Fr}(O:GL gl){v:Tr}(E:Sm v)(I:xx v=Ta){h:zc}{M:Fr}{u:Value}(G:Fr.le gl M)(ag:AgM M h)(D:RdV M .tree v u){K:Value->zc->Prop}
  (Q:∀(h':zc) (bs:List Nat) (sk si:Sl),Keep h.size h h'->OT h' v bs (zj v.kind v.text sk si)->(∀b∈bs,h.size<=b)->K (.agg #[.int .i64 v.kind,.string v.text,aK sk,aK si]) h'):XC Tp 90 #[u] h K:=by
 have l:=D;obtain⟨sk,si,rfl,U,ri⟩:=qn D;apply TZ v.kind v.text sk si;intro h1 f;have T:h1.size=h.size+1:=XY _;have Z:f.size=h1.size+1:=XY _;have N:Keep h.size h h1:=Keep.push _ _ (XV _);have k2:Keep h1.size h1 f:=Keep.push _ _ (XV _);have b1:Blk h1 h.size (zj v.kind v.text sk si).toArray:=Blk.new _ _ _;have b2:Blk f h1.size (zj 0 ⟨#[]⟩ ⟨Te,0,0⟩ ⟨Te,0,0⟩).toArray:=Blk.new _ _ _;clear_value h1 f;have t:Keep h.size h f:=N.trans k2 (by omega);have z:=ag.keep t;refine⟨v.kind,v.text,sk,si,(b1.ofKeep k2).ld (cs:=zj v.kind v.text sk si),?_⟩;have c:PC Tp gl 83 [Arg.mk .tree v] [.bool] (λr=>r=xx v):=vM O E rfl;refine c.go (vs:=[.agg #[.int .i64 v.kind,.string v.text,aK sk,aK si]]) G z (qk l ym) λw J Y r m k A=>?_;have A:r=xx v:=A;refine⟨r,ib k,λx=>?_,λx=>?_⟩;rw[A,I]at x;cases x;refine⟨v.kind,v.text,sk,si,((b1.ofKeep k2).ofKeep m.keep).ld (cs:=zj v.kind v.text sk si),?_⟩;have j:Keep h.size h J:=t.trans m.keep (by have:=t.size;omega);refine(U7 (bR v) v (XV _) E (ag.keep j) l).mono ?_;rintro w' h4 ⟨y,bs,o,n,rfl,L,e⟩;have z3:=m.keep.size;have S:=y.size;refine⟨v.kind,v.text,o,n,rfl,?_⟩;refine w5 (((b2.ofKeep m.keep).ofKeep y)) rfl _ _ _ _ λF b5 V C=>?_;have P:Keep h.size h F:=⟨by have:=j.size;omega,λi hi=>by rw[C i (by omega),y.get i (by have:=j.size;omega)];exact j.get i hi⟩;have B:=L.frame λb p=>C b (by have:=e b p;omega);have H:=j.size;exact⟨v.kind,v.text,o,n,b5.ld (cs:=zj v.kind v.text o n),Q F bs o n P B λb p=>by have:=e b p;omega⟩
theorem OT.zero(h:zc):OT h zT [] (zj 0 ⟨#[]⟩ ⟨Te,0,0⟩ ⟨Te,0,0⟩):= OT.mk (k:=0) (s:=⟨#[]⟩) (ks:=[]) (xs:=[]) (sk:=⟨Te,0,0⟩) (si:=⟨Te,0,0⟩) (bk:=[]) (bb:=[]) (b:=0) (cs:=#[]) (bf:=λ_=>[]) ⟨rfl,by simp,by simp,.inl ⟨rfl,rfl,rfl⟩⟩ ⟨rfl,by simp,by simp⟩ (.inl ⟨rfl,rfl,rfl⟩) (λi hi=>absurd hi (by simp)) (by simp)
end
end Go.X
end
