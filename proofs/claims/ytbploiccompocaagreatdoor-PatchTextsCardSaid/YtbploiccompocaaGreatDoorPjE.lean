/- A part of the proof: nothing is stated here for its own sake. -/
import Derived.Test.YtbploiccompocaaGreatDoorPjD
import Derived.RangeFuncCalls
import Derived.OrdersIn
open _root_.Go.Addr renaming add->Aj
open _root_.Array renaming getD_eq_getD_getElem?->Bq,getElem?_append_left->CN,getElem?_eq_getElem->AN,getElem?_eq_some_iff->Ac,getElem?_push->BM,getElem?_setIfInBounds_ne->AL,getElem?_toList->A0,push->E9,replicate->Bm,size->C6,size_push->Ak,size_setIfInBounds->Cf,toList->Dk
open _root_.Bool renaming and_eq_true->AI,and_false->EI,and_true->CL,cond_true_left->Bn,eq_iff_iff->AB,false_or->DV,not_eq_true'->B4,not_not->E2,true_and->Bi
open _root_.Go.Builtin renaming append_->Au
open _root_.Go.Code renaming cond->EK,region->Db
open _root_.Go.Deferred renaming ofValue->Eh
open _root_.False renaming elim->DU
open _root_.Go.Instr renaming storeAt->Ai
open _root_.Int renaming toNat_natCast->Ad
open _root_.Go.IntKind renaming wrap->Aa
open _root_.List renaming all_append->CR,all_cons->CB,all_eq_true->AQ,append_assoc->AP,append_nil->Bf,cons_append->A5,drop_drop->Cd,drop_eq_getElem_cons->AE,drop_eq_nil_of_le->A6,drop_length->Cw,drop_take->Ew,drop_zero->A2,eq_nil_iff_forall_not_mem->CU,eq_nil_of_length_eq_zero->Av,ext_getElem?->A7,flatMap_cons->D2,getElem?_append_left->Bo,getElem?_append_right->Bj,getElem?_drop->AJ,getElem?_eq_getElem->Am,getElem?_eq_none->Bu,getElem?_eq_some_iff->Az,getElem?_map->B5,getElem?_take->AF,getElem_append_left->CX,getElem_append_right->Cx,getElem_mem->As,getElem_of_mem->Bc,length->Bb,length_append->Ao,length_cons->Ay,length_drop->AY,length_eq_zero_iff->Ck,length_erase_of_mem->CW,length_map->Ba,length_nil->Dh,length_pos_iff->A3,length_range->DY,length_singleton->Cj,length_take->AR,map_append->BF,map_map->EJ,mem_append->An,mem_append_left->Aq,mem_append_right->AC,mem_cons->Af,mem_cons_of_mem->Ah,mem_cons_self->Ar,mem_flatMap->BA,mem_map->BN,mem_of_getElem?->CF,mem_of_mem_take->BI,mem_range->Cc,mem_singleton->Be,nil_append->BP,nodup_append->A9,nodup_cons->CQ,nodup_nil->Et,nodup_range->Dw,range->BJ,take_append_drop->Br,take_length->AD,take_of_length_le->AX,take_succ_cons->BV,take_succ_eq_append_getElem->Ag,take_take->Ex,take_zero->Cz
open _root_.List.cons renaming injEq->Cq
open _root_.Nat renaming add_mul->BH,add_zero->C8,eq_of_beq_eq_true->Al,eq_or_lt_of_le->DF,le_of_ble_eq_true->BS,le_refl->Ae,lt_or_ge->AZ,min_eq_left->C5,mod_eq_of_lt->Ek,mul_le_mul_right->AM,mul_one->Cg,one_mul->Dj,sub_zero->Ca,zero_add->AH,zero_le->CY,zero_mul->Di
open _root_.Go.Op renaming bytesLess->Da
open _root_.Option renaming bind_some->Cu,map_eq_some_iff->CO
open _root_.Option.some renaming inj->Ax,injEq->Ab
open _root_.Go.Region renaming wanted->BU
open _root_.Go.Proofs.Tryz renaming func191->Ez,func221->Dl,func222->EA,func231->DK,func232->DJ,func236->Dm,func237->Ey,isAgg0->CJ,isAgg154->ET,isAgg176->Cs,isAgg21->Dn,isAgg3->B6,isAgg4->Cm,isAgg5->Ci,isAgg9->B7,isAgg99->EF,prog->AK,sizeOf0->Cv,sizeOf154->EG,sizeOf176->Ce,sizeOf21->Dc,sizeOf3->BX,sizeOf4->Cb,sizeOf5->B0,sizeOf9->BZ,sizeOf99->En,underlying0->BO,underlying154->DR,underlying176->BL,underlying21->Cy,underlying3->Bp,underlying4->Bw,underlying5->Bz,underlying9->Bh,underlying99->Do,zeroValue0->BW,zeroValue154->D7,zeroValue176->BQ,zeroValue21->CK,zeroValue3->BB,zeroValue4->BK,zeroValue5->BE,zeroValue9->BC,zeroValue99->DC
open _root_.UInt8 renaming ofNat->CZ,toNat_inj->Ct
open _root_.Go.Utf8 renaming encode->EW
open _root_.Go.Value renaming agg->E6,int->E5,string->AU
open _root_.Go.Value.slice renaming injEq->AO
set_option linter.unusedVariables false
set_option maxRecDepth 100000
namespace Go.X
end Go.X
namespace Go.Proofs
end Go.Proofs
open Go Go.X Go.Proofs
section
namespace Go.X
section
variable {h:zb} {e:TypeId} {M:Fr} {K:Value -> zb -> Prop} {cs:Array Value} {k:Nat} {vs:List Value}
theorem zfw:ElemT Tp 22 9 (.string ⟨#[]⟩) 1 16:=⟨by kernel_rfl,⟨Tryz.t9,by kernel_rfl,by kernel_rfl,by kernel_rfl,by kernel_rfl⟩,rfl,by omega⟩
theorem elemTree:ElemT Tp 23 25 (.agg #[.int .i64 0,.string ⟨#[]⟩,.slice none 0 0,.slice none 0 0]) 4 72:=⟨by kernel_rfl,⟨Tryz.t25,by kernel_rfl,by kernel_rfl,by kernel_rfl,by kernel_rfl⟩,rfl,by omega⟩
theorem zra{h h':zb}{sz:Nat}(k:Keep (h.size+1) (h.push (.cells #[] e)) h')(base:Nat)(hb:base<=h.size):Owns h' base e sz ⟨some ⟨h.size,0,none⟩,0,0⟩ []:=by
 refine⟨by simp,.inr ⟨h.size,0,#[],rfl,hb,?_,Ae _,CY _,by simp,by simp⟩⟩
 show h'[h.size]?=_
 rw[k.get _ (by omega)];exact ww _ _
theorem z6e(ag:AgM M h){ks:List Bt}{s:Sl}(hr:Rd M (.row .str) ks [slV s])(hx:ks.length*16<=140737488355328)
  (hK:∀(s':Sl) (h':zb),Keep h.size h h'->s'.len=ks.length->Owns h' h.size 9 1 s' (ks.map AU)->K (slV s') h'):XC Tp 99 #[slV s] h K:=by
 obtain⟨O,ac,ae⟩:=rowLen hr
 obtain⟨s2,e2,_,_,cells,hc,ha⟩:=Rd.rowC ag hr
 simp only[slV,AO]at e2
 have aa:s2.a=s.a:=e2.1.symm
 have:=zgf hc
 subst this
 rw[aa]at ha
 apply Qz s
 refine⟨λhn=>?_,λhn=>?_⟩
 ·have Z:ks=[]:=by
   rcases ha with h0|⟨b,o,e1,_⟩
   ·simpa using h0
   ·rw[e1]at hn;cases hn
  subst Z
  exact hK ⟨none,0,0⟩ h (Keep.refl _ _) rfl (Owns.nil _ _ _ _)
 ·intro g
  have kg:Keep h.size h g:=Keep.push _ _ (Ae _)
  have sg:g.size=h.size+1:=Ak _
  have og:Owns g h.size 9 1 ⟨some ⟨h.size,0,none⟩,0,0⟩ []:=zra (Keep.refl _ _) _ (Ae _)
  clear_value g
  refine zar zfw og (src:=⟨s.a,s.len,s.cap⟩) (news:=ks.map AU) (n:=h.size) (ha.keep kg) (by simp[O]) (by simp[Value.oneCell']) (by simp only;omega) (by simp only;omega) (by omega) λs' h' e1 e2 e3 e4 e5=>⟨s',rfl,hK s' h' ?_ (by simp at e1;omega) (by simpa using e2)⟩
  refine⟨by omega,λi hi=>(e3 i (by omega) λp hp=>?_).trans (kg.get i hi)⟩
  simp only[Ab]at hp
  subst hp;simp only;omega
theorem z1l(ag:AgM M h){xs:List Tr}{s:Sl}(hr:Rd M (.row .tree) xs [slV s])(hx:xs.length*72<=140737488355328)
  (hK:∀(s':Sl) (h':zb) (cells:List Value),Keep h.size h h'->s'.len=xs.length->Owns h' h.size 25 4 s' cells->RowC M .tree xs cells->K (slV s') h'):XC Tp 100 #[slV s] h K:=by
 obtain⟨O,ae,af⟩:=rowLen hr
 obtain⟨s2,e2,_,_,cells,hc,ha⟩:=Rd.rowC ag hr
 simp only[slV,AO]at e2
 have ac:s2.a=s.a:=e2.1.symm
 rw[ac]at ha
 have Z:cells.length=xs.length*4:=hc.1
 apply Zb s
 refine⟨λhn=>?_,λhn=>?_⟩
 ·have aa:cells=[]:=by
   rcases ha with h0|⟨b,o,e1,_⟩
   ·exact h0
   ·rw[e1]at hn;cases hn
  subst aa
  have:xs.length=0:=by simp at Z;omega
  exact hK ⟨none,0,0⟩ h [] (Keep.refl _ _) (by simp[this]) (Owns.nil _ _ _ _) hc
 ·intro g
  have kg:Keep h.size h g:=Keep.push _ _ (Ae _)
  have sg:g.size=h.size+1:=Ak _
  have og:Owns g h.size 25 4 ⟨some ⟨h.size,0,none⟩,0,0⟩ []:=zra (Keep.refl _ _) _ (Ae _)
  clear_value g
  refine zar elemTree og (src:=⟨s.a,s.len,s.cap⟩) (news:=cells) (n:=h.size) (ha.keep kg) (by rw[Z,O]) hc.one (by simp only;omega) (by simp only;omega) (by omega) λs' h' e1 e2 e3 e4 e5=>⟨s',rfl,hK s' h' cells ?_ (by simp at e1;omega) (by simpa using e2) hc⟩
  refine⟨by omega,λi hi=>(e3 i (by omega) λp hp=>?_).trans (kg.get i hi)⟩
  simp only[Ab]at hp
  subst hp;simp only;omega
theorem Owns.blk{base:Nat}{sz:Nat}{s:Sl}{cells:List Value}(H:Owns h base e sz s cells):(s.len=0/\cells=[]/\s.cap=0)\/∃b cs,s.a=some ⟨b,0,none⟩/\base<=b/\Blk h b cs/\s.cap*sz<=cs.size/\cut cs 0 (s.len*sz)=cells/\s.len<=s.cap:=by
 rcases H.2 with⟨hv,h0⟩|⟨g,cap,O,hv,hb,hg,Z,hm,aa,ht⟩
 ·left
  have:=H.1
  rw[h0,Di]at this
  simp only[AO]at hv
  exact⟨h0,Av this,hv.2.2⟩
 ·right
  simp only[AO]at hv
  refine⟨g,O,hv.1,hb,⟨e,hg⟩,?_,by unfold cut;rw[A2];exact ht,by rw[hv.2.2];exact Z⟩
  rw[aa,hv.2.2];exact Ae _
theorem qdp{n i k:Nat}(h:i+k<=n):(List.drop i (cut cs 0 n)).take k=cut cs i k:=by
 unfold cut
 rw[A2,Ew,Ex,C5 (by omega)]
theorem zol{h:zb}{b:Nat}{cs:Array Value}(H:Blk h b cs):∀{vs:List Value} {o i:Nat},cut cs (o+i) vs.length=vs->ze h ⟨b,o,none⟩ i vs
 |[],_,_,_=>trivial
 |v::vs,o,i,e=>by
  unfold cut at e
  have O:o+i<cs.toList.length:=by
   rcases AZ (o+i) cs.toList.length with hh|hh
   ·exact hh
   ·rw[A6 hh]at e;simp at e
  rw[AE O,Ay,BV]at e
  injection e with e1 e2
  refine⟨?_,zol H (i:=i+1) e2⟩
  refine H.cellAdd ?_
  rw[AN (by simpa using O),<-e1];simp
theorem ztb:cut vs.toArray 0 vs.length=vs:=by unfold cut;simp
theorem qdq:jb Tp 25=true:=by kernel_rfl
theorem qdr:ja Tp 25=4:=by kernel_rfl
theorem z1m:jb Tp 22=true:=by kernel_rfl
theorem z8b:ja Tp 22=1:=by kernel_rfl
theorem zvo:jb Tp 23=true:=by kernel_rfl
theorem zvp:ja Tp 23=1:=by kernel_rfl
def zd(k:Int)(s:Bt)(sk si:Sl):List Value:=[.int .i64 k,.string s,slV sk,slV si]
theorem zmo(k:Int)(s:Bt)(sk si:Sl):∀u∈zd k s sk si,u.oneCell'=true:=by
 intro u hu
 simp[zd]at hu
 rcases hu with rfl|rfl|rfl|rfl <;> simp[Value.oneCell',slV]
theorem zgj(k:Int)(s:Bt)(sk si:Sl):(E6 #[.int .i64 k,.string s,slV sk,slV si]).cells.toList=zd k s sk si:=rfl
theorem z1n(h:cs.size=vs.length):upd cs 0 vs=vs.toArray:=by
 unfold upd
 rw[Cz,BP,AH,<-h]
 have:cs.toList.drop cs.size=[]:=A6 (by simp)
 rw[this,Bf]
theorem qa{b:Nat}(H:Blk h b cs)(hn:cs.size=4)(k:Int)(s:Bt)(sk si:Sl){K:zb->Prop}
  (hK:∀h':zb,Blk h' b (zd k s sk si).toArray->h'.size=h.size->(∀j,j≠b->h'[j]?=h[j]?)->K h'):XRunU Tp (Ai 25 (.pointer (some ⟨b,0,none⟩)) (.agg #[.int .i64 k,.string s,.slice sk.a sk.len sk.cap,.slice si.a si.len si.cap])) h K:=
 Yu (vs:=zd k s sk si) qdq H (zgj k s sk si) qdr (by rw[hn];exact Ae _) (zmo k s sk si) λh' e1 e2 e3=>hK h' (by rw[z1n (by rw[hn];rfl)]at e1;exact e1) e2 e3
theorem zom{bf:Nat->List Nat}{k x:Nat}:x∈(BJ k).flatMap bf↔∃j,j<k/\x∈bf j:=by simp[BA]
structure CI (h2 h':zb) (M:Fr) (v:Tr) (b1 b2:Nat) (s1 s2:Sl) (bk bb:List Nat) (b:Nat) (cs:Array Value) (bf:Nat->List Nat) (k:Nat):Prop where
 ag:AgM M h'
 box1:Blk h' b1 (zd v.kind v.text s1 s2).toArray
 box2:∃c2:Array Value,Blk h' b2 c2/\c2.size=4
 keys:OKeys h' v.keys bk s1
 hz:(v.items=[]/\bb=[]/\s2.cap=0)\/(bb=[b]/\s2.a=some ⟨b,0,none⟩/\Blk h' b cs/\s2.cap*4<=cs.size)
 did:∀i (hx:i<v.items.length),i<k->OT h' v.items[i] (bf i) (cut cs (i*4) 4)
 todo:∀i (hx:i<v.items.length),k<=i->RdV M .tree v.items[i] (.agg (cut cs (i*4) 4).toArray)
 nd:(bk++(bb++(BJ k).flatMap bf)).Nodup
 big:∀x∈bk++(bb++(BJ k).flatMap bf),h2.size<=x
set_option maxHeartbeats 4000000 in
theorem zon(n:Nat):∀(v:Tr),tsz v<=n->Sm v->∀{h:zb} {M:Fr} {u:Value},AgM M h->RdV M .tree v u ->
  XC Tp 58 #[u] h λw h'=>Keep h.size h h'/\∃bs sk si,w=.agg #[.int .i64 v.kind,.string v.text,slV sk,slV si]/\OT h' v bs (zd v.kind v.text sk si)/\∀b∈bs,h.size<=b:=by
 induction n with
 |zero=>intro v hn;have:=zn9 v;omega
 |succ n ih=>
 intro v hn hv h M u ag hu
 obtain⟨sk,si,rfl,rk,ri⟩:=w9 hu
 have bm:=hv.items
 have bj:=hv.keys
 apply zk6 v.kind v.text sk si
 intro h1 h2
 have kh:Keep h.size h h2:=(Keep.push h (.cells (zd v.kind v.text sk si).toArray 25) (Ae _)).trans (Keep.push h1 _ (Ae _)) (by show h.size<=h1.size;simp[h1])
 have s1:h1.size=h.size+1:=Ak _
 have s2:h2.size=h1.size+1:=Ak _
 have b1:Blk h2 h.size (zd v.kind v.text sk si).toArray:=by
  have:Blk h1 h.size (zd v.kind v.text sk si).toArray:=Blk.new _ _ _
  exact this.ofKeep (Keep.push _ _ (Ae _))
 have b2:Blk h2 h1.size (zd 0 ⟨#[]⟩ ⟨none,0,0⟩ ⟨none,0,0⟩).toArray:=Blk.new _ _ _
 clear_value h1 h2
 have ay:=ag.keep kh
 refine⟨sk,b1.cellAdd (o:=0) (k:=2) rfl,si,b1.cellAdd (o:=0) (k:=3) rfl,?_⟩
 refine z6e ay rk (by omega) λc1 h3 k3 l3 o3=>⟨c1,rfl,k3,?_⟩
 have a1:=ay.keep k3
 refine z1l a1 ri (by omega) λc2 h4 cells k4 l4 o4 rc=>⟨c2,rfl,?_⟩
 have aH:=(b1.ofKeep k3).ofKeep k4
 have aM:=(b2.ofKeep k3).ofKeep k4
 have z3:=k3.size
 have z4:=k4.size
 rw[show Aj ⟨h.size,0,none⟩ 2=⟨h.size,2,none⟩from zm _ _ _,show Aj ⟨h.size,0,none⟩ 3=⟨h.size,3,none⟩from zm _ _ _]
 refine Yu (vs:=[slV c1]) z1m aH rfl z8b (by simp[zd]) (by simp[Value.oneCell',slV]) λh5 aQ z5 f5=>?_
 refine Yu (vs:=[slV c2]) zvo aQ rfl zvp (by simp[zd,upd]) (by simp[Value.oneCell',slV]) λh6 aj z6 f6=>?_
 have a7:upd (upd (zd v.kind v.text sk si).toArray 2 [slV c1]) 3 [slV c2]=(zd v.kind v.text c1 c2).toArray:=by simp[upd,zd]
 rw[a7]at aj
 have ac:∀j,j≠h.size->h6[j]?=h4[j]?:=λj hj=>(f6 j hj).trans (f5 j hj)
 refine⟨c2,aj.cell (o:=3) rfl,?_⟩
 have ax:Keep h.size h h6:=⟨by omega,λi hi=>by rw[ac i (by omega),k4.get i (by omega),k3.get i (by omega)];exact kh.get i hi⟩
 obtain⟨bk,ai,az,aF,au⟩:∃bk,OKeys h6 v.keys bk c1/\bk.Nodup/\(∀x∈bk,h2.size<=x)/\(∀x∈bk,x<h3.size):=by
  rcases Owns.blk o3 with⟨h0,hc,ap⟩|⟨b,cs,e1,e2,e3,e4,e5,e6⟩
  ·exact⟨[],⟨l3,by omega,by(have:v.keys.length=0:=by omega);omega,.inl ⟨by simpa using hc,rfl,ap⟩⟩,Et,by simp,by simp⟩
  ·refine⟨[b],⟨l3,by omega,by omega,.inr ⟨b,cs,rfl,e1,(e3.ofKeep k4).keep (ac b (by omega)),by omega,by rw[<-l3];simpa using e5⟩⟩,by simp,by simpa using e2,by simpa using e3.lt⟩
 obtain⟨bb,b,cs,aC,O,an,aP,aa⟩:∃(bb:List Nat) (b:Nat) (cs:Array Value),v.items.length<=c2.cap/\((v.items=[]/\bb=[]/\c2.cap=0)\/(bb=[b]/\c2.a=some ⟨b,0,none⟩/\Blk h6 b cs/\c2.cap*4<=cs.size))/\(∀i,i<v.items.length->cut cs (i*4) 4=(cells.drop (i*4)).take 4)/\bb.Nodup/\∀x∈bb,h3.size<=x:=by
  rcases Owns.blk o4 with⟨h0,hc,ap⟩|⟨b,cs,e1,e2,e3,e4,e5,e6⟩
  ·have:v.items.length=0:=by omega
   exact⟨[],0,#[],by omega,.inl ⟨Av this,rfl,ap⟩,λi hi=>by omega,Et,by simp⟩
  ·refine⟨[b],b,cs,by omega,.inr ⟨rfl,e1,e3.keep (ac b (by omega)),e4⟩,λi hi=>?_,by simp,by simpa using e2⟩
   rw[<-e5,qdp (by rw[l4];omega)]
 have aB:CI h2 h6 M v h.size h1.size c1 c2 bk bb b cs (λ_=>[]) 0:={
  ag:=ag.keep ax,box1:=aj,box2:=⟨_,aM.keep (ac _ (by omega)),rfl⟩,keys:=ai,hz:=O,did:=λi _ hi=>by omega
  todo:=λi hx _=>by
   rw[an i hx]
   have:=rc.2 i hx
   unfold RdV;simp only[zdm,if_true]
   exact⟨_,rfl,this⟩
  nd:=by
   simp only[List.range_zero,List.flatMap_nil,Bf]
   rw[A9]
   exact⟨az,aP,λx hx y hy e=>by have:=au x hx;have:=aa y hy;omega⟩
  big:=by
   simp only[List.range_zero,List.flatMap_nil,Bf,An]
   rintro x (hx|hx)
   ·exact aF x hx
   ·have:=aa x hx;omega }
 refine⟨λi h'=>∃(k:Nat) (cs:Array Value) (bf:Nat->List Nat),i=(k:Int)/\k<=v.items.length/\Keep h.size h h'/\h2.size<=h'.size/\CI h2 h' M v h.size h1.size c1 c2 bk bb b cs bf k,λi _=>v.items.length-i.toNat,⟨0,cs,_,rfl,by omega,ax,by omega,aB⟩,?_⟩
 clear aB an O ai aj aQ aH aM ac f5 f6 o3 o4 rc
 rintro i h7 ⟨k,cs,bf,rfl,hk,k7,z7,I⟩
 refine⟨λhc=>?_,λhc=>?_⟩
 ·have Z:k<v.items.length:=by simp at hc;omega
  rcases I.hz with⟨h0,_⟩|⟨O,e1,hb,aG⟩
  ·rw[h0]at Z;simp at Z
  have an:v.items.length*4<=cs.size:=by omega
  have aT:=I.todo k Z (Ae _)
  obtain⟨tk,ti,q,aZ,be⟩:=w9 aT
  have aA:cut cs (k*4) 4=zd v.items[k].kind v.items[k].text tk ti:=by
   injection q with q
   exact congrArg Dk q
  refine⟨⟨b,0,none⟩,⟨e1,by omega,by omega⟩,v.items[k].kind,v.items[k].text,tk,ti,?_,?_⟩
  ·rw[zm,Ad,AH]
   exact zol hb (vs:=zd v.items[k].kind v.items[k].text tk ti) (o:=k*4) (i:=0) aA
  ·intro h8
   have z8:h8.size=h7.size+1:=Ak _
   have k8:Keep h7.size h7 h8:=Keep.push _ _ (Ae _)
   have b8:Blk h8 h7.size (zd 0 ⟨#[]⟩ ⟨none,0,0⟩ ⟨none,0,0⟩).toArray:=Blk.new _ _ _
   clear_value h8
   refine qa b8 rfl _ _ _ _ λh9 b9 z9 f9=>?_
   have k9:Keep h7.size h7 h9:=⟨by omega,λj hj=>by rw[f9 j (by omega)];exact k8.get j hj⟩
   have box1:=I.box1.ofKeep k9
   refine⟨c2,box1.cell (o:=3) rfl,v.items[k].kind,v.items[k].text,tk,ti,zol b9 (vs:=zd v.items[k].kind v.items[k].text tk ti) (o:=0) (i:=0) ztb,⟨b,0,none⟩,⟨e1,by omega,by omega⟩,?_⟩
   have hm:v.items[k]∈v.items:=As Z
   have bh:=jj hm
   refine(ih v.items[k] (by omega) (hv.item hm) (I.ag.keep k9) (yn aZ be)).mono ?_
   rintro w h10 ⟨ah,bs,dk,di,rfl,ot,am⟩
   refine⟨v.items[k].kind,v.items[k].text,dk,di,rfl,ah,?_⟩
   have aL:=(hb.ofKeep k9).ofKeep ah
   have bn:=ah.size
   rw[zm,Ad,AH]
   refine Yu (vs:=zd v.items[k].kind v.items[k].text dk di) qdq aL (zgj _ _ _ _) qdr (by show k*4+4<=cs.size;omega) (zmo _ _ _ _) λa6 ba bo aD=>?_
   have aJ:Keep h7.size h7 h10:=k9.trans ah (by omega)
   have aY:=hb.lt
   have fr:∀x,x≠b->x<h7.size->a6[x]?=h7[x]?:=λx hx hl=>by rw[aD x hx];exact aJ.get x hl
   have aO:∀x∈bk++(bb++(BJ k).flatMap bf),h2.size<=x:=I.big
   have aa:h2.size<=b:=aO b (by rw[O];simp)
   have aI:=I.nd
   rw[A9]at aI
   obtain⟨bu,aE,a8⟩:=aI
   rw[A9]at aE
   obtain⟨bq,bp,aV⟩:=aE
   have ae:∀x∈bk++(bb++(BJ k).flatMap bf),x<h7.size:=by
    intro x hx
    rw[An,An]at hx
    rcases hx with hx|hx|hx
    ·obtain⟨_,_,_,q4⟩:=I.keys
     rcases q4 with⟨_,rfl,_⟩|⟨b',cs',rfl,_,e,_⟩
     ·cases hx
     ·simp at hx;subst hx;exact e.lt
    ·rw[O]at hx;simp at hx;subst hx;exact aY
    ·obtain⟨j,hj,hx⟩:=zom.1 hx
     exact(I.did j (by omega) hj).lt x hx
   have ai:∀x∈bk,x≠b:=λx hx e=>a8 x hx b (by rw[O];simp) e
   have aU:∀j,j<k->∀x∈bf j,x≠b:=λj hj x hx e=>aV b (by rw[O];simp) x (zom.2 ⟨j,hj,hx⟩) e.symm
   have aN:∀x∈bs,x≠b:=λx hx e=>by have:=am x hx;omega
   have al:(BJ (k+1)).flatMap (λj=>if j=k then bs else bf j)=(BJ k).flatMap bf++bs:=by
    rw[List.range_succ,List.flatMap_append]
    congr 1
    ·have:∀(l:List Nat),(∀x∈l,x<k)->l.flatMap (λj=>if j=k then bs else bf j)=l.flatMap bf:=by
      intro l
      induction l with
      |nil=>intro _;rfl
      |cons a l bc=>
       intro hl
       rw[D2,D2,if_neg (by have:=hl a (by simp);omega),bc λx hx=>hl x (by simp[hx])]
     exact this _ λx hx=>by simpa using hx
    ·simp
   rw[y5 Z (by omega)]
   refine⟨⟨k+1,upd cs (k*4) (zd v.items[k].kind v.items[k].text dk di),λj=>if j=k then bs else bf j,rfl,by omega,⟨by omega,λx hx=>by rw[fr x (by omega) (by omega)];exact k7.get x hx⟩,by omega,{
    ag:=λx c e=>?_,box1:=I.box1.keep (fr _ (by omega) (by have:=I.box1.lt;omega)),box2:=?_,keys:=I.keys.frame λx hx=>fr x (ai x hx) (ae x (by simp[hx])),hz:=.inr ⟨O,e1,ba,by rw[jm (by show k*4+4<=cs.size;omega)];exact aG⟩,did:=?_,todo:=?_,nd:=?_,big:=?_ }⟩,by simp only[Ad];omega⟩
   ·have hx:=ag.lt e
    obtain⟨T,m,e'⟩:=I.ag x c e
    exact⟨T,m,by rw[fr x (by omega) (by omega)];exact e'⟩
   ·obtain⟨q,af,ar⟩:=I.box2
    exact⟨q,af.keep (fr _ (by omega) af.lt),ar⟩
   ·intro j hj aS
    by_cases ak:j=k
    ·subst ak
     simp only[if_true]
     have:=zof (cs:=cs) (o:=j*4) (vs:=zd v.items[j].kind v.items[j].text dk di) (by show j*4+4<=cs.size;omega)
     rw[show(zd v.items[j].kind v.items[j].text dk di).length=4 from rfl]at this
     rw[this]
     exact ot.frame λx hx=>aD x (aN x hx)
    ·simp only[ak,if_false]
     rw[zft (by show k*4+4<=cs.size;omega) (by left;omega)]
     exact(I.did j hj (by omega)).frame λx hx=>fr x (aU j (by omega) x hx) (ae x (by
      rw[An,An]
      exact .inr (.inr (zom.2 ⟨j,by omega,hx⟩))))
   ·intro j hj aS
    rw[zft (by show k*4+4<=cs.size;omega) (by right;show k*4+4<=j*4;omega)]
    exact I.todo j hj (by omega)
   ·rw[al,<-AP,<-AP,A9]
    refine⟨by rw[AP];exact I.nd,ot.nodup,λx hx y hy e=>?_⟩
    have h1:=ae x (by rw[<-AP];exact hx)
    have h2:=am y hy
    omega
   ·intro x hx
    rw[al,<-AP,<-AP,An]at hx
    rcases hx with hx|hx
    ·exact I.big x (by rw[<-AP];exact hx)
    ·have:=am x hx;omega
 ·have Z:k=v.items.length:=by simp at hc;omega
  subst Z
  refine⟨v.kind,v.text,c1,c2,zol I.box1 (vs:=zd v.kind v.text c1 c2) (o:=0) (i:=0) ztb,?_⟩
  obtain⟨q,af,ar⟩:=I.box2
  refine qa af ar _ _ _ _ λh8 b8 z8 f8=>?_
  refine⟨v.kind,v.text,c1,c2,zol b8 (vs:=zd v.kind v.text c1 c2) (o:=0) (i:=0) ztb,⟨by omega,λx hx=>by rw[f8 x (by omega)];exact k7.get x hx⟩,_,c1,c2,rfl,?_,λx hx=>by have:=I.big x hx;omega⟩
  have ot:OT h7 (.mk v.kind v.text v.keys v.items) (bk++(bb++(BJ v.items.length).flatMap bf)) (zd v.kind v.text c1 c2):=by
   exact OT.mk (b:=b) (cs:=cs) I.keys ⟨l4,by omega,aC⟩ I.hz (λi hx=>I.did i hx hx) I.nd
  rw[qo]at ot
  exact ot.frame λx hx=>f8 x (by have:=I.big x hx;omega)
end
section
variable {gl:Fr} {R:Tr -> Prop} {l:List Tr}
theorem z8c{gl:Fr}(v:Tr)(l d:Int)(hl:0<=l/\l<=1000)(hd:0<=d/\d<=61){R:Int->Prop}(h:∀r,-1000000000000000<=r->r<=l->(0<=r->r+tks v<=l)->R r):PC Tp gl 30 [Arg.mk .tree v,Arg.mk (.int .i64) l,Arg.mk (.int .i64) d] [.int .i64] R:=by
 refine PC.bd λZ=>?_
 have hb:v.keys.length<=140737488355328/\v.items.length<=140737488355328:=Z ⟨.tree,v⟩ (by simp)
 apply zfj
 refine⟨λhx=>h _ (by omega) (by omega) (by omega),λhx=>?_⟩
 have ac:d<=60:=by simp at hx;omega
 rw[w64 (n:=l-1) (by omega),w64 (by omega)]
 refine⟨λl' i=>∃k:Nat,i=k/\k<=v.items.length/\-1000000000000000<=l'/\l'<=l/\(0<=l'->l'+(1+v.keys.length+zmh (v.items.take k))<=l),λl' i=>v.items.length-i.toNat,⟨0,rfl,by omega,by omega,by omega,λ_=>by simp[zmh];omega⟩,?_⟩
 rintro l' i ⟨k,rfl,hk,h1,h2,h3⟩
 refine⟨λhc=>?_,λhc=>h l' h1 h2 λh0=>?_⟩
 ·have O:k<v.items.length/\0<=l':=by simp at hc;omega
  refine⟨v.items[k],⟨by omega,Jf O.1⟩,?_⟩
  rw[qo,w64 (by omega)]
  have aa:=jj (As O.1)
  refine z8c v.items[k] l' (d+1) ⟨O.2,by omega⟩ (by omega) λr r1 r2 r3=>?_
  rw[y5 O.1 (by omega)]
  refine⟨⟨k+1,rfl,by omega,r1,by omega,λh0=>?_⟩,by simp only[Ad];omega⟩
  have:=r3 h0;have:=h3 O.2
  rw[z08 O.1];omega
 ·have O:k=v.items.length:=by simp at hc;omega
  subst O
  have:=h3 h0
  rw[AD]at this
  rw[qdi];omega
termination_by tsz v
theorem zvq{gl:Fr}(v:Tr){R:Bool->Prop}(h:∀b,(b=true->txS v)->R b):PC Tp gl 31 [Arg.mk .tree v] [.bool] R:=by
 refine PC.bd λae=>?_
 have hb:v.keys.length<=140737488355328/\v.items.length<=140737488355328:=ae ⟨.tree,v⟩ (by simp)
 apply zb8
 refine⟨λhx=>h _ (λe=>by cases e),λhx=>?_⟩
 have aa:v.text.size<=2048:=by simp at hx;omega
 refine⟨λi=>∃k:Nat,i=k/\k<=v.keys.length/\∀x∈v.keys.take k,x.size<=1024,λi=>v.keys.length-i.toNat,⟨0,rfl,by omega,by simp⟩,?_⟩
 rintro i ⟨k,rfl,hk,h1⟩
 refine⟨λhc=>?_,λhc=>?_⟩
 ·have Z:k<v.keys.length:=by simp at hc;omega
  refine⟨v.keys[k],⟨by omega,zg1 Z⟩,λ_=>h _ (λe=>by cases e),λhq=>?_⟩
  have ac:v.keys[k].size<=1024:=by simp at hq;omega
  rw[y5 Z (by omega)]
  refine⟨⟨k+1,rfl,by omega,?_⟩,by simp only[Ad];omega⟩
  rw[Ag Z]
  intro x hx
  rcases An.1 hx with hx|hx
  ·exact h1 x hx
  ·simp at hx;subst hx;exact ac
 ·have Z:k=v.keys.length:=by simp at hc;omega
  subst Z
  rw[AD]at h1
  refine⟨λi=>∃k:Nat,i=k/\k<=v.items.length/\∀x∈v.items.take k,txS x,λi=>v.items.length-i.toNat,⟨0,rfl,by omega,by simp⟩,?_⟩
  rintro i ⟨k,rfl,hk,h2⟩
  refine⟨λhd=>?_,λhd=>h _ λ_=>?_⟩
  ·have O:k<v.items.length:=by simp at hd;omega
   refine⟨v.items[k],⟨by omega,Jf O⟩,?_⟩
   rw[qo]
   have af:=jj (As O)
   refine zvq v.items[k] λb hb=>⟨λ_=>h _ (λe=>by cases e),λhq=>?_⟩
   rw[y5 O (by omega)]
   refine⟨⟨k+1,rfl,by omega,?_⟩,by simp only[Ad];omega⟩
   rw[Ag O]
   intro x hx
   rcases An.1 hx with hx|hx
   ·exact h2 x hx
   ·simp at hx;subst hx;exact hb (by simpa using hq)
  ·have O:k=v.items.length:=by simp at hd;omega
   subst O
   rw[AD]at h2
   exact(qdj v).2 ⟨⟨aa,h1⟩,zve.2 h2⟩
termination_by tsz v
theorem z8d{v:Tr}{m:Int}(hm:0<=m/\m<=1000){R:Bool->Prop}(h:∀b,(b=true->tks v<=m/\Sm v)->R b):PC Tp gl 10 [Arg.mk .tree v,Arg.mk (.int .i64) m] [.bool] R:=by
 apply zfg
 rw[qo]
 refine z8c v m 0 hm (by omega) λr h1 h2 h3=>⟨λb=>b=true->txS v,λ_=>zvq v λb hb=>hb,λb hb=>h _ λe=>?_⟩
 cases hr:decide (r>=0)with
 |false=>rw[hr]at e;cases e
 |true=>
  rw[hr,cond_true]at e
  have h0:0<=r:=by simp at hr;omega
  have:=h3 h0
  exact⟨by omega,Sm.few (by omega) (hb hr e)⟩
theorem zvr{l:List Bt}{R:Bool->Prop}(h:∀b,(b=true->PS l)->R b):PC Tp gl 19 [Arg.mk (.row .str) l] [.bool] R:=by
 apply zb3
 refine⟨λi=>∃k:Nat,i=k/\k<=l.length/\k<=300/\∀x∈l.take k,x.size<=1024,λi=>l.length-i.toNat,⟨0,rfl,by omega,by omega,by simp⟩,?_⟩
 rintro i ⟨k,rfl,hk,aa,h1⟩
 refine⟨λhc=>?_,λhc=>h _ λe=>?_⟩
 ·have O:k<l.length/\k<300:=by simp at hc;omega
  refine⟨l[k],⟨by omega,zg1 O.1⟩,λ_=>h _ (λe=>by cases e),λhq=>?_⟩
  have Z:l[k].size<=1024:=by simp at hq;omega
  rw[w64 (by omega)]
  refine⟨⟨k+1,by omega,by omega,by omega,?_⟩,by have:=O.1;simp only[Ad];omega⟩
  rw[Ag O.1]
  intro x hx
  rcases An.1 hx with hx|hx
  ·exact h1 x hx
  ·simp at hx;subst hx;exact Z
 ·have e':l.length<=200:=by simp at e;omega
  have O:k=l.length:=by simp at hc;omega
  subst O
  rw[AD]at h1
  exact⟨e',λx hx=>by rw[Yo];exact h1 x hx⟩
theorem z1o(h:R (.mk 5 ⟨#[]⟩ [] l)):PC Tp gl 29 [Arg.mk (.row .tree) l] [.tree] R:=by
 apply zfi;exact h
theorem qds{ks:List Bt}(h:R (.mk 6 ⟨#[]⟩ ks l)):PC Tp gl 28 [Arg.mk (.row .str) ks,Arg.mk (.row .tree) l] [.tree] R:=by
 apply zfh;exact h
theorem zvs(hg:GL gl){n:Int}(h1:-1000000<=n)(h2:n<=1000000)(h:R (.mk 3 (bl (Yq (qt (Lib.itoa n)).1)) [] [])):PC Tp gl 27 [Arg.mk (.int .i64) n] [.tree] R:=by
 apply zqn
 refine qfo hg.pow (by omega) (by omega) ?_
 exact z0y hg.pow (Qm _ (by have:=Go.X.itoa_len n;omega)) h
theorem zjn{gl:Fr}(a b:Tr)(ha:tsz a<=1000000000000){R:Bool->Prop}(h:∀r,(r=true↔a=b)->R r):PC Tp gl 15 [Arg.mk .tree a,Arg.mk .tree b] [.bool] R:=by
 refine PC.bd λaf=>?_
 have hb:a.keys.length<=140737488355328/\a.items.length<=140737488355328:=af ⟨.tree,a⟩ (by simp)
 apply zb4
 have te:∀s t:Bt,(s.toList==t.toList)=decide (s=t):=λs t=>by
  rw[xq,xq,AB,beq_iff_eq,decide_eq_true_eq];exact zmb
 simp only[te]
 refine⟨λhx=>h _ ⟨λe=>(by cases e),λe=>?_⟩,λhx=>?_⟩
 ·subst e;simp at hx
 ·have ah:a.kind=b.kind/\a.text=b.text/\a.keys.length=b.keys.length/\a.items.length=b.items.length:=by
   simp at hx
   obtain⟨⟨⟨h1,h2⟩,h3⟩,h4⟩:=hx
   exact⟨h1,h2,by omega,by omega⟩
  obtain⟨q1,q2,q3,q4⟩:=ah
  refine⟨λi=>∃k:Nat,i=k/\k<=a.keys.length/\a.keys.take k=b.keys.take k,λi=>a.keys.length-i.toNat,⟨0,rfl,by omega,by simp⟩,?_⟩
  rintro i ⟨k,rfl,hk,h1⟩
  refine⟨λhc=>?_,λhc=>?_⟩
  ·have Z:k<a.keys.length:=by simp at hc;omega
   have ae:k<b.keys.length:=by omega
   refine⟨a.keys[k],⟨by omega,zg1 Z⟩,b.keys[k],⟨by omega,zg1 ae⟩,λhq=>h _ ⟨λe=>(by cases e),λe=>?_⟩,λhq=>?_⟩
   ·subst e;simp at hq
   ·have aa:a.keys[k]=b.keys[k]:=by simpa using hq
    rw[y5 Z (by omega)]
    refine⟨⟨k+1,rfl,by omega,?_⟩,by simp only[Ad];omega⟩
    rw[Ag Z,Ag ae,h1,aa]
  ·have Z:k=a.keys.length:=by simp at hc;omega
   subst Z
   rw[AD,q3,AD]at h1
   refine⟨λi=>∃k:Nat,i=k/\k<=a.items.length/\a.items.take k=b.items.take k,λi=>a.items.length-i.toNat,⟨0,rfl,by omega,by simp⟩,?_⟩
   rintro i ⟨k,rfl,hk,h2⟩
   refine⟨λhd=>?_,λhd=>h _ ⟨λ_=>?_,λ_=>rfl⟩⟩
   ·have O:k<a.items.length:=by simp at hd;omega
    have ac:k<b.items.length:=by omega
    refine⟨a.items[k],⟨by omega,Jf O⟩,b.items[k],⟨by omega,Jf ac⟩,?_⟩
    rw[qo,qo]
    have ai:=jj (As O)
    refine zjn a.items[k] b.items[k] (by omega) λr hr=>⟨λhq=>h _ ⟨λe=>(by cases e),λe=>?_⟩,λhq=>?_⟩
    ·subst e
     rw[hr.2 rfl]at hq;cases hq
    ·have aa:a.items[k]=b.items[k]:=hr.1 (by simpa using hq)
     rw[y5 O (by omega)]
     refine⟨⟨k+1,rfl,by omega,?_⟩,by simp only[Ad];omega⟩
     rw[Ag O,Ag ac,h2,aa]
   ·have O:k=a.items.length:=by simp at hd;omega
    subst O
    rw[AD,q4,AD]at h2
    have:=qo a
    rw[q1,q2,h1,h2,qo]at this
    exact this.symm
termination_by tsz a
theorem zjo{gl:Fr}(v:Tr)(hv:Sm v){R:Tr->Prop}(h:R v):PC Tp gl 12 [Arg.mk .tree v] [.tree] R:=by
 have ac:=hv.items
 have aa:=hv.keys
 apply zb5
 refine⟨by simp only[Dh];omega,λi b0 b1 b2 b3 o0 o1 o2 o3=>∃k:Nat,i=k/\k<=v.items.length/\o0=v.kind/\o1=v.text/\o2=v.keys/\o3=v.items.take k,λi _ _ _ _ _ _ _ _=>v.items.length-i.toNat,⟨0,rfl,by omega,rfl,rfl,by simp,by simp⟩,?_⟩
 rintro i b0 b1 b2 b3 o0 o1 o2 o3 ⟨k,rfl,hk,rfl,rfl,rfl,rfl⟩
 refine⟨λhc=>?_,λhc=>?_⟩
 ·have O:k<v.items.length:=by simp at hc;omega
  refine⟨v.items[k],⟨by omega,Jf O⟩,?_⟩
  rw[qo]
  have hm:=As O
  have Z:=jj hm
  refine zjo v.items[k] (hv.item hm) ⟨by rw[AR];simp;omega,?_⟩
  rw[y5 O (by omega),qo]
  exact⟨⟨k+1,rfl,by omega,rfl,rfl,rfl,by rw[Ag O]⟩,by simp only[Ad];omega⟩
 ·have O:k=v.items.length:=by simp at hc;omega
  subst O
  rw[AD]
  rw[show Tr.mk v.kind v.text v.keys v.items=v from qo v];exact h
termination_by tsz v
end
section
variable {l a b:List Bt} {k:Nat} {gl:Fr} {R:Bool -> Prop}
structure SL (l:List Bt):Prop where
 n:l.length<=1000000
 s:∀x∈l,(lb x).length<=1048576
theorem PS.sl(h:PS l):SL l:=⟨by have:=h.n;omega,λx hx=>by have:=h.s x hx;omega⟩
theorem z6f{α:Type}{p:α->Bool}{l:List α}(hk:k<l.length):(l.take (k+1)).all p=((l.take k).all p&&p l[k]):=by
 rw[Ag hk,CR,CB,List.all_nil,CL]
theorem zjp(hl:SL l)(h:R (qh l)):PC Tp gl 40 [Arg.mk (.row .str) l] [.bool] R:=by
 have hn:=hl.n
 apply zb7
 refine⟨λi=>∃k:Nat,i=k/\k<=l.length/\(l.take k).all (λs=>jr (lb s))=true,λi=>l.length-i.toNat,⟨0,rfl,by omega,by simp⟩,?_⟩
 rintro i ⟨k,rfl,hk,Z⟩
 refine⟨λhc=>?_,λhc=>?_⟩
 ·have O:k<l.length:=by simp at hc;omega
  refine⟨l[k],⟨by omega,zg1 O⟩,?_⟩
  have hm:=As O
  have hu:=zjf (gl:=gl) (l:=lb l[k]) (R:=λr=>r.2=jr (lb l[k])) (by have:=hl.s _ hm;omega) (λ_=>rfl)
  rw[Jc]at hu
  refine hu.mono λr hr=>⟨λhq=>?_,λhq=>?_⟩
  ·have:qh l=false:=by
    unfold qh
    have:l.all (λs=>jr (lb s))=false:=by rw[List.all_eq_false];exact⟨_,hm,by rw[<-hr];simpa using hq⟩
    rw[this,EI]
   rw[this]at h;exact h
  ·rw[y5 O (by omega)]
   refine⟨⟨k+1,rfl,by omega,?_⟩,by simp only[Ad];omega⟩
   rw[z6f O,Z,<-hr];simpa using hq
 ·have O:k=l.length:=by simp at hc;omega
  subst O
  rw[AD]at Z
  unfold qh at h
  rw[Z,CL]at h
  have:decide ((l.length:Int)<=64)=decide (l.length<=64):=by rw[AB,decide_eq_true_eq,decide_eq_true_eq];omega
  rw[this];exact h
theorem zoo(s t:Bt):Da s.toList t.toList=decide (zq8 (lb s) (lb t)=-1):=by rw[xq,xq,zvh]
theorem qdt(s t:Bt):(s.toList==t.toList)=decide (zq8 (lb s) (lb t)=0):=by
 rw[xq,xq,AB,beq_iff_eq,decide_eq_true_eq,cmpS_is.eq0]
def z3u(a b:List Bt):Int:=cmpL (a.map lb) (b.map lb)
theorem z1p(h:a.take k=b.take k):z3u a b=z3u (a.drop k) (b.drop k):=by
 unfold z3u
 rw[qae (k:=k),List.map_drop,List.map_drop]
 rw[<-List.map_take,<-List.map_take,h]
theorem z1q(x y:Bt)(a b:List Bt):z3u (x::a) (y::b)=if zq8 (lb x) (lb y)=0 then z3u a b else zq8 (lb x) (lb y):=rfl
theorem z6g(h : a.take k = b.take k)(hk : k = a.length \/ k = b.length): z3u a b = if a.length < b.length then -1 else if b.length < a.length then 1 else 0 := by
  have hl := congrArg Bb h
  simp only [AR] at hl
  rw [z1p h]
  rcases hk with rfl | rfl
  · rw [Cw]
    cases hd : b.drop a.length with
    | nil => have := List.drop_eq_nil_iff.1 hd; (rw [if_neg (by omega), if_neg (by omega)]; rfl)
    | cons y t => have : a.length < b.length := by
                    rcases AZ a.length b.length with q | q
                    · exact q
                    · rw [A6 q] at hd; cases hd
                  rw [if_pos this]; rfl
  · rw [Cw]
    cases hd : a.drop b.length with
    | nil => have := List.drop_eq_nil_iff.1 hd; (rw [if_neg (by omega), if_neg (by omega)]; rfl)
    | cons y t => have : b.length < a.length := by
                    rcases AZ b.length a.length with q | q
                    · exact q
                    · rw [A6 q] at hd; cases hd
                  rw [if_neg (by omega), if_pos this]; rfl
theorem z1r(h:a.take k=b.take k)(ha:k<a.length)(hb:k<b.length)(O:zq8 (lb a[k]) (lb b[k])≠0):z3u a b=zq8 (lb a[k]) (lb b[k]):=by
 rw[z1p h,AE ha,AE hb,z1q,if_neg O]
theorem zxy(h:a.take k=b.take k)(ha:k<a.length)(hb:k<b.length)(he:zq8 (lb a[k]) (lb b[k])=0):a.take (k+1)=b.take (k+1):=by
 rw[Ag ha,Ag hb,h,zmb.1 ((cmpS_is.eq0 _ _).1 he)]
theorem ztc(hl:a.length<=1000000){R:Int->Prop}(h:R (z3u a b)):PC Tp gl 95 [Arg.mk (.row .str) a,Arg.mk (.row .str) b] [.int .i64] R:=by
 apply X0
 refine⟨λi=>∃k:Nat,i=k/\k<=a.length/\k<=b.length/\a.take k=b.take k,λi=>a.length-i.toNat,⟨0,rfl,by omega,by omega,by simp⟩,?_⟩
 rintro i ⟨k,rfl,hk,ae,he⟩
 refine⟨λhc=>?_,λhc=>?_⟩
 ·have O:k<a.length/\k<b.length:=by simp at hc;omega
  have e1:=zg1 O.1
  have e2:=zg1 O.2
  have hp:=z1r he O.1 O.2
  have hr:=cmpS_is.rng (lb a[k]) (lb b[k])
  refine⟨a[k],⟨by omega,e1⟩,b[k],⟨by omega,e2⟩,λhq=>?_,λhq=>⟨a[k],⟨by omega,e1⟩,b[k],⟨by omega,e2⟩,λZ=>?_,λZ=>?_⟩⟩
  ·rw[zoo]at hq
   have aa:zq8 (lb a[k]) (lb b[k])=-1:=by simpa using hq
   rw[hp (by omega),aa]at h;exact h
  ·rw[zoo,qdt]at Z
   have aa:zq8 (lb a[k]) (lb b[k])=1:=by simp at Z;omega
   rw[hp (by omega),aa]at h;exact h
  ·rw[zoo]at hq
   rw[zoo,qdt]at Z
   have aa:zq8 (lb a[k]) (lb b[k])=0:=by simp at hq Z;omega
   have ac:=y5 O.1 (by omega)
   rw[ac]
   exact⟨⟨k+1,rfl,by omega,by omega,zxy he O.1 O.2 aa⟩,by have:=O.1;simp only[Ad];omega⟩
 ·have O:k=a.length\/k=b.length:=by
   simp at hc
   by_cases hq:k<a.length
   ·right;have:=hc hq;omega
   ·left;omega
  rw[z6g he O]at h
  refine⟨λhq=>?_,λhq=>⟨λZ=>?_,λZ=>?_⟩⟩
  ·have:a.length<b.length:=by simp at hq;omega
   rw[if_pos this]at h;exact h
  ·have:b.length<a.length:=by simp at Z;omega
   rw[if_neg (by omega),if_pos this]at h;exact h
  ·have h1:¬a.length<b.length:=by simp at hq;omega
   have h2:¬b.length<a.length:=by simp at Z;omega
   rw[if_neg h1,if_neg h2]at h;exact h
theorem qan(a b:List Bt):z3u a b=0↔a=b:=by
 unfold z3u
 rw[cmpL_is.eq0]
 constructor
 ·intro h
  have:=congrArg (List.map bl) h
  rw[EJ,EJ]at this
  have e:(bl ∘ lb)=(id:Bt->Bt):=funext λx=>Jc x
  rw[e,List.map_id,List.map_id]at this
  exact this
 ·rintro rfl;rfl
theorem zvt(hl:a.length<=1000000)(h:∀r,(r=true↔a=b)->R r):PC Tp gl 55 [Arg.mk (.row .str) a,Arg.mk (.row .str) b] [.bool] R:=by
 apply zdy
 refine ztc hl (h _ ?_)
 rw[<-qan];simp
end
section
variable {gl:Fr} {k:Nat}
def iL(l:Bs):List Int:=l.map λc=>(c.toNat:Int)
theorem z1s(a b:Bs):iL (a++b)=iL a++iL b:=BF
theorem qao(l:Bs):z9g (iL l)=bl l:=by
 have key:∀(l:Bs) (r:Bt),(iL l).foldl (λr n=>r.push (CZ n.toNat)) r=bl (lb r++l):=by
  intro l
  induction l with
  |nil=>intro r;simp[iL,Jc]
  |cons c t ih=>
   intro r
   show(iL t).foldl _ (r.push (CZ ((c.toNat:Int)).toNat))=_
   rw[ih]
   have:lb (r.push (CZ ((c.toNat:Int)).toNat))=lb r++[c]:=by
    cases r;simp[lb,ByteArray.push]
   rw[this,AP];rfl
 unfold z9g
 rw[key];rfl
theorem zvu{l:List Bs}{m:Nat}(h:∀x∈l,x.length<=m):(Xg l).length<=l.length*(2*m+1):=by
 induction l with
 |nil=>simp[Xg]
 |cons x l ih=>
  rw[show x::l=[x]++l from rfl,yh,xx,Ao,Ay,Ao,Cj,BH,Dj]
  have h1:=ih λy hy=>h y (by simp[hy])
  have h2:=zoc x
  have h3:=h x (by simp)
  omega
set_option maxHeartbeats 1000000 in
theorem z6h{l:List Bt}(hl:SL l){R:Bt×Int->Prop}(h1:qh l=true->R (bl (Xg (l.map lb)),0))(h2:qh l=false->R (bl [],1)):PC Tp gl 51 [Arg.mk (.row .str) l] [.str,.int .i64] R:=by
 apply zdz
 refine zjp hl ⟨λhx=>h2 (by simpa using hx),λhx=>?_⟩
 have hr:qh l=true:=by simpa using hx
 have hn:l.length<=64:=by unfold qh at hr;simp at hr;exact hr.1
 have tl:∀k,(Xg ((l.take k).map lb)).length<=200000000:=by
  intro k
  have:=zvu (l:=(l.take k).map lb) (m:=1048576) λx hx=>by
   obtain⟨y,hy,rfl⟩:=BN.1 hx
   exact hl.s y (BI hy)
  have e:((l.take k).map lb).length<=64:=by rw[Ba,AR];omega
  have:((l.take k).map lb).length*(2*1048576+1)<=64*(2*1048576+1):=AM _ e
  omega
 refine⟨λout i=>∃k:Nat,i=k/\k<=l.length/\out=iL (Xg ((l.take k).map lb)),λ_ i=>l.length-i.toNat,⟨0,rfl,by omega,by simp[Xg,iL]⟩,?_⟩
 rintro out i ⟨k,rfl,hk,rfl⟩
 refine⟨λhc=>?_,λhc=>?_⟩
 ·have Z:k<l.length:=by simp at hc;omega
  have hT:=tl k
  have ak:=hl.s _ (As Z)
  refine⟨by simp only[iL,Ba,Cj];omega,?_⟩
  refine⟨λout i=>∃j:Nat,i=j/\j<=(lb l[k]).length/\out=iL (Xg ((l.take k).map lb)++47::esc ((lb l[k]).take j)),λ_ i=>(lb l[k]).length-i.toNat,⟨0,rfl,by omega,by simp[iL,z1b]⟩,?_⟩
  rintro out i ⟨j,rfl,hj,rfl⟩
  refine⟨l[k],⟨by omega,zg1 Z⟩,λhd=>?_,λhd=>?_⟩
  ·have aa:j<(lb l[k]).length:=by rw[Yo];simpa using hd
   have aj:=zoc ((lb l[k]).take j)
   have ai:((lb l[k]).take j).length=j:=by rw[AR];omega
   have ah:(iL (Xg ((l.take k).map lb)++47::esc ((lb l[k]).take j))).length<=300000000:=by
    unfold iL;rw[Ba,Ao,Ay];omega
   have af:zc l[k] ((j:Int)).toNat=((lb l[k])[j].toNat:Int):=by rw[zd7,Ad,zbg aa]
   have O:∀(e:Bs),e=zr0 (lb l[k])[j]->iL (Xg ((l.take k).map lb)++47::esc ((lb l[k]).take j))++iL e=iL (Xg ((l.take k).map lb)++47::esc ((lb l[k]).take (j+1))):=by
    rintro e rfl
    rw[<-z1s,AP,A5,Ag aa,J4]
    simp[esc]
   have hw:=y5 aa (by omega)
   have ae:(lb l[k]).length-((j+1:Nat):Int).toNat<(lb l[k]).length-((j:Int)).toNat:=by simp only[Ad];omega
   refine⟨l[k],⟨by omega,zg1 Z⟩,⟨by omega,by simpa using hd⟩,?_⟩
   rw[af,hw]
   generalize hL:iL (Xg ((l.take k).map lb)++47::esc ((lb l[k]).take j))=L at *
   refine⟨λhq=>⟨by simp[Qk];omega,⟨j+1,rfl,by omega,?_⟩,ae⟩,λhq=>⟨λac=>⟨by simp[Qk];omega,⟨j+1,rfl,by omega,?_⟩,ae⟩,λac=>⟨by simp;omega,⟨j+1,rfl,by omega,?_⟩,ae⟩⟩⟩
   ·have hb:(lb l[k])[j]=126:=Ct.1 (by have:=eq_of_beq hq;have e:(126:UInt8).toNat=126:=rfl;omega)
    exact O [126,48] (by rw[hb];rfl)
   ·have hb:(lb l[k])[j]=47:=Ct.1 (by have:=eq_of_beq ac;have e:(47:UInt8).toNat=47:=rfl;omega)
    exact O [126,49] (by rw[hb];rfl)
   ·have n1:(lb l[k])[j]≠126:=λe=>by rw[e]at hq;exact absurd hq (by decide)
    have n2:(lb l[k])[j]≠47:=λe=>by rw[e]at ac;exact absurd ac (by decide)
    exact O [(lb l[k])[j]] (by unfold zr0;rw[if_neg n1,if_neg n2])
  ·have aa:j=(lb l[k]).length:=by rw[Yo]at hj ⊢;simp at hd;omega
   subst aa
   rw[AD]
   have hw:=y5 Z (by omega)
   rw[hw]
   refine⟨⟨k+1,rfl,by omega,?_⟩,by simp only[Ad];omega⟩
   rw[Ag Z,BF,yh]
   simp[Xg]
 ·have Z:k=l.length:=by simp at hc;omega
  subst Z
  rw[AD,qao];exact h1 hr
theorem qdu{s:Bs}(h:k<s.length)(c:UInt8):(((bl s).extract ((k:Int)).toNat (((k+1:Nat):Int)).toNat).toList==(⟨#[c]⟩:Bt).toList)=(s[k]==c):=by
 rw[Ad,Ad,yr,show k+1-k=1 by omega,AE h,BV,Cz]
 rw[show(⟨#[c]⟩:Bt)=bl [c]from rfl,zcl,AB];simp
theorem qf8{s:Bs}(h:k<s.length):(bl s).extract ((k:Int)).toNat (((k+1:Nat):Int)).toNat=bl [s[k]]:=by
 rw[Ad,Ad,yr,show k+1-k=1 by omega,AE h,BV,Cz]
set_option maxHeartbeats 2000000 in
theorem z1t{s:Bs}(hs:s.length<=1048576){R:List Bt×Int->Prop}(h:R ((zpi s).1.map bl,(zpi s).2)):PC Tp gl 127 [Arg.mk .str (bl s)] [.row .str,.int .i64] R:=by
 apply zb6
 have hu:=zjf (gl:=gl) (l:=s) (R:=λr=>r.2=jr s) (by omega) (λ_=>rfl)
 refine hu.mono λr hr=>?_
 rw[hr]
 simp only[zj,qy,show(0:Int).toNat=0 from rfl]
 have an:(bif (!jr s)then true else(bif decide ((s.length:Int)>0)then((((s[0]?).getD 0).toNat:Int) != 47)else false))=(!(jr s)||(!s.isEmpty&&s.head? != some 47)):=by
  cases s with
  |nil=>simp
  |cons c t=>
   have:decide (((c::t).length:Int)>0)=true:=by simp
   rw[this,cond_true,Bn]
   congr 1
   show((c.toNat:Int) != 47)=_
   rw[wz (n:=47) 47 rfl,AB];simp
 rw[an]
 refine⟨λhx=>⟨by omega,by simp at hx;omega⟩,λhx=>?_,λhx=>?_⟩
 ·unfold zpi at h
  rw[if_pos hx]at h;exact h
 ·have hh:s=[]\/s.head?=some 47:=by
   simp at hx
   rcases Decidable.em (s=[])with q|q
   ·exact .inl q
   ·exact .inr (hx.2 q)
  have hR:∀q,prc [] s=q->R (match q with|none=>([],2)|some out=>if 64<out.length then([],3)else(out.map bl,0)):=by
   rintro q rfl
   unfold zpi at h
   rw[if_neg (by rw[hx];simp)]at h
   revert h
   cases prc [] s with
   |none=>exact id
   |some out=>intro h;simp only at h ⊢;split <;> rename_i ac <;> simpa[ac]using h
  refine⟨λout i=>∃(k:Nat) (o:List Bs),i=k/\k<=s.length/\out=o.map bl/\(o=[]->k=0)/\o.length<=k/\(∀x∈o,x.length<=k)/\prc o (s.drop k)=prc [] s,λ_ i=>s.length-i.toNat,⟨0,[],rfl,by omega,rfl,by simp,by simp,by simp,by simp⟩,?_⟩
  rintro out i ⟨k,o,rfl,hk,rfl,ho,aA,al,hp⟩
  refine⟨λhc=>?_,λhc=>?_⟩
  ·have O:k<s.length:=by simpa using hc
   have hw:=y5 O (by omega)
   rw[hw]
   rw[AE O]at hp
   rw[prc.eq_def]at hp
   simp only at hp
   rw[qdu O 47,qdu O 126,qf8 O]
   refine⟨⟨by omega,by omega,by omega⟩,λhq=>?_,λhq=>?_⟩
   ·have Z:s[k]=47:=by simpa using hq
    rw[if_pos Z]at hp
    refine⟨by simp;omega,⟨k+1,o++[[]],rfl,by omega,by rw[BF];rfl,by simp,by simp;omega,?_,hp⟩,by simp only[Ad];omega⟩
    intro x hx
    rcases An.1 hx with hx|hx
    ·have:=al x hx;omega
    ·simp at hx;subst hx;simp
   ·have Z:s[k]≠47:=by simpa using hq
    rw[if_neg Z]at hp
    have ar:o≠[]:=by
     intro h0
     have:=ho h0
     subst this
     rcases hh with q|q
     ·subst q;simp at O
     ·rw[List.head?_eq_getElem?,Am O]at q
      exact Z (Ax q)
    obtain⟨o',y,rfl⟩:∃o' y,o=o'++[y]:=⟨o.dropLast,o.getLast ar,(List.dropLast_concat_getLast ar).symm⟩
    have aE:=al y (by simp)
    have aD:o'.length+1<=k:=by simpa using aA
    have aj:∀(j:Nat) (c:Bs),k<=j->j<s.length->c.length<=1->prc (o'++[y++c]) (s.drop (j+1))=prc [] s ->
      ((0<=(Aa .i64 (((Bb ((o'++[y]).map bl):Nat):Int)-1))/\(Aa .i64 (((Bb ((o'++[y]).map bl):Nat):Int)-1)).toNat<Bb ((o'++[y]).map bl)) /\
       ∃ae:Bt,((o'++[y]).map bl)[(Aa .i64 (((Bb ((o'++[y]).map bl):Nat):Int)-1)).toNat]?=some ae/\xm (ae.size+(bl c).size) /\
       (0<=(Aa .i64 (((Bb ((o'++[y]).map bl):Nat):Int)-1))/\(Aa .i64 (((Bb ((o'++[y]).map bl):Nat):Int)-1)).toNat<Bb ((o'++[y]).map bl)) /\
       ∃au:Bt,((o'++[y]).map bl)[(Aa .i64 (((Bb ((o'++[y]).map bl):Nat):Int)-1)).toNat]?=some au /\
       ((∃(k:Nat) (o:List Bs),(Aa .i64 ((j:Int)+1))=k/\k<=s.length/\List.set ((o'++[y]).map bl) ((Aa .i64 (((Bb ((o'++[y]).map bl):Nat):Int)-1)).toNat) (ae++bl c)=o.map bl/\(o=[]->k=0)/\o.length<=k/\(∀x∈o,x.length<=k)/\prc o (s.drop k)=prc [] s) /\
        s.length-(Aa .i64 ((j:Int)+1)).toNat<s.length-((k:Int)).toNat)):=by
     intro j c aF hj aG ax
     have ac:Bb ((o'++[y]).map bl)=o'.length+1:=by simp
     have aC:Aa .i64 (((o'.length+1:Nat):Int)-1)=(o'.length:Int):=by rw[w64 (by omega)];omega
     rw[ac,aC,Ad]
     have ai:((o'++[y]).map bl)[o'.length]?=some (bl y):=by rw[B5];simp
     have aB:=y5 hj (by omega)
     refine⟨⟨by omega,by omega⟩,bl y,ai,zgx (by omega),⟨by omega,by omega⟩,bl y,ai,?_⟩
     rw[aB]
     refine⟨⟨j+1,o'++[y++c],rfl,by omega,?_,by simp,by simp;omega,?_,ax⟩,by simp only[Ad];omega⟩
     ·rw[jh,BF,BF]
      have:o'.length=(o'.map bl).length:=by simp
      rw[this,List.set_append_right _ _ (Ae _),Nat.sub_self];rfl
     ·intro x hx
      rcases An.1 hx with hx|hx
      ·have:=al x (by simp[hx]);omega
      ·simp at hx;subst hx;rw[Ao];omega
    intro K hK
    refine⟨λak=>?_,λak=>?_⟩
    ·have aa:s[k]=126:=by simpa using ak
     rw[if_pos aa]at hp
     by_cases af:k+1<s.length
     ·rw[AE af]at hp
      simp only[J5]at hp
      have am:decide (((k+1:Nat):Int)>=(s.length:Int))=false:=by simp;omega
      rw[am,cond_false,Ad,zbg af,wz (n:=48) 48 rfl,wz (n:=49) 49 rfl]
      have ay:(((s[k+1]).toNat:Int)==49)=(s[k+1]==49):=by
       have:=wz (c:=s[k+1]) (n:=49) 49 rfl
       unfold bne at this
       rw[<-E2 (((s[k+1]).toNat:Int)==49),this,E2]
      rw[ay]
      refine⟨λ_=>⟨by omega,by omega⟩,λ_=>⟨by omega,by omega⟩,λhb=>?_,λhb=>⟨⟨by omega,by omega⟩,λh9=>?_,λh9=>?_⟩⟩
      ·have ap:s[k+1]≠48/\s[k+1]≠49:=by
        simp at hb;exact hb
       rw[if_neg ap.1,if_neg ap.2]at hp
       exact hR none hp.symm
      ·have ah:s[k+1]=49:=by simpa using h9
       rw[if_neg (by rw[ah];decide),if_pos ah]at hp
       exact hK _ _ _ (aj (k+1) [47] (by omega) af (by simp) hp)
      ·have ah:s[k+1]≠49:=by simpa using h9
       have az:s[k+1]=48:=by
        simp at hb
        by_cases q:s[k+1]=48
        ·exact q
        ·exact absurd (hb q) ah
       rw[if_pos az]at hp
       have:=aj (k+1) [s[k]] (by omega) af (by simp) (by rw[aa];exact hp)
       exact hK _ _ _ this
     ·have am:decide (((k+1:Nat):Int)>=(s.length:Int))=true:=by simp;omega
      rw[A6 (by omega)]at hp
      simp only at hp
      rw[am]
      exact⟨λhb=>(by cases hb),λhb=>(by cases hb),λ_=>hR none hp.symm,λhb=>(by cases hb)⟩
    ·have aa:s[k]≠126:=by simpa using ak
     rw[if_neg aa,J5]at hp
     exact hK _ _ _ (aj k [s[k]] (by omega) O (by simp) hp)
  ·have O:k=s.length:=by simp at hc;omega
   subst O
   rw[Cw,prc]at hp
   have:=hR _ hp.symm
   simp only at this
   simp only[Ba]
   refine⟨λhq=>?_,λhq=>?_⟩
   ·have Z:64<o.length:=by simp at hq;omega
    rw[if_pos Z]at this;exact this
   ·have Z:¬64<o.length:=by simp at hq;omega
    rw[if_neg Z]at this;exact this
end
end Go.X
end
section
namespace Go.X
open Go Go.Proofs Go.Shelf Go.RowKit
section
def zeo:Go.Shelf.Ren:=⟨fun|169=>123|n=>n,fun|70=>125|9=>9|0=>0|72=>127|37=>99|127=>154|3=>3|5=>5|n=>n,fun|n=>n⟩
theorem z1u:Go.Proofs.Lays.n169 Tp zeo:={
 mixed:=by kernel_rfl
 f169:=LF Tryz.func123
 t0:=BO
 a0:=CJ
 z0:=Cv
 v0:=BW
 t3:=Bp
 a3:=B6
 z3:=BX
 v3:=BB
 t9:=Bh
 a9:=B7
 z9:=BZ
 v9:=BC
 t37:=Do
 a37:=EF
 z37:=En
 v37:=DC
 t70:=Tryz.underlying125
 a70:=Tryz.isAgg125
 z70:=Tryz.sizeOf125
 v70:=Tryz.zeroValue125
 t72:=Tryz.underlying127
 a72:=Tryz.isAgg127
 z72:=Tryz.sizeOf127
 v72:=Tryz.zeroValue127
 t127:=DR
 a127:=ET
 z127:=EG
 v127:=D7 }
theorem zcr:Builder.Extra Tp zeo:={
 sizeBuilder:=by kernel_rfl
 liesBuilder:=by kernel_rfl
 t5:=Bz
 a5:=Ci
 z5:=B0
 v5:=BE
 infoByte:=by kernel_rfl
 cellsByte:=by kernel_rfl
 sizeByte:=by kernel_rfl
 neB5:=by decide }
theorem zbc(B b:Nat)(l:List UInt8)(w:World)(h:Lib.IsBuilder 127 5 B b (Lib.byteCells l) w)(O:B<=w.heap.size):
  Calls Tp 123 #[.pointer (some ⟨b,0,none⟩)] w λe w'=>e=.returned (.string ⟨l.toArray⟩)/\Below B w w':=Any.Builder_String_any z1u zcr B b l w h O
def zop:Go.Shelf.Ren:=⟨fun|153=>202|152=>222|226=>225|227=>158|228=>193|137=>191|119=>237|224=>232|225=>231|217=>221|266=>236|n=>n,fun|9=>9|3=>3|4=>4|5=>5|21=>21|117=>164|116=>163|0=>0|46=>176|124=>167|n=>n,fun|n=>n⟩
theorem z1v:Go.Proofs.Lays.n153 Tp zop:={
 mixed:=by kernel_rfl
 f119:=LF Ey
 f137:=LF Ez
 f152:=LF EA
 f153:=LF Tryz.func202
 f217:=LF Dl
 f224:=LF DJ
 f225:=LF DK
 f226:=LF Tryz.func225
 f227:=LF Tryz.func158
 f228:=LF Tryz.func193
 f266:=LF Dm
 t0:=BO
 a0:=CJ
 z0:=Cv
 v0:=BW
 t3:=Bp
 a3:=B6
 z3:=BX
 v3:=BB
 t4:=Bw
 a4:=Cm
 z4:=Cb
 v4:=BK
 t5:=Bz
 a5:=Ci
 z5:=B0
 v5:=BE
 t9:=Bh
 a9:=B7
 z9:=BZ
 v9:=BC
 t21:=Cy
 a21:=Dn
 z21:=Dc
 v21:=CK
 t46:=BL
 a46:=Cs
 z46:=Ce
 v46:=BQ
 t116:=Tryz.underlying163
 a116:=Tryz.isAgg163
 z116:=Tryz.sizeOf163
 t117:=Tryz.underlying164
 a117:=Tryz.isAgg164
 z117:=Tryz.sizeOf164
 v117:=Tryz.zeroValue164
 t124:=Tryz.underlying167
 a124:=Tryz.isAgg167
 z124:=Tryz.sizeOf167
 v124:=Tryz.zeroValue167 }
open Go.RowKit Go.Lib in
theorem W6(aa:∀w,(zeroValue 163).run Tp w=.ok (.agg (Bm 256 (.bool false))) w)(s O:Bt)(w:World)(h2:2<=O.size)(h8:8<s.size)(hs:s.size<4294967281)(ac:O.size<4294967281)(Z:∀(j:Nat) b,O.data.toList[j]?=some b->b.toNat<128):
  Calls Tp 202 #[.string s,.string O] w λe w'=>e=.returned (.int .i64 (Lib.indexAny s.data.toList O.data.toList))/\w'=((w.alloc (.cells (Lib.setCells O.data.toList) 163)).alloc (.cells (Lib.setCells O.data.toList) 163)):=Any.strings_IndexAny_long z1v aa (by kernel_rfl) s O w h2 h8 hs ac Z
end
end Go.X
end
section
namespace Go.X
open Go Go.X Go.Proofs Go.RowKit
section
variable {h h':zb} {b:Nat} {l:Bs} {K:Value -> zb -> Prop}
def Bld(h:zb)(b:Nat)(l:Bs):Prop:=∃(p:Option Addr) (s:Sl),h[b]?=some (.cells #[.pointer p,slV s] 127 (0,0))/\(p=none\/p=some ⟨b,0,none⟩)/\Owns h (b+1) 5 1 s (Lib.byteCells l)
theorem Bld.lt(H:Bld h b l):b<h.size:=by
 obtain⟨p,s,e,_⟩:=H
 rcases AZ b h.size with q|q
 ·exact q
 ·rw[Array.getElem?_eq_none q]at e;cases e
theorem Bld.keep(H:Bld h b l)(k:Keep h.size h h'):Bld h' b l:=by
 have O:=H.lt
 obtain⟨p,s,e,hp,ho⟩:=H
 exact⟨p,s,by rw[k.get b O];exact e,hp,ho.keepN k⟩
theorem Bld.new(h:zb):Bld (h.push (.cells #[.pointer none,.slice none 0 0] 127)) h.size []:=
 ⟨none,⟨none,0,0⟩,ww _ _,.inl rfl,Owns.nil _ _ _ _⟩
theorem z1w:(AK.info? 127).map (·.size)=some 2:=by kernel_rfl
theorem qap:liesAt Tp AK.depth 127 (2 / AK.cellsOf 127) 0 127 1=true:=by kernel_rfl
theorem z1x:AK.underlying 125=some (.pointer 127):=by kernel_rfl
theorem z1y:AK.underlying 183=some .unsafePointer:=by kernel_rfl
set_option maxHeartbeats 1000000 in
set_option maxRecDepth 100000 in
theorem zxz(b:Nat)(w:World)(h0:w.cell? ⟨b,0,none⟩=some (.pointer (some ⟨b,0,none⟩))):
  Calls Tp 148 #[.pointer (some ⟨b,0,none⟩)] w λe w'=>e=.returned (.tuple #[])/\w'=w:=by
 obtain⟨j,hj,_⟩:=CO.1 z1w
 have mixed:=Tryz.mixed
 go_enter Tryz.func148,Tryz.ntmps148
 go_wp2
 rw[Lib.run_neq_ptr_same w _ z1x hj]
 go_wp2
 go_end0
 exact⟨rfl,rfl⟩
set_option maxHeartbeats 1000000 in
set_option maxRecDepth 100000 in
theorem ztd(b:Nat)(w:World)(h0:w.cell? ⟨b,0,none⟩=some (.pointer none))(O:w.shape? b=some (127,2))(aa:w.frozen? ⟨b,0,none⟩=false):
  Calls Tp 148 #[.pointer (some ⟨b,0,none⟩)] w λe w'=>e=.returned (.tuple #[])/\w'=w.setCell ⟨b,0,none⟩ (.pointer (some ⟨b,0,none⟩)):=by
 obtain⟨j,hj,Z⟩:=CO.1 z1w
 have mixed:=Tryz.mixed
 go_enter Tryz.func148,Tryz.ntmps148
 go_wp2
 rw[Lib.run_to_unsafe w ⟨b,0,none⟩ z1x z1y hj (by rw[Z];decide) O (Nat.zero_lt_succ 1)]
 simp only[Result.andThen]
 rw[Oper.upon_value]
 go_wp2
 rw[run_callFunc_extern Tryz.func180 (by kernel_rfl) (by kernel_rfl) (by kernel_rfl) (e:=Extern.AbiNoEscape.same) (by kernel_rfl)]
 rw[Lib.run_noEscape]
 simp only[Result.andThen]
 rw[Oper.upon_value]
 go_wp2
 rw[Lib.run_from_unsafe w ⟨b,0,none⟩ z1y z1x hj O qap]
 simp only[Result.andThen]
 rw[Oper.upon_value]
 go_wp2
 go_end0
 exact⟨rfl,rfl⟩
theorem zx0{b o:Nat}{cs:Array Value}{T:TypeId}(e:h[b]?=some (.cells cs T (0,0)))(v:Value)(B:World)(d:Nat):(mk B d h).setCell ⟨b,o,none⟩ v=mk B d (h.setIfInBounds b (.cells (cs.setIfInBounds o v) T (0,0))):=by
 unfold World.setCell mk
 simp only
 congr 1
 have hb:b<h.size:=(Ac.1 e).1
 apply Array.ext_getElem?
 intro i
 rw[Array.getElem?_modify]
 by_cases hi:i=b
 ·subst hi
  have e':h[i]=.cells cs T (0,0):=by
   have:=AN hb
   rw[e]at this
   exact(Ax this).symm
  simp[hb,e']
 ·rw[if_neg (Ne.symm hi),AL (Ne.symm hi)]
theorem Keep.ne(hs:h'.size=h.size)(hf:∀i,i≠b->h'[i]?=h[i]?):Keep b h h':=⟨by omega,λi hi=>hf i (by omega)⟩
theorem chk(H:Bld h b l)(hK:∀h',Bld h' b l->Keep b h h'->h'.size=h.size->K (.tuple #[]) h'):XC Tp 148 #[.pointer (some ⟨b,0,none⟩)] h K:=by
 have Z:=H.lt
 obtain⟨p,s,e,hp,ho⟩:=H
 have O:∀B d,(mk B d h).cell? ⟨b,0,none⟩=some (.pointer p):=λB d=>by
  have:(mk B d h).heap[b]?=some (.cells #[.pointer p,slV s] 127 (0,0)):=e
  simp[World.cell?,this]
 rcases hp with rfl|rfl
 ·refine XC.of_calls λB d=>(ztd b (mk B d h) (O B d) ?_ ?_).mono ?_
  ·have:(mk B d h).heap[b]?=some (.cells #[.pointer none,slV s] 127 (0,0)):=e
   simp[World.shape?,this]
  ·exact zls ⟨_,e⟩ B d
  ·rintro e' w' ⟨rfl,rfl⟩
   rw[zx0 e]
   refine⟨_,rfl,rfl,rfl,rfl,?_⟩
   show K _ (h.setIfInBounds b _)
   refine hK _ ⟨_,s,?_,.inr rfl,?_⟩ ?_ (by simp)
   ·rw[Array.getElem?_setIfInBounds_self_of_lt Z];rfl
   ·refine ho.keep λq hq=>?_
    have:=ho.base_le q hq
    rw[AL (by omega)]
   ·exact Keep.setBlk _ (Ae _)
 ·refine XC.of_calls λB d=>(zxz b (mk B d h) (O B d)).mono ?_
  rintro e' w' ⟨rfl,rfl⟩
  exact⟨_,rfl,rfl,rfl,rfl,hK _ ⟨_,s,e,.inr rfl,ho⟩ (Keep.refl _ _) rfl⟩
theorem z8e:ElemT Tp 99 5 (.int .u8 0) 1 1:=⟨by kernel_rfl,⟨Tryz.t5,by kernel_rfl,by kernel_rfl,by kernel_rfl,by kernel_rfl⟩,rfl,by omega⟩
theorem qf9:AK.underlying 9=some .string:=by kernel_rfl
theorem qaq:jb Tp 99=true:=by kernel_rfl
theorem qar:ja Tp 99=1:=by kernel_rfl
theorem z8f{p:Option Addr}{s s0:Sl}(e:h[b]?=some (.cells #[.pointer p,slV s0] 127 (0,0)))(hp:p=none\/p=some ⟨b,0,none⟩)(ho:Owns h (b+1) 5 1 s (Lib.byteCells l)){K:zb->Prop}
  (hK:∀h',Bld h' b l->Keep b h h'->h'.size=h.size->K h'):XRunU Tp (Ai 99 (.pointer (some ⟨b,1,none⟩)) (.slice s.a s.len s.cap)) h K:=by
 intro B d
 obtain⟨h',r1,r2,r3,r4⟩:=Wq (P:=Tp) qaq qar e (o:=1) (v:=slV s) rfl (by simp) (by simp[slV,Value.cells,Value.oneCell']) B d
 refine⟨d,h',r1,hK h' ⟨p,s,?_,hp,?_⟩ (Keep.ne r3 r4) r3⟩
 ·rw[r2];rfl
 ·refine ho.keep λq hq=>?_
  have:=ho.base_le q hq
  exact r4 _ (by omega)
theorem zte(H:Bld h b l)(hl:l.length<140737488355328)(c:UInt8)(hK:∀h',Bld h' b (l++[c])->Keep b h h'->K .nilIface h'):
  XC Tp 120 #[.pointer (some ⟨b,0,none⟩),.int .u8 (c.toNat:Int)] h K:=by
 apply Q9
 refine chk H λh2 H2 k2 z2=>⟨rfl,_,rfl,?_⟩
 have Z:=H2.lt
 obtain⟨p,s,e,hp,ho⟩:=H2
 have O:=ho.1
 rw[Lib.byteCells_length,Cg]at O
 refine⟨s,Blk.cellAdd (o:=0) (k:=1) (cs:=#[.pointer p,slV s]) ⟨_,e⟩ rfl,?_⟩
 intro h5
 have k5:Keep h2.size h2 h5:=Keep.push _ _ (Ae _)
 have s5:h5.size=h2.size+1:=Ak _
 have b5:Blk h5 h2.size #[.int .u8 (c.toNat:Int)]:=Blk.new _ _ _
 have e5:h5[b]?=some (.cells #[.pointer p,slV s] 127 (0,0)):=by rw[k5.get b Z];exact e
 have o5:=ho.keepN k5
 clear_value h5
 refine zar z8e o5 (src:=⟨some ⟨h2.size,0,none⟩,1,1⟩) (news:=[.int .u8 (c.toNat:Int)]) (n:=h5.size) ?_ rfl (by simp[Value.oneCell']) (by simp only;omega) (by simp only;omega) (by omega) λs' h6 q1 q2 q3 q4 q5=>⟨s',rfl,_,rfl,?_⟩
 ·refine .inr ⟨h2.size,0,rfl,by omega,λi v hv=>?_⟩
  match i,hv with
  |0,hv=>cases hv;exact b5.cell rfl
 ·have e6:h6[b]?=some (.cells #[.pointer p,slV s] 127 (0,0)):=by
   rw[q3 b (by omega) λq hq=>by have:=ho.base_le q hq;omega];exact e5
  have o6:Owns h6 (b+1) 5 1 s' (Lib.byteCells (l++[c])):=by
   have:Lib.byteCells (l++[c])=Lib.byteCells l++[.int .u8 (c.toNat:Int)]:=by unfold Lib.byteCells;rw[BF];rfl
   rw[this];exact q2
  have kk:Keep b h h6:=k2.trans ⟨by omega,λi hi=>by
   rw[q3 i (by omega) λq hq=>by have:=ho.base_le q hq;omega]
   exact k5.get i (by omega)⟩ (Ae _)
  refine z8f e6 hp o6 λh7 H7 k7 z7=>hK h7 H7 (kk.trans k7 (Ae _))
theorem zoq(H:Bld h b l)(t:Bs)(hl:l.length+t.length<=140737488355328)(hK:∀h',Bld h' b (l++t)->Keep b h h'->K (.tuple #[.int .i64 (t.length:Int),.nilIface]) h'):
  XC Tp 121 #[.pointer (some ⟨b,0,none⟩),.string (bl t)] h K:=by
 apply Qo
 refine chk H λh2 H2 k2 z2=>⟨rfl,_,rfl,?_⟩
 have aa:=H2.lt
 obtain⟨p,s,e,hp,ho⟩:=H2
 have Z:=ho.1
 rw[Lib.byteCells_length,Cg]at Z
 refine⟨s,Blk.cellAdd (o:=0) (k:=1) (cs:=#[.pointer p,slV s]) ⟨_,e⟩ rfl,?_⟩
 have O:=zj t
 refine zfa z8e ho (x:=.string (bl t)) (m:=(bl t).size) (news:=Lib.byteCells t) (λB d=>?_) (by rw[O];omega) (by rw[O];omega) (by omega) λs' h6 q1 q2 q3 q4 q5=>⟨s',rfl,_,rfl,?_⟩
 ·have:=Src.ofString (P:=Tp) (w:=mk B d h2) qf9 (bl t)
  have e2:byteCells (bl t)=Lib.byteCells t:=by
   unfold byteCells Lib.byteCells
   have:(bl t).data.toList=t:=wh t
   rw[this]
  rw[e2]at this;exact this
 ·have e6:h6[b]?=some (.cells #[.pointer p,slV s] 127 (0,0)):=by
   rw[q3 b (by omega) λq hq=>by have:=ho.base_le q hq;omega];exact e
  have o6:Owns h6 (b+1) 5 1 s' (Lib.byteCells (l++t)):=by
   have:Lib.byteCells (l++t)=Lib.byteCells l++Lib.byteCells t:=by unfold Lib.byteCells;rw[BF]
   rw[this];exact q2
  have kk:Keep b h h6:=k2.trans ⟨by omega,λi hi=>q3 i (by omega) λq hq=>by have:=ho.base_le q hq;omega⟩ (Ae _)
  refine z8f e6 hp o6 λh7 H7 k7 z7=>?_
  rw[O]
  exact hK h7 H7 (kk.trans k7 (Ae _))
theorem z6i(H:Bld h b l)(hK:∀h',Keep b h h'->K (.string (bl l)) h'):XC Tp 123 #[.pointer (some ⟨b,0,none⟩)] h K:=by
 have Z:=H.lt
 obtain⟨p,s,e,hp,ho⟩:=H
 refine XC.of_calls λB d=>(zbc b b l (mk B d h) ?_ (Nat.le_of_lt Z)).mono ?_
 ·have hb:Lib.BuilderAt 127 5 b b (.pointer p) (Lib.byteCells l) (mk B d h):=by
   refine⟨Ae _,slV s,e,?_,?_⟩
   ·have h1:=ho.1
    rw[Cg]at h1
    rw[h1]
    exact ho.base (Nat.le_succ b)
   ·intro hq
    cases ha:s.a with
    |none=>rw[slV,ha]at hq;cases hq
    |some q=>
     have:=ho.base_le q ha
     rw[slV,ha]at hq
     have:q.block=b:=by simpa[Value.ownBlock]using hq
     omega
  rcases hp with rfl|rfl
  ·exact .inl hb
  ·exact .inr hb
 ·rintro e' w' ⟨rfl,O⟩
  exact⟨_,rfl,O.os,O.tape,O.output,hK _ ⟨O.size,O.block⟩⟩
end
end Go.X
end
section
namespace Go.X
section
variable {gl:Fr} {l:List Bt} {R:Bool -> Prop}
theorem zhp(hg:GL gl)(hl:SL l)(hR:R (qh l)):PC Tp gl 37 [Arg.mk (.row .str) l] [.bool] R:=by
 intro h M vs hM ag ha
 match vs,ha with
 |[u],⟨hu,_⟩=>
  obtain⟨s,rfl,hr⟩:=zit hu
  have hr:Rd M (.row .str) l [slV s]:=hr
  obtain⟨aa,ah,ai⟩:=rowLen hr
  apply PX.of
  apply zg0 s
  have hd:decide (((s.len:Nat):Int)<=64)=decide (l.length<=64):=by rw[aa,AB,decide_eq_true_eq,decide_eq_true_eq];omega
  rw[hd]
  refine⟨λv h'=>∃b,v=.bool b/\(decide (l.length<=64)=true->b=l.any λx=>!(jr (lb x)))/\∃M',Later h M h' M',λhc=>?_,λhc=>⟨true,true,rfl,λe=>(by rw[e]at hc;cases hc),M,Later.refl ag⟩,λ_ v h' ⟨b,e,_⟩=>⟨b,e⟩,?_⟩
  ·refine(qft (gl:=gl) ag hr (p:=λx=>!(jr (lb x))) λx hx=>⟨by kernel_rfl,λh' M' u' L' ac=>?_⟩).go λw h4 M4 b L4 O af=>⟨b,zc2 O,b,rfl,λ_=>af,M4,L4⟩
   have:=z5e ac
   subst this
   apply PX.of
   show XC Tp 74 #[.string x] h' _
   apply zem
   have hp:=zvc hg.tabs (l:=lb x) (R:=λb=>b=jr (lb x)) (by have:=hl.s x hx;omega) rfl
   rw[Jc]at hp
   exact hp.go (vs:=[.string x]) (hM.trans L'.le) L'.ag (qn (rdStr _) y0) λw h5 M5 b L5 Z ae=>⟨b,zc2 Z,M5,_,L5,zdx.2 (rdBool _),by rw[ae]⟩
  ·rintro b h' ⟨b',e,hb,M',L'⟩
   cases e
   refine⟨M',_,L',zdx.2 (rdBool _),?_⟩
   have:(bif decide (l.length<=64)then !b else false)=qh l:=by
    unfold qh
    cases hc:decide (l.length<=64)with
    |false=>rfl
    |true=>
     rw[hb hc,cond_true,Bi,AB];simp
   rw[this];exact hR
theorem z6j(hg:GL gl){s:Bs}(hs:s.length<=1048576)(h:R (yd s)):PC Tp gl 150 [Arg.mk .str (bl s)] [.bool] R:=by
 apply zgt
 refine⟨λx=>∃t:Bs,x=bl t/\t.length<=s.length/\yd t=yd s,λx=>(lb x).length,⟨s,rfl,Ae _,rfl⟩,?_⟩
 rintro x ⟨t,rfl,ht,hw⟩
 refine qda hg.max (s:=bl t) (sep:=bl [126]) (by rw[zj];omega) ?_
 simp only[wh]
 rcases Lib.index_ge t [126] |> λ_=>Zt t [126]with e|⟨i,e⟩
 ·have hc:Lib.cut t [126]=(t,[],false):=by unfold Lib.cut;rw[if_neg (by omega)]
  rw[hc]
  refine⟨λ_=>?_,λhx=>by cases hx⟩
  rw[zmi e]at hw
  rw[<-hw]at h;exact h
 ·have hf:=zi1 e
  have hc:Lib.cut t [126]=(t.take i,t.drop (i+1),true):=by
   unfold Lib.cut;rw[if_pos (by omega),e];rfl
  rw[hc]
  rw[zq9 e]at hw
  rw[Cj]at hf
  have aa:(t.drop (i+1)).length+(i+1)=t.length:=by rw[AY];omega
  generalize t.drop (i+1)=r at *
  simp only
  refine⟨λhx=>(by cases hx),λ_=>?_⟩
  rw[zvm,wh,show(0:Int).toNat=0 from rfl,qy,zj]
  cases r with
  |nil=>
   refine⟨λhx=>by simp at hx,λhx=>by simp at hx,λ_=>?_,λhx=>by simp at hx⟩
   have Z:yd s=false:=by simpa using hw
   rw[Z]at h;exact h
  |cons c r=>
   refine⟨λ_=>by simp,λ_=>by simp,λhx=>?_,λhx=>⟨⟨c::r,rfl,by omega,?_⟩,?_⟩⟩
   ·have O:c≠48/\c≠49:=by
     have e1:(((c::r)[0]?.getD 0).toNat:Int)=(c.toNat:Int):=rfl
     rw[e1,wz (n:=48) 48 rfl,wz (n:=49) 49 rfl]at hx
     simpa using hx
    have e1:(c==48)=false:=by simpa using O.1
    have e2:(c==49)=false:=by simpa using O.2
    have Z:yd s=false:=by rw[<-hw];simp[e1,e2]
    rw[Z]at h;exact h
   ·have O:c=48\/c=49:=by
     have e1:(((c::r)[0]?.getD 0).toNat:Int)=(c.toNat:Int):=rfl
     rw[e1,wz (n:=48) 48 rfl,wz (n:=49) 49 rfl]at hx
     simp at hx
     by_cases q:c=48
     ·exact .inl q
     ·exact .inr (hx q)
    rcases O with rfl|rfl <;> simpa using hw
   ·show(c::r).length<t.length
    omega
theorem zvv(hg:GL gl){s old new:Bs}(hs:s.length<=4194304)(ho:1<=old.length)(hn:new.length<=2){R:Bt->Prop}(h:R (bl (Lib.replaceAll s old new))):PC Tp gl 122 [Arg.mk .str (bl s),Arg.mk .str (bl old),Arg.mk .str (bl new)] [.str] R:=by
 have hc:=Lib.countB_le (bl old) (by rw[zj];exact ho) (bl s).size (bl s) (Ae _)
 rw[zj]at hc
 have hm:Lib.countB (bl s) (bl old)*new.length<=s.length*2:=Nat.mul_le_mul hc hn
 refine zn4 hg.max (by rw[zj];omega) (by rw[zj];exact ho) (by rw[zj,zj];omega) ?_
 rw[wh,wh,wh];exact h
set_option maxHeartbeats 1000000 in
theorem z6k(hg:GL gl){s:Bs}(hs:s.length<=1048576){R:List Bt×Int->Prop}(h:R ((zpi s).1.map bl,(zpi s).2)):PC Tp gl 124 [Arg.mk .str (bl s)] [.row .str,.int .i64] R:=by
 rw[<-qdl]at h
 apply zgq
 simp only[zj,qy,show(0:Int).toNat=0 from rfl,zvm,wh]
 intro K hK
 have ac:(bif (!(s==[]))then((((s[0]?).getD 0).toNat:Int) != 47)else false)=(!s.isEmpty&&s.head? != some 47):=by
  cases s with
  |nil=>simp
  |cons c t=>
   show(bif (!((c::t)==[]))then((c.toNat:Int) != 47)else false)=_
   rw[wz (n:=47) 47 rfl,AB];simp
 rw[ac]
 have Z:∀b,b=(!(jr s)||(!s.isEmpty&&s.head? != some 47) || !(yd s))->K b:=by
  rintro b rfl
  refine hK _ ⟨λhx=>?_,λhx=>?_⟩
  ·unfold goP at h
   rw[if_pos hx]at h;exact h
  ·unfold goP at h
   rw[if_neg (by rw[hx];simp)]at h
   have ai:=zfs s 47
   refine z5l hg.max (s:=bl s) (sep:=bl [47]) (by rw[zj];omega) (by rw[zj];simp) ?_
   rw[ai]
   refine⟨λhq=>?_,λhq=>?_⟩
   ·have aa:64<s.count 47:=by simp at hq;omega
    rw[if_pos aa]at h;exact h
   ·have aa:¬64<s.count 47:=by simp at hq;omega
    rw[if_neg aa]at h
    refine⟨λh0=>?_,λh0=>?_⟩
    ·have:s=[]:=by simpa using h0
     rw[if_pos this]at h;exact h
    ·have ae:s≠[]:=by simpa using h0
     rw[if_neg ae]at h
     have aj:=A3.2 ae
     refine⟨by omega,?_⟩
     rw[zxs (l:=s) (n:=1) (k:=1) rfl,List.drop_one]
     have am:s.tail.length<=s.length:=by simp
     have ak:Lib.countB (bl s.tail) (bl [47])<=1048576:=by
      rw[zfs]
      have:=List.count_le_length (a:=(47:UInt8)) (l:=s.tail)
      omega
     refine z5m hg.max (s:=bl s.tail) (sep:=bl [47]) (by rw[zj];omega) (by rw[zj];simp) (by omega) (Lib.splitB_all _ (by rw[zj];simp) 0 _ _ rfl) ?_
     rw[zxw]
     have af:=zhm 47 s.tail
     have ah:(Wb 47 s.tail).length<=1048577:=by
      rw[zcf]
      have:=List.count_le_length (a:=(47:UInt8)) (l:=s.tail)
      omega
     generalize Wb 47 s.tail=ys at *
     refine⟨λout i=>∃k:Nat,i=k/\k<=ys.length/\out=((ys.take k).map W5).map bl,λ_ i=>ys.length-i.toNat,⟨0,rfl,by omega,by simp⟩,?_⟩
     rintro out i ⟨k,rfl,hk,rfl⟩
     simp only[Ba]
     refine⟨λhc=>?_,λhc=>?_⟩
     ·have O:k<ys.length:=by simp at hc;omega
      refine⟨bl ys[k],⟨by omega,by rw[Ad,B5,Am O];rfl⟩,?_⟩
      have al:=af ys[k] (As O)
      have an:(Lib.replaceAll ys[k] [126,49] [47]).length<=ys[k].length:=by
       rw[Zl (by simp) (by simp)]
       exact z5x _ _ (by simp) (by simp) _ _ (Ae _)
      refine zvv hg (s:=ys[k]) (old:=[126,49]) (new:=[47]) (by omega) (by simp) (by simp) ?_
      refine zvv hg (old:=[126,48]) (new:=[126]) (by omega) (by simp) (by simp) ?_
      rw[z1d]
      have hw:=y5 O (by omega)
      rw[hw]
      refine⟨by simp;omega,⟨k+1,rfl,by omega,?_⟩,by simp only[Ad];omega⟩
      rw[Ag O,BF,BF];rfl
     ·have O:k=ys.length:=by simp at hc;omega
      subst O
      rw[AD];exact h
 refine zvc hg.tabs (by omega) ⟨λhx=>Z _ ?_,λhx=>⟨λhy=>⟨by omega,?_⟩,λhy=>Z _ ?_,λhy=>z6j hg hs (Z _ ?_)⟩⟩
 ·simp at hx;simp[hx]
 ·have:s≠[]:=by simpa using hy
  have:=A3.2 this
  omega
 ·rw[hy];simp
 ·simp at hx;rw[hy];simp[hx]
theorem qas(hg:GL gl)(hl:SL l){R:Bt×Int->Prop}(h1:qh l=true->R (bl (Xg (l.map lb)),0))(h2:qh l=false->R (bl [],1)):PC Tp gl 89 [Arg.mk (.row .str) l] [.str,.int .i64] R:=by
 intro h M vs hM ag ha
 match vs,ha with
 |[u],⟨hu,_⟩=>
  obtain⟨s,rfl,hr⟩:=zit hu
  have hr:Rd M (.row .str) l [slV s]:=hr
  obtain⟨aB,aE,aI⟩:=rowLen hr
  have ret:∀(M':Fr) (x:Bt) (e:Int),Xu M' [.str,.int .i64] (x,e) (.tuple #[.string x,.int .i64 e]):=λM' x e=>⟨[_,_],⟨_,_,rfl,rfl,_,rfl,rfl⟩,rfl⟩
  apply PX.of
  apply zjl s
  have af:PC Tp gl 37 [Arg.mk (.row .str) l] [.bool] (λr=>r=qh l):=zhp hg hl rfl
  refine af.go (vs:=[slV s]) hM ag (qn hu y0) λw g M2 r L2 an am=>⟨r,zc2 an,λhx=>⟨M2,_,L2,ret _ _ _,h2 (by rw[<-am];simpa using hx)⟩,λhx=>?_⟩
  have Z:qh l=true:=by rw[<-am];simpa using hx
  have hn:l.length<=64:=by unfold qh at Z;simp at Z;exact Z.1
  have tl:∀k,(Xg ((l.take k).map lb)).length<=200000000:=by
   intro k
   have:=zvu (l:=(l.take k).map lb) (m:=1048576) λx hx=>by
    obtain⟨y,hy,rfl⟩:=BN.1 hx
    exact hl.s y (BI hy)
   have e:((l.take k).map lb).length<=64:=by rw[Ba,AR];omega
   have:((l.take k).map lb).length*(2*1048576+1)<=64*(2*1048576+1):=AM _ e
   omega
  intro g4
  have L4:Later g M2 g4 M2:=Later.push L2.ag _
  have b4:Bld g4 g.size []:=Bld.new g
  have aC:=L2.trans L4
  have aG:=b4.lt
  clear_value g4
  refine⟨λi h8=>∃k:Nat,i=k/\k<=l.length/\Bld h8 g.size (Xg ((l.take k).map lb))/\Keep g.size g4 h8,λi _=>l.length-i.toNat,⟨0,rfl,by omega,by simpa[Xg]using b4,Keep.refl _ _⟩,?_⟩
  rintro i h8 ⟨k,rfl,hk,B8,k8⟩
  have gz:g.size<=g4.size:=L4.keep.size
  have ah:Keep g.size g h8:=L4.keep.trans k8 (Ae _)
  have au:AgM M2 h8:=L2.ag.keep ah
  refine⟨λhc=>?_,λhc=>?_⟩
  ·have O:k<l.length:=by simp at hc;omega
   refine zkr au (Rd.mono L2.le hr) O rfl rfl ?_
   have hT:=tl k
   have aL:=hl.s _ (As O)
   refine zte B8 (by omega) 47 λh9 B9 k9=>⟨_,rfl,?_⟩
   have ax:=ah.trans k9 (Ae _)
   have ay:AgM M2 h9:=L2.ag.keep ax
   have e1:=zoc (lb l[k])
   have aH:=z5y (lb l[k])
   have p1:=zvv (gl:=gl) hg (s:=lb l[k]) (old:=[126]) (new:=[126,48]) (by omega) (by simp) (by simp) (R:=λr=>r=bl (Lib.replaceAll (lb l[k]) [126] [126,48])) rfl
   rw[Jc]at p1
   have ak:=hM.trans L2.le
   refine p1.go (vs:=[.string l[k],.string (bl [126]),.string (bl [126,48])]) ak ay (qn (rdStr _) (qn (rdStr _) (qn (rdStr _) y0))) λv aD aJ r ae ac aj=>⟨r,qf2 ac,?_⟩
   subst aj
   have p2:=zvv (gl:=gl) hg (s:=Lib.replaceAll (lb l[k]) [126] [126,48]) (old:=[47]) (new:=[126,49]) (by omega) (by simp) (by simp) (R:=λr=>r=bl (esc (lb l[k]))) (by rw[qac])
   refine p2.go (vs:=[.string _,.string (bl [47]),.string (bl [126,49])]) (ak.trans ae.le) ae.ag (qn (rdStr _) (qn (rdStr _) (qn (rdStr _) y0))) λv aN aF r ar aa al=>⟨r,qf2 aa,?_⟩
   subst al
   have ai:=ae.keep.trans ar.keep ae.keep.size
   have ap:=B9.keep ai
   refine zoq ap _ (by simp only[Ao,Cj];omega) λaM az aA=>⟨_,_,rfl,?_⟩
   have hw:=y5 O (by omega)
   rw[hw]
   refine⟨⟨k+1,rfl,by omega,?_,?_⟩,by simp only[Ad];omega⟩
   ·rw[Ag O,BF,yh]
    have:Xg (List.map lb [l[k]])=[47]++esc (lb l[k]):=by simp[Xg]
    rw[this,<-AP];exact az
   ·have z9:=B9.lt
    exact((k8.trans k9 (Ae _)).trans (ai.mono (by omega)) (Ae _)).trans aA (Ae _)
  ·have O:k=l.length:=by simp at hc;omega
   subst O
   rw[AD]at B8
   refine z6i B8 λh9 k9=>⟨_,rfl,M2,_,?_,ret _ _ _,h1 Z⟩
   exact L2.trans (Later.same L2.ag (ah.trans k9 (Ae _)))
end
end Go.X
end
section
namespace Go.X
open Go Go.X Go.Proofs Go.RowKit
section
theorem qga{z:UInt8}(h:128<=z.toNat):Lib.indexByte [95] z=-1:=by
 have:z≠95:=by rintro rfl;revert h;decide
 unfold Lib.indexByte
 simp[Lib.indexByte,this.symm]
theorem ix0{z:UInt8}:Lib.indexByte [] z=-1:=by simp[Lib.indexByte]
def VR(r:Int)(e:Ending):Prop:=∃b,e=.returned (.bool b)/\(b=true->(0<=r/\r<55296)\/(57343<r/\r<=1114111))
set_option maxHeartbeats 4000000 in
set_option maxRecDepth 1000000 in
theorem ztf(r:Int)(w:World):Calls Tp 237 #[.int .i32 r] w λe w'=>VR r e/\w'=w:=by
 have mixed:=Tryz.mixed
 go_enter Ey,Tryz.ntmps237
 by_cases h1:0<=r <;> by_cases h2:r<55296 <;> by_cases h3:57343<r <;> by_cases h4:r<=1114111 <;> (go_wp2;go_ret;exact⟨⟨_,rfl,λh=>by first|omega|cases h⟩,rfl⟩)
theorem z1z(r:Int)(h:128<=r):(∃a z:UInt8,EW r=⟨#[a,z]⟩/\128<=z.toNat)\/(∃a b z:UInt8,EW r=⟨#[a,b,z]⟩/\128<=z.toNat)\/(∃a b c z:UInt8,EW r=⟨#[a,b,c,z]⟩/\128<=z.toNat):=by
 have hz:∀n:Nat,128<=(CZ (128+n % 64)).toNat:=λn=>by
  have:(CZ (128+n % 64)).toNat=(128+n % 64) % 256:=UInt8.toNat_ofNat
  rw[this,Ek (by omega)];omega
 have hc:∃c:Nat,128<=c/\(if Utf8.valid r then r.toNat else Utf8.runeError)=c:=by
  refine⟨_,?_,rfl⟩
  split
  ·omega
  ·decide
 obtain⟨c,Z,O⟩:=hc
 unfold EW
 simp only[O]
 rw[if_neg (by omega)]
 by_cases h1:c<2048
 ·rw[if_pos h1];exact .inl ⟨_,_,rfl,hz _⟩
 ·rw[if_neg h1]
  by_cases h2:c<65536
  ·rw[if_pos h2];exact .inr (.inl ⟨_,_,_,rfl,hz _⟩)
  ·rw[if_neg h2];exact .inr (.inr ⟨_,_,_,_,rfl,hz _⟩)
def IR(e:Ending):Prop:=∃n,e=.returned (.int .i64 n)
set_option maxHeartbeats 4000000 in
set_option maxRecDepth 1000000 in
theorem ztg(r:Int)(w:World)(h1:128<=r)(h2:r≠65533):Calls Tp 222 #[.string ⟨#[43,45,95]⟩,.int .i32 r] w λe w'=>IR e/\Below w.heap.size w w':=by
 have mixed:=Tryz.mixed
 have aa:∀args w,(callFunc 191 args).run Tp w=.ok (.enter 191 args) w:=enters_of Ez (by kernel_rfl) rfl
 have ac:∀args w,(callFunc 237 args).run Tp w=.ok (.enter 237 args) w:=enters_of Ey (by kernel_rfl) rfl
 have g1:¬r<128:=by omega
 go_enter EA,Tryz.ntmps222
 go_wp2_with (go_at_fn 237;refine(ztf _ _).mono ?_;rintro e w' ⟨⟨b,rfl,hb⟩,hw⟩;rw[hw];cases b)
 ·go_ret
  exact⟨⟨_,rfl⟩,Below.refl _ _⟩
 ·rcases z1z r h1 with⟨a,z,hE,hz⟩|⟨a,b,z,hE,hz⟩|⟨a,b,c,z,hE,hz⟩
  ·have O:=λ(w:World)=>run_convert_int_string (P:=Tp) w 21 9 .i32 r (by kernel_rfl) (by kernel_rfl)
   rw[hE]at O
   refine wp_scope_straight ?_
   go_wp2
   go_loop [9] (λv=>v=.int .i64 1) (λ_=>0)
   case atStart=>rfl
   case round=>
    subst hrel
    go_wp2
    refine wp_scope_straight ?_
    have Z:((45:Int) != (z.toNat:Int))=true:=bne_iff_ne.2 (by omega)
    go_wp2
    go_region
    simp only[show ∀h,((⟨#[43,45,95]⟩:Bt)[1]'h)=45 from λ_=>rfl,show ∀h,((⟨#[a,z]⟩:Bt)[1]'h)=z from λ_=>rfl,show((45:UInt8).toNat:Int)=45 from rfl,Z]
    all_goals go_wp2
    all_goals go_region_with (go_at_call 191;refine(x9 _ _ _).mono ?_;rintro e w' ⟨rfl,rfl⟩)
    all_goals simp only[show ∀h,((⟨#[a,z]⟩:Bt)[1]'h)=z from λ_=>rfl,qga hz]
    all_goals go_wp2
    all_goals simp only[Exit.noGoto,Exit.inBlock]
    all_goals go_wp2
    all_goals simp only[Exit.noGoto,Exit.inBlock]
    all_goals go_wp2
    all_goals go_ret
    all_goals exact⟨⟨_,rfl⟩,zck w 2⟩
  ·have O:=λ(w:World)=>run_convert_int_string (P:=Tp) w 21 9 .i32 r (by kernel_rfl) (by kernel_rfl)
   rw[hE]at O
   refine wp_scope_straight ?_
   go_wp2
   go_loop [9] (λv=>v=.int .i64 2) (λ_=>0)
   case atStart=>rfl
   case round=>
    subst hrel
    go_wp2
    refine wp_scope_straight ?_
    have Z:((95:Int) != (z.toNat:Int))=true:=bne_iff_ne.2 (by omega)
    go_wp2
    go_region
    simp only[show ∀h,((⟨#[43,45,95]⟩:Bt)[2]'h)=95 from λ_=>rfl,show ∀h,((⟨#[a,b,z]⟩:Bt)[2]'h)=z from λ_=>rfl,show((95:UInt8).toNat:Int)=95 from rfl,Z]
    all_goals go_wp2
    all_goals go_region_with (go_at_call 191;refine(x9 _ _ _).mono ?_;rintro e w' ⟨rfl,rfl⟩)
    all_goals simp only[show ∀h,((⟨#[a,b,z]⟩:Bt)[2]'h)=z from λ_=>rfl,ix0]
    all_goals go_wp2
    all_goals simp only[Exit.noGoto,Exit.inBlock]
    all_goals go_wp2
    all_goals simp only[Exit.noGoto,Exit.inBlock]
    all_goals go_wp2
    all_goals go_ret
    all_goals exact⟨⟨_,rfl⟩,zck w 2⟩
  ·have O:=λ(w:World)=>run_convert_int_string (P:=Tp) w 21 9 .i32 r (by kernel_rfl) (by kernel_rfl)
   rw[hE]at O
   refine wp_scope_straight ?_
   go_wp2
   go_loop [9] (λv=>v=.int .i64 3) (λ_=>0)
   case atStart=>rfl
   case round=>
    subst hrel
    go_wp2
    go_ret
    exact⟨⟨_,rfl⟩,Below.refl _ _⟩
end
end Go.X
end
section
namespace Go.X
section
theorem Xe(gl:Fr)(s0:Bt)(O:Bt)(R:Bool->Prop)
  (H:PC Tp gl 202 [Arg.mk .str s0,Arg.mk .str O] [.int .i64] (λa:Int=>R (decide (a>=0)))):
  PC Tp gl 172 [Arg.mk .str s0,Arg.mk .str O] [.bool] R:=
 PF ⟨[],[],[],[]⟩ [.tmp 4] 9 Tryz.func172 H
theorem zcs(gl:Fr)(s0:Bt)(Z:Bt)(R:Int->Prop)
  (H:((Z.toList==(⟨#[]⟩:Bt).toList)=true->R (-1))/\((Z.toList==(⟨#[]⟩:Bt).toList)=false->(((Z.size:Int)==1)=true->(0<=(0:Int)/\(0:Int)<(Z.size:Int))/\∀a:Int->Prop,(∀b:Int,(PC Tp gl 222 [Arg.mk .str s0,Arg.mk (.int .i32) b] [.int .i64] (λc:Int=>R c))->a b)->((decide ((Aa .i32 (zc Z (0:Int).toNat))>=128))=true->a 65533)/\((decide ((Aa .i32 (zc Z (0:Int).toNat))>=128))=false->a (Aa .i32 (zc Z (0:Int).toNat))))/\(((Z.size:Int)==1)=false->∀d:Prop,((∃(e:(Bt×Nat)->Prop) (f:(Bt×Nat)->Nat),e (s0,0)/\∀O:Bt×Nat,e O->(((nxB O.1 O.2)=true->(nxB O.1 O.2)=true/\(nxB O.1 O.2)=true/\PC Tp gl 222 [Arg.mk .str Z,Arg.mk (.int .i32) (nxR O.1 O.2)] [.int .i64] (λg:Int=>(decide (g>=0)=true->R (O.2:Int))/\(decide (g>=0)=false->(e (O.1,nxP O.1 O.2)/\f (O.1,nxP O.1 O.2)<f O))))/\((nxB O.1 O.2)=false->R (-1))))->d)->PC Tp gl 225 [Arg.mk (.int .i64) (s0.size:Int)] [.bool] (λi:Bool=>(i=true->False)/\(i=false->d))))):
  PC Tp gl 202 [Arg.mk .str s0,Arg.mk .str Z] [.int .i64] R:=
 PF ⟨[],[],[(18,⟨[],[(45,[.dat .iter])],[],[1002880]⟩)],[(7,⟨[(5,.one (.dat (.int .i32)))],[],[],[100320]⟩),(17,⟨[],[],[],[]⟩)]⟩ [.tmp 4] 55 Tryz.func202 H
theorem Q4(gl:Fr)(s0:Bt)(r1:Int)(R:Int->Prop)
  (H:((bif (decide ((0:Int)<=r1))then(decide (r1<128))else false)=true->PC Tp gl 191 [Arg.mk .str s0,Arg.mk (.int .u8) (Aa .u8 r1)] [.int .i64] (λa:Int=>R a))/\((bif (decide ((0:Int)<=r1))then(decide (r1<128))else false)=false->((r1==65533)=true->∃(b:(Bt×Nat)->Prop) (c:(Bt×Nat)->Nat),b (s0,0)/\∀O:Bt×Nat,b O->(((nxB O.1 O.2)=true->(nxB O.1 O.2)=true/\(nxB O.1 O.2)=true/\(((nxR O.1 O.2:Int)==65533)=true->R (O.2:Int))/\(((nxR O.1 O.2:Int)==65533)=false->(b (O.1,nxP O.1 O.2)/\c (O.1,nxP O.1 O.2)<c O)))/\((nxB O.1 O.2)=false->R (-1))))/\((r1==65533)=false->PC Tp gl 237 [Arg.mk (.int .i32) r1] [.bool] (λd:Bool=>((!d)=true->R (-1))/\((!d)=false->False))))):
  PC Tp gl 222 [Arg.mk .str s0,Arg.mk (.int .i32) r1] [.int .i64] R:=
 PF ⟨[],[],[(38,⟨[],[(175,[.dat .iter])],[],[1011200]⟩)],[]⟩ [.tmp 4] 187 EA H
theorem Ya(gl:Fr)(O:Int)(R:Bool->Prop)
  (H:R (decide (O>8))):
  PC Tp gl 225 [Arg.mk (.int .i64) O] [.bool] R:=
 PF ⟨[],[],[],[]⟩ [.tmp 2] 5 Tryz.func225 H
end
end Go.X
end
section
namespace Go.X
open Go Go.X Go.Proofs Go.RowKit
section
variable {gl:Fr} {R:Int -> Prop} {l:Bs}
theorem zjq{f:FuncId}{args:List Arg}{us:List Value}(Z:zdw args=some us)(hR:∀n,R n)
  (H:∀w:World,Calls Tp f us.toArray w λe w'=>IR e/\Below w.heap.size w w'):PC Tp gl f args [.int .i64] R:=by
 intro h M vs hM ag ha
 rw[Xz Z ha]
 refine XC.of_calls λB d=>(H (mk B d h)).mono ?_
 rintro e w' ⟨⟨n,rfl⟩,O⟩
 have k:Keep h.size h w'.heap:=⟨O.size,O.block⟩
 exact⟨_,rfl,O.os,O.tape,O.output,k,M,n,Fr.le.refl _,λ_ _=>rfl,ag.keep k,znl _ _,hR n⟩
theorem zrb{r:Int}(hr:0<=r)(hR:∀n,R n):PC Tp gl 222 [Arg.mk .str (bl [43,45,95]),Arg.mk (.int .i32) r] [.int .i64] R:=by
 by_cases h1:r<128
 ·apply Q4
  have e:(bif decide ((0:Int)<=r)then decide (r<128)else false)=true:=by simp[hr,h1]
  rw[e]
  exact⟨λ_=>zaa (hR _),λhx=>by cases hx⟩
 ·by_cases h2:r=65533
  ·subst h2
   apply Q4
   refine⟨λ_=>zaa (hR _),λ_=>⟨λ_=>?_,λhx=>by cases hx⟩⟩
   refine⟨λq=>∃p:Nat,q=(bl [43,45,95],p),λq=>3-q.2,⟨0,rfl⟩,?_⟩
   rintro q ⟨p,rfl⟩
   simp only[zqt]
   refine⟨λhn=>⟨hn,hn,λ_=>hR _,λ_=>⟨⟨_,rfl⟩,?_⟩⟩,λ_=>hR _⟩
   have hp:p < [43,45,95].length:=by simpa using hn
   have O:p<3:=hp
   rw[zmd _ _ hp]
   have:=(Ql (([43,45,95]:Bs).drop p)).1
   omega
  ·exact zjq (us:=[.string ⟨#[43,45,95]⟩,.int .i32 r]) rfl hR λw=>ztg r w (by omega) h2
theorem z13(w:World)(o1 o2:Obj):Below w.heap.size w ((w.alloc o1).alloc o2):=((Below.refl _ w).alloc (Ae _) o1).alloc (by show w.heap.size<=(w.heap.push o1).size;simp) o2
theorem z19(l:Bs):(0:Int)<=((dec l).1:Int):=Int.natCast_nonneg _
theorem qat(hl:l.length<=9){R:Bool->Prop}(h1:zs9 l->R (l.any λc=>[43,45,95].contains c))(h2:¬zs9 l->∀b,R b):PC Tp gl 172 [Arg.mk .str (bl l),Arg.mk .str (bl [43,45,95])] [.bool] R:=by
 have O:∀(j:Nat) (b:UInt8),([43,45,95]:Bs)[j]?=some b->b.toNat<128:=by
  intro j b hb
  have:b∈([43,45,95]:Bs):=CF hb
  simp at this
  rcases this with rfl|rfl|rfl <;> decide
 by_cases ha:zs9 l
 ·refine zk2 (s:=bl l) (c:=bl [43,45,95]) (by rw[zj];omega) (by rw[zj];decide) ?_ ?_ ?_
  ·rw[wh];exact λj b hb=>ha b (CF hb)
  ·rw[wh];exact O
  ·rw[wh,wh,zad];exact h1 ha
 ·have hb:=h2 ha
  apply Xe
  by_cases h8:l.length<=8
  ·apply zcs
   have e1:((bl [43,45,95]).toList==(⟨#[]⟩:Bt).toList)=false:=by rw[zvm,wh];rfl
   have e2:((((bl [43,45,95]).size:Int))==1)=false:=by rw[zj];rfl
   rw[e1,e2]
   refine⟨λhx=>(by cases hx),λ_=>⟨λhx=>(by cases hx),λ_ K hK=>?_⟩⟩
   apply Ya
   have e3:decide (((bl l).size:Int)>8)=false:=by rw[zj];simp;omega
   rw[e3]
   refine⟨λhx=>(by cases hx),λ_=>hK ?_⟩
   refine⟨λq=>∃p:Nat,q=(bl l,p),λq=>l.length-q.2,⟨0,rfl⟩,?_⟩
   rintro q ⟨p,rfl⟩
   simp only[zqt]
   refine⟨λhn=>⟨hn,hn,?_⟩,λ_=>hb _⟩
   have hp:p<l.length:=by simpa using hn
   refine zrb (by rw[zu1];exact z19 _) λn=>⟨λ_=>hb _,λ_=>⟨⟨_,rfl⟩,?_⟩⟩
   rw[zmd _ _ hp]
   have:=(Ql (l.drop p)).1
   omega
  ·refine zjq (us:=[.string (bl l),.string (bl [43,45,95])]) rfl (λn=>hb _) λw=>?_
   have hz:=(zero_of_info (P:=Tp) (t:=163) (v:=.agg (Bm 256 (.bool false))) (n:=256) (by kernel_rfl)).1
   refine(W6 hz (bl l) (bl [43,45,95]) w (by rw[zj];decide) (by rw[zj];omega) (by rw[zj];omega) (by rw[zj];decide) O).mono ?_
   rintro e w' ⟨rfl,rfl⟩
   exact⟨⟨_,rfl⟩,z13 w _ _⟩
theorem z2a:(bif (bif (l==[])then true else decide ((l.length:Int)>9))then true else(bif (!(l==[48]))then((((l[0]?).getD 0).toNat:Int)==48)else false))=decide (l.length<1\/9<l.length\/(1<l.length/\l.head?=some 48)):=by
 match l with
 |[]=>simp
 |[c]=>
  rw[AB,decide_eq_true_eq]
  by_cases hc:c=48
  ·subst hc;simp
  ·have:((c.toNat:Int)==48)=false:=by
    have:=wz (c:=c) (n:=48) 48 rfl
    unfold bne at this
    rw[<-E2 ((c.toNat:Int)==48),this];simp[hc]
   show(bif (bif ([c]==[])then true else decide ((([c]:Bs).length:Int)>9))then true else(bif (!([c]==[48]))then((c.toNat:Int)==48)else false))=true↔_
   rw[this];simp
 |c::d::t=>
  have e:((c.toNat:Int)==48)=(c==48):=by
   have:=wz (c:=c) (n:=48) 48 rfl
   unfold bne at this
   rw[<-E2 ((c.toNat:Int)==48),this,E2]
  show(bif (bif ((c::d::t)==[])then true else decide (((c::d::t:Bs).length:Int)>9))then true else(bif (!((c::d::t)==[48]))then((c.toNat:Int)==48)else false))=_
  rw[e,AB,decide_eq_true_eq]
  have Z:¬(c::d::t:Bs).length<1:=by simp
  have O:1<(c::d::t:Bs).length:=by simp
  have h1:((c::d::t:Bs)==[])=false:=rfl
  have h2:((c::d::t:Bs)==[48])=false:=by simp
  rw[h1,h2,cond_false,Bool.not_false,cond_true]
  generalize (c::d::t:Bs).length=n at *
  by_cases h9:9<n
  ·have:decide ((n:Int)>9)=true:=by simp;omega
   rw[this];simp[h9]
  ·have:decide ((n:Int)>9)=false:=by simp;omega
   rw[this,cond_false];simp[h9,Z,O]
theorem z6l(h:l.any (λc=>[43,45,95].contains c)=false):∀c,l.head?=some c->c.toNat≠43/\c.toNat≠45:=by
 intro c hc
 rw[List.any_eq_false]at h
 have:=h c (List.mem_of_head? hc)
 constructor
 ·intro e
  have:c=43:=Ct.1 (by rw[e];rfl)
  subst this;exact absurd rfl ‹¬_›
 ·intro e
  have:c=45:=Ct.1 (by rw[e];rfl)
  subst this;exact absurd rfl ‹¬_›
theorem zrc(h:l.all yb=true):zs9 l/\(l.any λc=>[43,45,95].contains c)=false:=by
 rw[AQ]at h
 constructor
 ·intro c hc
  have:=h c hc
  simp[yb]at this;omega
 ·rw[List.any_eq_false]
  intro c hc hm
  have h2:=h c hc
  simp[yb]at h2
  simp at hm
  rcases hm with rfl|rfl|rfl <;> revert h2 <;> decide
theorem zjr(hg:GL gl)(hl:l.length<=1048576){R:Int×Bool->Prop}(h:R (zek l)):PC Tp gl 145 [Arg.mk .str (bl l)] [.int .i64,.bool] R:=by
 apply zgr
 have ah:∀s:Bs,((bl s).toList==(⟨#[48]⟩:Bt).toList)=(s==[48]):=λs=>by rw[show(⟨#[48]⟩:Bt)=bl [48]from rfl,z6a,wh]
 simp only[zj,qy,show(0:Int).toNat=0 from rfl,zvm,wh,ah,z2a]
 refine⟨λhx=>⟨by omega,?_⟩,?_⟩
 ·simp at hx
  have:=A3.2 hx.1.1
  omega
 unfold zek at h
 by_cases O:l.length<1\/9<l.length\/(1<l.length/\l.head?=some 48)
 ·rw[if_pos O]at h
  rw[decide_eq_true O]
  exact⟨λ_=>True,λhx=>(by cases hx),λr _=>⟨λ_=>h,λhx=>by cases hx⟩⟩
 ·rw[if_neg O]at h
  rw[decide_eq_false O]
  refine⟨λb=>(l.all yb=true->b=false)/\(l.all yb=false->b=false->∀v,Lib.atoiAll l≠.ok v),λ_=>?_,λb hb=>?_⟩
  ·refine qat (by omega) (λha=>⟨λhd=>(zrc hd).2,λhd hf=>qai hd (z6l hf)⟩) (λZ b=>⟨λhd=>absurd (zrc hd).1 Z,λhd hf v=>qaj Z v⟩)
  ·obtain⟨ac,af⟩:=hb rfl
   refine⟨λhx=>?_,λhx=>?_⟩
   ·have aa:b=true:=by simpa using hx
    cases hd:l.all yb with
    |true=>rw[ac hd]at aa;cases aa
    |false=>rw[hd,if_neg (by simp)]at h;exact h
   ·have ae:b=false:=by simpa using hx
    refine z94 hg.err (s:=bl l) (by rw[zj];omega) ?_
    rw[wh]
    unfold z92
    cases hd:l.all yb with
    |true=>
     rw[qah hd (by rintro rfl;simp at O) (by omega)]
     rw[hd,if_pos rfl]at h
     exact⟨λhx=>(by cases hx),λ_=>h⟩
    |false=>
     rw[hd,if_neg (by simp)]at h
     have:=af hd ae
     cases ha:Lib.atoiAll l with
     |ok v=>exact absurd ha (this v)
     |range=>exact⟨λ_=>h,λhx=>by cases hx⟩
     |_=>exact⟨λ_=>h,λhx=>by cases hx⟩
end
end Go.X
end
section
namespace Go.X
section
theorem qau{gl:Fr}(hg:GL gl){v:Tr}{s:Bt}(hs:(lb s).length<=1048576){R:Int->Prop}(h:R (qu v s)):PC Tp gl 117 [Arg.mk .tree v,Arg.mk .str s] [.int .i64] R:=by
 apply ziz
 unfold qu at h
 refine⟨λh6=>?_,λh6=>⟨λh5=>?_,λh5=>?_⟩⟩
 ·have O:v.kind=6:=by simpa using h6
  rw[if_pos O]at h
  exact zbf h
 ·have O:v.kind≠6:=by simpa using h6
  have Z:v.kind=5:=by simpa using h5
  rw[if_neg O,if_pos Z]at h
  have hi:=zjr hg (l:=lb s) hs (R:=λr=>r=zek (lb s)) rfl
  rw[Jc]at hi
  refine hi.mono λr hr=>?_
  subst hr
  refine⟨λhx=>?_,λhx=>?_⟩
  ·rw[if_pos (by simpa using hx)]at h;exact h
  ·rw[if_neg (by simpa using hx)]at h;exact h
 ·have O:v.kind≠6:=by simpa using h6
  have Z:v.kind≠5:=by simpa using h5
  rw[if_neg O,if_neg Z]at h;exact h
end
end Go.X
end
section
namespace Go.X
open Go Go.Code
section
variable {ro:Option Nat} {n:Nat} {P:Program} {f:FuncId} {args:Array Value} {w:World} {o:Oper} {a:Act} {e:Env} {h:zb}
abbrev rf(ro:Option Nat):Fence:={ Fence.wide with round:=ro }
def zk7(K:Act->World->Prop):Exit->Act->World->Prop
 |.normal,a,w=>K a w
 |_,_,_=>False
theorem J7{K:Act->World->Prop}:¬LetsOut (zk7 K):=λ⟨_,_,h⟩=>h
theorem z6m{R:Ending->World->Prop}(h:Calls P f args w R):CallsIn (rf ro) n P f args w R:=by
 have h1:CallsIn Fence.wide n P f args w R:=callsIn_wide.2 h
 exact h1
theorem qav{row:String}{R:Value->World->Prop}(h:Rows P row args w R):RowsIn (rf ro) n P row args w R:=by
 have h1:RowsIn Fence.wide n P row args w R:=λc cs _=>let ⟨v,w',r,s⟩:=h c cs;⟨v,w',r,stepsIn_wide.2 s⟩
 exact h1
def jo(o:Oper):Bool:=match o.op with
 |.defer _=>false
 |_=>true
theorem zth(h:jo o=true):∀c,o.op≠.defer c:=by
 intro c e
 unfold jo at h
 rw[e]at h;cases h
theorem qdv(hd:jo o=true){K:Act->World->Prop}{Q:Exit->Act->World->Prop}(h:o.wp P a w K Q):o.wpIn (rf ro) n P a w K Q:=by
 refine⟨λ_ _=>trivial,?_⟩
 rw[Oper.semAt_eq _ _ _ (zth hd)]
 unfold Oper.wp at h
 generalize (execOp a.eval o).run P w=r at *
 cases r with
 |ok x w'=>
  cases x with
  |enter f args=>exact⟨λhx=>(by cases hx),z6m h⟩
  |row row args=>exact⟨λhx=>(by cases hx),qav h⟩
  |value v=>exact h
  |skip=>exact h
  |defer d=>exact h
  |_=>exact h.elim
 |halt x w'=>cases x <;> first|exact h|exact h.elim
theorem zjs{ro:Option Nat}{n:Nat}{P:Program}{ops:Array Oper}{K:Act->World->Prop}{Q:Exit->Act->World->Prop}: ∀(l l2:List Oper) (a:Act) (w:World),l.all jo=true->wpList P ops (zk7 K) l a w->(∀a w,K a w->wpListIn (rf ro) n P ops Q l2 a w)->wpListIn (rf ro) n P ops Q (l++l2) a w
 |[],l2,a,w,_,h,hK=>hK a w h
 |o::l,l2,a,w,hd,h,hK=>by
  rw[CB,AI]at hd
  rw[A5]
  unfold wpListIn
  unfold wpList at h
  by_cases hw:BU o (yielded ops a.tmps)=true
  ·rw[if_pos hw]at h ⊢
   rcases h with h|⟨_,h⟩
   ·have h1:=qdv (ro:=ro) (n:=n) hd.1 h
    have h2:=Oper.wpIn_mono (λa w hq=>zjs l l2 a w hd.2 hq hK) h1
    refine⟨h2.1,?_⟩
    have h3:=h2.2
    revert h3
    generalize (o.semAt (rf ro).round a.eval).run P w=r
    cases r with
    |ok x w'=>
     cases x with
     |enter f args=>exact λh3=>⟨h3.1,CallsIn.mono h3.2 λe O he=>by cases e <;> first|exact he|exact he.elim|exact(J7 he).elim⟩
     |round l f tmps assign body=>exact λh3=>⟨h3.1,RoundIn.mono h3.2 λe O he=>by cases e <;> first|exact he|exact he.elim|exact(J7 he).elim⟩
     |_=>exact λh3=>h3
    |halt x w'=>cases x <;> first|exact λh3=>h3|exact λh3=>h3.elim
   ·exact(J7 h).elim
  ·rw[if_neg hw]at h ⊢
   exact⟨λ_ _=>trivial,zjs l l2 _ _ hd.2 h hK⟩
theorem zvw{ro:Option Nat}{n:Nat}{P:Program}{md:Region.Mode}{ops:Array Oper}{K:Act->World->Prop}(hd:∀(i:Nat) (o:Oper),ops[i]?=some o->jo o=true):∀(fuel:Nat) (listed:Array Bool) (a:Act) (w:World),wpAny P md ops (zk7 K) fuel listed a w->wpAnyIn (rf ro) n P md ops (zk7 K) fuel listed a w
 |0,_,_,_,h=>h
 |fuel+1,listed,a,w,h=>by
  refine⟨h.1,λi hi=>?_⟩
  have h2:=h.2 i hi
  unfold wpOp at h2
  unfold wpOpIn
  split at h2
  ·rename_i ho
   rw[ho];exact zvw hd fuel _ _ _ h2
  ·rename_i o ho
   rw[ho]
   simp only
   by_cases hw:BU o (yielded ops a.tmps)=true
   ·rw[if_pos hw]at h2 ⊢
    rcases h2 with h2|⟨_,h2⟩
    ·exact Oper.wpIn_mono (λa w hq=>zvw hd fuel _ a w hq) (qdv (hd i o ho) h2)
    ·exact(J7 h2).elim
   ·rw[if_neg hw]at h2 ⊢
    exact⟨λ_ _=>trivial,zvw hd fuel _ _ _ h2⟩
def zor(D:List Deferred)(a:Act):Act:={ a with defers:=a.defers++D }
theorem qdw{D:List Deferred}{K:Act->World->Prop}{R:Act->World->Prop}(h:o.wp P a w K (zk7 R)):o.wp P (zor D a) w (λa1 w1=>∃a0,a1=zor D a0/\K a0 w1) (zk7 λa1 w1=>∃a0,a1=zor D a0/\R a0 w1):=by
 unfold Oper.wp at h ⊢
 have he:(zor D a).eval=a.eval:=rfl
 rw[he]
 have hp:∀d v,(zor D a).put d v=zor D (a.put d v):=λd v=>by cases d <;> rfl
 generalize (execOp a.eval o).run P w=r at *
 cases r with
 |ok x w'=>
  cases x with
  |enter f args=>exact Calls.mono h λe O he=>by cases e with
    |returned v=>exact⟨_,hp _ _,he⟩
    |panicked ch=>exact he
    |outgrown=>exact(J7 he).elim
  |row row args=>exact Rows.mono h λv O he=>⟨_,hp _ _,he⟩
  |value v=>exact⟨_,hp _ _,h⟩
  |skip=>exact⟨_,hp _ _,h⟩
  |defer d=>exact⟨(Act.put { a with defers:=d::a.defers } o.dst undef),(by cases o.dst <;> rfl),(show K (Act.put { a with defers:=d::a.defers } o.dst undef) w' from h)⟩
  |_=>exact h.elim
 |halt x w'=>cases x <;> first|exact h|exact h.elim
theorem zos{P:Program}{md:Region.Mode}{ops:Array Oper}{D:List Deferred}{K:Act->World->Prop}:∀(fuel:Nat) (listed:Array Bool) (a:Act) (w:World),wpAny P md ops (zk7 K) fuel listed a w->wpAny P md ops (zk7 λa1 w1=>∃a0,a1=zor D a0/\K a0 w1) fuel listed (zor D a) w
 |0,_,a,_,h=>⟨h.1,a,rfl,h.2⟩
 |fuel+1,listed,a,w,h=>by
  refine⟨λhn=>⟨a,rfl,h.1 hn⟩,λi hi=>?_⟩
  have h2:=h.2 i hi
  unfold wpOp at h2 ⊢
  have hy:yielded ops (zor D a).tmps=yielded ops a.tmps:=rfl
  split at h2
  ·exact zos fuel _ _ _ h2
  ·rename_i o ho
   rw[hy]
   by_cases hw:BU o (yielded ops a.tmps)=true
   ·rw[if_pos hw]at h2 ⊢
    rcases h2 with h2|⟨_,h2⟩
    ·exact .inl (Oper.wp_mono (λa1 w1 ⟨a0,e,hq⟩=>by rw[e];exact zos fuel _ a0 w1 hq) (qdw h2))
    ·exact(J7 h2).elim
   ·rw[if_neg hw]at h2 ⊢
    have hp:(zor D a).put o.dst undef=zor D (a.put o.dst undef):=by cases o.dst <;> rfl
    rw[hp]
    exact zos fuel _ _ _ h2
def YX(P:Program)(l:Nat)(args:Array Value)(h:zb)(K:Value->zb->Prop):Prop:=
 ∀(m:Nat) (B:World) (d:Nat),∃fn tmps assign body,(Instr.yield l args).run P (mk B d h)=.ok (.round l fn tmps assign body) (mk B d h) /\
  RoundIn (rf none) m P l fn tmps assign body (mk B d h) λe w'=>∃v d' h',e=.returned v/\w'=mk B d' h'/\K v h'
def qf4(o:Oper):Bool:=match o.op with
 |.call c=>match c.callee with
  |.value x=>!(Wd x)
  |_=>false
 |_=>false
def zrd:List Oper->Option (List Oper×Oper×List Oper)
 |[]=>none
 |o::l=>bif qf4 o then some ([],o,l)else match zrd l with
  |some (pre,o',post)=>some (o::pre,o',post)
  |none=>none
theorem z2b{l:List Oper}:∀{pre O:List Oper} {o:Oper},zrd l=some (pre,o,O)->l=pre++o::O:=by
 induction l with
 |nil=>intro pre O o h;cases h
 |cons x l ih=>
  intro pre O o h
  rw[zrd]at h
  cases hd:qf4 x with
  |true=>
   rw[hd,cond_true]at h
   have h:=Ax h
   have h1:=congrArg Prod.fst h
   have h2:=congrArg (λq=>q.2.1) h
   have h3:=congrArg (λq=>q.2.2) h
   simp only at h1 h2 h3
   rw[<-h1,<-h2,<-h3];rfl
  |false=>
   rw[hd,cond_false]at h
   cases hs:zrd l with
   |none=>rw[hs]at h;cases h
   |some q=>
    obtain⟨aa,o',Z⟩:=q
    rw[hs]at h
    have h:=Ax h
    have h1:=congrArg Prod.fst h
    have h2:=congrArg (λq=>q.2.1) h
    have h3:=congrArg (λq=>q.2.2) h
    simp only at h1 h2 h3
    rw[ih hs,<-h1,<-h2,<-h3];rfl
def zvx(P:Program)(o:Oper)(e:Env)(h:zb)(K:Value->zb->Prop):Prop:=match o.op with
 |.call c=>match c.callee with
  |.value x=>match za4 e [] x with
   |some (.func (.yield l) A C)=>bif (bif (Nat.beq A.size 0)then(Nat.beq C.size 0)else false)then(bif known e [] c.args.toList then YX P l (c.args.map (rho e [])) h λv h'=>typed P o.type v λv'=>K v' h' else False)else False
   |_=>False
  |_=>False
 |_=>False
theorem zre{n m:Nat}{K:Value->zb->Prop}(H:zvx P o e h K)(hs:Sat n e a)(B:World)(d:Nat){next:Act->World->Prop}{Q:Exit->Act->World->Prop}
  (hn:∀v d' h',K v h'->next (a.put o.dst v) (mk B d' h')):o.wpIn (rf none) m P a (mk B d h) next Q:=by
 unfold zvx at H
 split at H
 ·rename_i c ho
  split at H
  ·rename_i x hx
   split at H
   ·rename_i l A C hl
    obtain⟨hA,hC,H⟩:A=#[]/\C=#[]/\(bif known e [] c.args.toList then YX P l (c.args.map (rho e [])) h λv h'=>typed P o.type v λv'=>K v' h' else False):=by
     cases h1:Nat.beq A.size 0 with
     |false=>rw[h1]at H;exact DU H
     |true=>
      cases h2:Nat.beq C.size 0 with
      |false=>rw[h1,h2]at H;exact DU H
      |true=>rw[h1,h2]at H;exact⟨Array.eq_empty_of_size_eq_zero (Al h1),Array.eq_empty_of_size_eq_zero (Al h2),H⟩
    subst hA;subst hC
    cases hk:known e [] c.args.toList with
    |false=>rw[hk]at H;exact DU H
    |true=>
     rw[hk]at H
     simp only[cond_true]at H
     obtain⟨fn,tmps,assign,body,h1,h2⟩:=H (m-1) B d
     have hv:a.eval x=.func (.yield l) #[] #[]:=j6 hs (c:=[]) trivial hl
     have O:c.args.map a.eval=c.args.map (rho e []):=by
      apply Array.map_congr_left
      intro y hy
      exact xy hs (c:=[]) trivial hk y (by simpa using hy)
     have hr:(o.semAt (rf none).round a.eval).run P (mk B d h)=.ok (.round l fn tmps assign body) (mk B d h):=by
      show(execOp a.eval o).run P (mk B d h)=_
      simp only[execOp,ho,resolve,hx,hv,Eh,Sem.run_bind,Sem.run_pure,Result.andThen_ok,invoke]
      rw[O]
      simpa using h1
     refine⟨λ_ _=>trivial,?_⟩
     rw[hr]
     refine⟨λhx=>(by cases hx),h2.mono ?_⟩
     rintro e' w' ⟨v,d',h',rfl,rfl,h3⟩
     exact hn _ _ _ (Zp h3)
   ·exact DU H
  ·exact DU H
 ·exact DU H
def zti(P:Program)(n:Nat)(tl:List (Nat×Nat))(id:Nat)(ops:Array Oper)(O:Bool)(K:Env->zb->Prop)(e:Env)(h:zb):Prop:=
 match zrd ops.toList with
 |none=>regionF P n tl id ops O K e h
 |some (pre,o,post)=>bif O then False else bif (pre.all jo&&post.all jo)then(match o.guard with
  |none=>bif yq n [] o.dst then wR P n ops (λe1 h1=>zvx P o e1 h1 λv h2=>wR P n ops K post (putO e1 o.dst [] v) h2) pre e h else False
  |some _=>False)else False
theorem zot(hm:P.follows .mixedOrders=true){tl:List (Nat×Nat)}{id:Nat}{ops:Array Oper}{Z:Bool}{K:Env->zb->Prop}
  (H:zti P n tl id ops Z K e h) (m:Nat) (B:World) (d:Nat) (hs:Sat n e a) {Q:Exit->Act->World->Prop}
  (hQ:∀e' a' d' h',Sat n e' a'->Same (je ops.toList) a a'->K e' h'->Q .normal a' (mk B d' h')):(Db id ops Z).wpIn (rf none) m P Q a (mk B d h):=by
 unfold zti at H
 split at H
 ·exact wpIn_wide.2 (zdb hm H B d hs hQ)
 ·rename_i pre o O ah
  have hl:=z2b ah
  cases Z with
  |true=>exact DU H
  |false=>
   simp only[cond_false]at H
   cases hnd:(pre.all jo&&O.all jo)with
   |false=>rw[hnd]at H;exact DU H
   |true=>
    rw[hnd]at H
    simp only[cond_true]at H
    rw[AI]at hnd
    split at H
    ·rename_i hg
     cases hd:yq n [] o.dst with
     |false=>rw[hd]at H;exact DU H
     |true=>
      rw[hd]at H
      simp only[cond_true]at H
      refine wpIn_region_list ?_
      have af:∀x∈je pre,x∈je ops.toList:=λx hx=>by rw[hl,Z7];exact Aq _ hx
      have ac:∀i,o.dst=some i->i∈je ops.toList:=λi hi=>by rw[hl,Z7];exact AC _ (by simp[je,hi])
      have ae:∀x∈je O,x∈je ops.toList:=λx hx=>by
       rw[hl,Z7]
       refine AC _ ?_
       unfold je
       split
       ·exact Ah _ hx
       ·exact hx
      rw[hl]
      refine zjs (K:=λa1 w1=>∃e1 d1 h1,w1=mk B d1 h1/\Sat n e1 a1/\Same (je ops.toList) a a1/\zvx P o e1 h1 λv h2=>wR P n ops K O (putO e1 o.dst [] v) h2) pre (o::O) a _ hnd.1 (Wg B pre e h a d H hs λe' a' d' h' q1 q2 q3=>⟨e',d',h',rfl,q1,q2.mono af,q3⟩) ?_
      rintro a1 w1 ⟨e1,d1,h1,rfl,s1,m1,q1⟩
      unfold wpListIn
      have aa:BU o (yielded ops a1.tmps)=true:=by simp[BU,hg]
      rw[if_pos aa]
      refine zre q1 s1 B d1 λv d2 h2 q2=>?_
      have s2:Sat n (putO e1 o.dst [] v) (a1.put o.dst v):=s1.putO hd (λ_=>rfl) (λhv=>absurd trivial hv)
      rw[<-Bf O]
      refine zjs (K:=λa' w'=>Q .normal a' w') O [] _ _ hnd.2 (Wg B O _ _ _ _ q2 s2 λe' a' d' h' r1 r2 r3=>?_) λa w h=>h
      exact hQ e' a' d' h' r1 ((m1.trans (Same.put a1 o.dst v ac)).trans (r2.mono ae)) r3
    ·exact DU H
def WI(P:Program)(n:Nat)(pl:Plan):Code->zkm->Env->zb->Prop
 |.skip,Q,e,h=>Q .normal e h
 |.ret,Q,e,h=>Q .ret e h
 |.exit id,Q,e,h=>Q (.exit id) e h
 |.label _,Q,e,h=>Q .normal e h
 |.goto l,Q,e,h=>Q (.goto l) e h
 |.region id ops draw,Q,e,h=>zti P n pl.tails id ops draw (λe h=>Q .normal e h) e h
 |.seq x y,Q,e,h=>match z4g pl.joins (wv y)with
  |none=>WI P n pl x (zwm (λe h=>WI P n pl y Q e h) Q) e h
  |some J=>qcn J (λe h=>WI P n pl y Q e h) (λK=>WI P n pl x (zwm K Q) e h) (Xo (Q3 x) e)
 |.cond c x y,Q,e,h=>match za4 e [] c with
  |some (.bool b)=>(b=true->WI P n pl x Q e h)/\(b=false->WI P n pl y Q e h)
  |_=>False
 |.block id x,Q,e,h=>WI P n pl x (zuc id Q) e h
 |.loop x,Q,e,h=>match z4g pl.loops (wv x)with
  |some J=>qco J (λQn e h=>WI P n pl x (zwm Qn Q) e h) (Xo (Q3 x) e) e h
  |none=>False
 |_,_,_,_=>False
theorem z6n(hm:P.follows .mixedOrders=true){pl:Plan}:∀(c:Code) (Q:zkm) (e:Env) (h:zb),WI P n pl c Q e h ->
  ∀(m:Nat) (B:World) (d:Nat) (a:Act),Sat n e a->c.wpIn (rf none) m P (qcp n B (Q3 c) a Q) a (mk B d h):=by
 intro c
 induction c with
 |skip=>exact λQ e h H m B d a hs=>wpIn_skip ⟨e,d,h,rfl,hs,Same.refl _ _,H⟩
 |ret=>exact λQ e h H m B d a hs=>wpIn_ret ⟨e,d,h,rfl,hs,Same.refl _ _,H⟩
 |exit id=>exact λQ e h H m B d a hs=>wpIn_exit ⟨e,d,h,rfl,hs,Same.refl _ _,H⟩
 |label l=>exact λQ e h H m B d a hs=>wpIn_label ⟨e,d,h,rfl,hs,Same.refl _ _,H⟩
 |goto l=>exact λQ e h H m B d a hs=>wpIn_goto ⟨e,d,h,rfl,hs,Same.refl _ _,H⟩
 |region id ops az=>
  exact λQ e h H m B d a hs=>zot hm H m B d hs λe' a' d' h' q1 q2 q3=>⟨e',d',h',rfl,q1,q2,q3⟩
 |seq x y aa Z=>
  intro Q e h H m B d a hs
  simp only[WI]at H
  have hl:∀i∈Q3 x,i∈Q3 (x.seq y):=λi hi=>Aq _ hi
  have hr:∀i∈Q3 y,i∈Q3 (x.seq y):=λi hi=>AC _ hi
  split at H
  ·refine wpIn_seq (wpIn_mono (aa _ _ _ H m B d a hs) ?_)
   rintro ex a1 w1 ⟨e1,d1,h1,rfl,s1,m1,q1⟩
   cases ex with
   |normal=>
    refine wpIn_mono (Z _ _ _ q1 m B d1 a1 s1) ?_
    rintro ex a2 w2 ⟨e2,d2,h2,rfl,s2,m2,q2⟩
    exact⟨e2,d2,h2,rfl,s2,(m1.mono hl).trans (m2.mono hr),q2⟩
   |_=>exact⟨e1,d1,h1,rfl,s1,m1.mono hl,q1⟩
  ·rename_i J hJ
   have H':=H (mkC (xg J) λvs=>λh=>WI P n pl y Q (Y4 J vs++Xo (Q3 x) e) h) (zm7 λvs h hq=>hq)
   refine wpIn_seq (wpIn_mono (aa _ _ _ H' m B d a hs) ?_)
   rintro ex a1 w1 ⟨e1,d1,h1,rfl,s1,m1,q1⟩
   cases ex with
   |normal=>
    obtain⟨vs,q,hv,hq,hk⟩:=ze4 q1
    have ay:=zm6 hq
    subst ay
    have ap:Sat n (Y4 J vs++Xo (Q3 x) e) a1:=zdc hs s1.defers s1.size m1 (wn s1 hv)
    refine wpIn_mono (Z _ _ _ hk m B d1 a1 ap) ?_
    rintro ex a2 w2 ⟨e2,d2,h2,rfl,s2,m2,q2⟩
    exact⟨e2,d2,h2,rfl,s2,(m1.mono hl).trans (m2.mono hr),q2⟩
   |_=>exact⟨e1,d1,h1,rfl,s1,m1.mono hl,q1⟩
 |cond c x y aa Z=>
  intro Q e h H m B d a hs
  simp only[WI]at H
  have hl:∀i∈Q3 x,i∈Q3 (EK c x y):=λi hi=>Aq _ hi
  have hr:∀i∈Q3 y,i∈Q3 (EK c x y):=λi hi=>AC _ hi
  split at H
  ·rename_i b hb
   refine wpIn_cond_split (j6 hs (c:=[]) trivial hb) (λan=>?_) (λax=>?_)
   ·refine wpIn_mono (aa _ _ _ (H.1 an) m B d a hs) ?_
    rintro ex a2 w2 ⟨e2,d2,h2,rfl,s2,m2,q2⟩
    exact⟨e2,d2,h2,rfl,s2,m2.mono hl,q2⟩
   ·refine wpIn_mono (Z _ _ _ (H.2 ax) m B d a hs) ?_
    rintro ex a2 w2 ⟨e2,d2,h2,rfl,s2,m2,q2⟩
    exact⟨e2,d2,h2,rfl,s2,m2.mono hr,q2⟩
  ·exact H.elim
 |block id x ih=>
  intro Q e h H m B d a hs
  refine wpIn_block (wpIn_mono (ih _ _ _ H m B d a hs) ?_)
  rintro ex a1 w1 ⟨e1,d1,h1,rfl,s1,m1,q1⟩
  cases ex with
  |exit i=>
   simp only[zuc]at q1
   simp only[Exit.inBlock]
   by_cases hb:Nat.beq i id=true
   ·rw[if_pos (Al hb)]
    simp only[hb,cond_true]at q1
    exact⟨e1,d1,h1,rfl,s1,m1,q1⟩
   ·rw[if_neg (λhe=>hb (by rw[he];simp))]
    simp only[hb,cond_false]at q1
    exact⟨e1,d1,h1,rfl,s1,m1,q1⟩
  |_=>exact⟨e1,d1,h1,rfl,s1,m1,q1⟩
 |loop x ih=>
  intro Q e h H m B d a hs
  simp only[WI]at H
  split at H
  ·rename_i J hJ
   obtain⟨I,μ,h0,ac⟩:=H
   obtain⟨aj,p0,au,al,ak⟩:=ze4 h0
   let F:=zwl (xg J) I μ
   let at_:Act->Option ((zb->Prop)×(zb->Nat)):=λa1=>(za5 (λi=>some (zw a1 i)) J).bind λvs=>zpv (xg J) vs F
   refine wpIn_loop (λa1 w1=>∃d1 h1 vs p,w1=mk B d1 h1/\a1.defers=[]/\a1.tmps.size=n/\Same (Q3 x) a a1/\za5 (λi=>some (zw a1 i)) J=some vs/\zpv (xg J) vs F=some p/\p.1 h1)
    (λa1 w1=>match at_ a1 with|some p=>p.2 w1.heap|none=>0) ⟨d,h,aj,p0,rfl,hs.defers,hs.size,Same.refl _ _,wn hs au,al,ak⟩ ?_
   rintro a1 w1 ⟨d1,h1,vs,p,rfl,am,ah,O,hv,hp,hI⟩
   have s1:Sat n (Y4 J vs++Xo (Q3 x) e) a1:=zdc hs am ah O hv
   have hb:=zh6 hp ac h1 hI
   refine wpIn_mono (ih _ _ _ hb m B d1 a1 s1) ?_
   rintro ex a2 w2 ⟨e2,d2,h2,rfl,s2,m2,q2⟩
   cases ex with
   |normal=>
    obtain⟨ai,q,ae,hq,ar,af⟩:=ze4 q2
    refine⟨⟨d2,h2,ai,q,rfl,s2.defers,s2.size,O.trans m2,wn s2 ae,hq,ar⟩,?_⟩
    have e1:at_ a1=some p:=by simp only[at_,hv,Cu];exact hp
    have e2:at_ a2=some q:=by simp only[at_,wn s2 ae,Cu];exact hq
    rw[e1,e2]
    exact af
   |_=>exact⟨e2,d2,h2,rfl,s2,O.trans m2,q2⟩
  ·exact H.elim
 |_=>exact λQ e h H=>H.elim
def XCI(P:Program)(f:FuncId)(args:Array Value)(h:zb)(R:Value->zb->Prop):Prop:=
 ∀(m:Nat) (B:World) (d:Nat),CallsIn (rf none) m P f args (mk B d h) λe w'=>∃v d' h',e=.returned v/\w'=mk B d' h'/\R v h'
theorem ztj(hm:P.follows .mixedOrders=true)(pl:Plan)(vs:List Value){fn:Func}{rs:List ResultVar}(hf:P.funcs[f]?=some fn)(hb:Wl fn=true)(hr:fn.results.toList=rs)(hn:fn.ntmps=n)
  (hz:Nat.ble vs.length n=true) {R:Value->zb->Prop} (H:WI P n pl (codeOf fn) (qef P rs R) (zy0 0 vs) h):XCI P f vs.toArray h R:=by
 have O:fn.body=some (codeOf fn):=by
  unfold Wl at hb
  unfold codeOf
  split at hb
  ·rename_i c hc;rw[hc]
  ·cases hb
 intro m B d
 subst hn
 refine callsIn_of_wp hf O trivial ?_ rfl
 have aa:vs.length<=fn.ntmps:=BS hz
 have hs:Sat fn.ntmps (zy0 0 vs) { tmps:=vs.toArray++Bm (fn.ntmps-vs.toArray.size) undef,defers:=[] }:=by
  refine⟨rfl,by simp;omega,?_⟩
  refine zaq vs.toArray _ vs 0 λj v hj=>?_
  have Z:j<vs.length:=by
   rcases AZ j vs.length with h|h
   ·exact h
   ·rw[Bu h]at hj;cases hj
  simp only[AH,Bq]
  rw[CN (by simpa using Z)]
  simp[hj]
 refine wpIn_mono (z6n hm (codeOf fn) _ _ _ H m B d _ hs) ?_
 rintro ex a w ⟨e1,d1,h1,rfl,s1,m1,q1⟩
 cases ex with
 |normal=>
  obtain⟨v,hv,hq⟩:=Yj s1 hr q1
  exact⟨s1.defers,v,hq B d1,v,d1,h1,rfl,rfl,hv⟩
 |ret=>
  obtain⟨v,hv,hq⟩:=Yj s1 hr q1
  exact⟨s1.defers,v,hq B d1,v,d1,h1,rfl,rfl,hv⟩
 |_=>exact q1.elim
end
end Go.X
end
section
namespace Go.X.U
section
variable {o:Oper} {ρ:Operand -> Value} {h h':zb} {a b:Act} {P:Program} {ops:Array Oper} {listed:Array Bool} {i n:Nat}
def zbd(o:Oper):Option Bool:=match o.op with
 |.fieldAddr _ _ _=>some true
 |.indexAddr _ _ _=>some true
 |.move _=>some true
 |.assign _=>some true
 |.load _ _=>some false
 |.binOp _ _ _ _ _=>some true
 |.call c=>match c.callee with
  |.builtin .len=>some true
  |_=>none
 |_=>none
def zf(o:Oper):Bool:=match zbd o with
 |some _=>true
 |none=>false
def zp(o:Oper):Bool:=match zbd o with
 |some b=>!b
 |none=>false
def heavyL:Nat->List Oper->List Nat
 |_,[]=>[]
 |k,o::l=>bif zf o then heavyL (k+1) l else k::heavyL (k+1) l
def Jn(ops:Array Oper):List Nat->Bool
 |[]=>true
 |[_]=>true
 |i::j::l=>bif Region.waitsFor .any ops j i then Jn ops (j::l)else false
def wq(ops:Array Oper)(i:Nat):List Nat->Bool
 |[]=>false
 |j::l=>bif Region.waitsFor .any ops j i then true else wq ops i l
def zh0(ops:Array Oper)(T:List Nat):Nat->Bool
 |0=>false
 |k+1=>bif (match ops[k]? with
  |some o=>bif zp o then !(wq ops k T)else false
  |none=>false)then true else zh0 ops T k
def wa(l:List Oper):Bool:=l.all λo=>match o.guard with
 |none=>xd o.op
 |some _=>false
def Jo(ops:Array Oper):Nat->Bool
 |0=>true
 |k+1=>bif (match ops[k]? with
  |some o=>bif xl ops k (tmpsOf o.op.operands.toList) ops.size then(bif zf o then(heavyL 0 ops.toList).all λj=>!(Region.waitsFor .any ops k j)||(match jd ops j with
   |some t=>!(memN (tmpsOf o.op.operands.toList) t)
   |none=>true)else true)else false
  |none=>true)then Jo ops k else false
def mixB(ops:Array Oper):Bool:=bif wa ops.toList then(bif ql ops ops.size then(bif w8 ops ops.size then(bif Jn ops (heavyL 0 ops.toList)then Jo ops ops.size else false)else false)else false)else false
def zx1(o:Oper)(ρ:Operand->Value)(h h':zb):Prop:=match o.op with
 |.load _ x=>∀c,ρ x=.pointer (some c)->h'[c.block]?=h[c.block]?
 |_=>True
theorem z2c(o:Oper)(ρ:Operand->Value)(h:zb):zx1 o ρ h h:=by
 unfold zx1;split
 ·exact λ_ _=>rfl
 ·trivial
theorem zfx{ρ ρ':Operand->Value}(e:∀x∈o.op.operands.toList,ρ x=ρ' x)(H:zx1 o ρ h h'):zx1 o ρ' h h':=by
 unfold zx1 at H ⊢
 split
 ·rename_i t x ho
  rw[ho]at H e
  exact λc hc=>H c (by rw[e x (by simp[Op.operands]),hc])
 ·trivial
def qS(P:Program)(o:Oper)(ρ:Operand->Value)(h:zb)(K:Value->Prop):Prop:=match o.op with
 |.call _=>ze0 P (execOp ρ o) K
 |_=>Zz P o ρ none h K
def zrf(ops:Array Oper)(T:List Nat)(e:Env)(h0 h':zb):Nat->Prop
 |0=>True
 |k+1=>match ops[k]? with
  |some o=>bif zp o then(bif wq ops k T then zrf ops T e h0 h' k else(match o.op with
   |.load _ x=>(match za4 e [] x with
    |some (.pointer (some c))=>h'[c.block]?=h0[c.block]?/\zrf ops T e h0 h' k
    |_=>False)
   |_=>False))else zrf ops T e h0 h' k
  |none=>zrf ops T e h0 h' k
theorem zmp{ops:Array Oper}{T:List Nat}{e:Env}{h0 h':zb}:∀{m:Nat},zrf ops T e h0 h' m->∀k ok,k<m->ops[k]?=some ok->zp ok=true->wq ops k T=false->∃t x c,ok.op=.load t x/\za4 e [] x=some (.pointer (some c))/\h'[c.block]?=h0[c.block]?
 |0,_,k,_,hk,_,_,_=>by omega
 |m+1,H,k,ok,hk,ho,hl,ha=>by
  unfold zrf at H
  rcases AZ k m with h1|h1
  ·have H':zrf ops T e h0 h' m:=by
    split at H
    ·rename_i o _
     cases hlo:zp o with
     |false=>rw[hlo]at H;exact H
     |true=>
      rw[hlo]at H
      simp only[cond_true]at H
      cases haw:wq ops m T with
      |true=>rw[haw]at H;exact H
      |false=>
       rw[haw]at H
       simp only[cond_false]at H
       split at H
       ·split at H
        ·exact H.2
        ·exact H.elim
       ·exact H.elim
    ·exact H
   exact zmp H' k ok h1 ho hl ha
  ·have:k=m:=by omega
   subst this
   rw[ho]at H
   simp only[hl,ha,cond_true,cond_false]at H
   split at H
   ·rename_i t x O
    split at H
    ·rename_i c hc
     exact⟨t,x,c,O,hc,H.1⟩
    ·exact H.elim
   ·exact H.elim
def wU(P:Program)(n:Nat)(h:zb)(K:Env->Prop):List Oper->Env->Prop
 |[],e=>K e
 |o::l,e=>bif zf o then(bif yq n [] o.dst then(bif xd o.op then(bif known e [] o.op.operands.toList then qS P o (rho e []) h λv=>wU P n h K l (putO e o.dst [] v)else False)else False)else False)else wU P n h K l e
def wT(P:Program)(n:Nat)(ops:Array Oper)(h0:zb)(K:Env->zb->Prop):List Nat->List Nat->Env->zb->Prop
 |_,[],e,h=>K (clean e) h
 |T,j::l,e,h=>match ops[j]? with
  |some o=>bif yq n [] o.dst then opW P o e [] h λv h'=>(bif zh0 ops (j::T) ops.size then zrf ops (j::T) (putO e o.dst [] v) h0 h' ops.size/\wT P n ops h0 K (j::T) l (putO e o.dst [] v) h' else wT P n ops h0 K (j::T) l (putO e o.dst [] v) h')else False
  |none=>False
def qs:Nat->List Oper->(Nat->Value)->Act->Act
 |_,[],_,a=>a
 |k,o::l,f,a=>qs (k+1) l f (bif zf o then a.put o.dst (f k)else a)
theorem yx{a b:Act}:∀{l:List Operand},(∀t∈tmpsOf l,zw a t=zw b t)->∀x∈l,a.eval x=b.eval x
 |[],_,x,hx=>by cases hx
 |y::l,h,x,hx=>by
  rcases Af.1 hx with rfl|hx
  ·cases x with
   |tmp t=>exact h t (by simp[tmpsOf])
   |const v=>rfl
   |global g=>rfl
   |func f=>rfl
  ·refine yx (l:=l) (λt ht=>h t ?_) x hx
   cases y <;> simp[tmpsOf,ht]
theorem yy(hs:xd o.op=true)(h:∀t∈tmpsOf o.op.operands.toList,zw a t=zw b t):execOp a.eval o=execOp b.eval o:=
 execOp_congr o (λcs b hb=>by rw[hb]at hs;cases hs) λx hx=>yx h x (by simpa using hx)
theorem zrg{q:Addr}(e:h'[q.block]?=h[q.block]?):zk h' q=zk h q:=by unfold zk;rw[e]
theorem qaw(q:Addr)(i:Nat):(q.add i).block=q.block:=by unfold Aj;split <;> rfl
theorem zmq{h h':zb}{q:Addr}(e:h'[q.block]?=h[q.block]?):∀{vs:List Value} {i:Nat},ze h q i vs->ze h' q i vs
 |[],_,_=>trivial
 |_::_,i,⟨h1,h2⟩=>⟨(zrg (q:=q.add i) (by rw[qaw];exact e)).trans h1,zmq e h2⟩
theorem zam(hq:zf o=true){K:Value->Prop}(H:qS P o ρ h K):
  ∃v,K v/\∀h',(zp o=false\/zx1 o ρ h h')->QExec P (execOp ρ o) h' (.value v):=by
 unfold qS at H
 cases ho:o.op with
 |load t x=>
  rw[ho]at H
  simp only at H
  unfold Zz at H
  rw[ho]at H
  simp only at H
  unfold zmz at H
  split at H
  ·rename_i q b hp hv
   obtain⟨y,h1,h2⟩:=H
   refine⟨_,h2,λh' hk=>?_⟩
   have hb:h'[q.block]?=h[q.block]?:=by
    rcases hk with hk|hk
    ·unfold zp zbd at hk;rw[ho]at hk;cases hk
    ·unfold zx1 at hk;rw[ho]at hk;exact hk q hp
   simp only[execOp,ho,hp]
   exact(zc5 hv (by rw[zrg hb];exact h1.out trivial)).val
  ·rename_i q l hp hv
   obtain⟨vs,h0,⟨h1,h2⟩,_⟩:=Yb H (wm l)
   refine⟨_,h2,λh' hk=>?_⟩
   have hb:h'[q.block]?=h[q.block]?:=by
    rcases hk with hk|hk
    ·unfold zp zbd at hk;rw[ho]at hk;cases hk
    ·unfold zx1 at hk;rw[ho]at hk;exact hk q hp
   simp only[execOp,ho,hp]
   exact(zc6 hv h0 (zmq hb (h1.out trivial))).val
  ·exact H.elim
 |fieldAddr t x i=>
  rw[ho]at H
  simp only at H
  unfold Zz at H;rw[ho]at H
  obtain⟨v,h1,h2⟩:=zx H none
  exact⟨v,h1,λh' _=>h2 trivial h'⟩
 |indexAddr t x i=>
  rw[ho]at H
  simp only at H
  unfold Zz at H;rw[ho]at H
  simp only at H
  cases he:Xk P t with
  |false=>rw[he]at H;exact H.elim
  |true=>
   rw[he]at H
   obtain⟨v,h1,h2⟩:=Zd (xz he) H
   refine⟨v,h1,λh' _=>?_⟩
   simp only[execOp,ho]
   exact(h2 trivial h').val
 |move x=>
  rw[ho]at H
  simp only at H
  unfold Zz at H;rw[ho]at H
  obtain⟨v,h1,h2⟩:=zx H none
  exact⟨v,h1,λh' _=>h2 trivial h'⟩
 |assign x=>
  rw[ho]at H
  simp only at H
  unfold Zz at H;rw[ho]at H
  obtain⟨v,h1,h2⟩:=zx H none
  exact⟨v,h1,λh' _=>h2 trivial h'⟩
 |binOp op t x y t'=>
  rw[ho]at H
  simp only at H
  unfold Zz at H;rw[ho]at H
  simp only at H
  obtain⟨v,h1,h2⟩:=zhb ho H
  exact⟨v,h1,λh' _=>h2 trivial h'⟩
 |call c=>
  rw[ho]at H
  simp only at H
  obtain⟨v,h1,h2⟩:=zx H none
  exact⟨v,h1,λh' _=>h2 trivial h'⟩
 |_=>unfold zf zbd at hq;rw[ho]at hq;cases hq
theorem qi(σ:Nat->Value):valid σ []:=by unfold valid;trivial
theorem Yc:∀{l:List Oper} {k:Nat} {f:Nat->Value} {a:Act},(qs k l f a).tmps.size=a.tmps.size/\(qs k l f a).defers=a.defers
 |[],_,_,_=>⟨rfl,rfl⟩
 |o::l,k,f,a=>by
  unfold qs
  have:=Yc (l:=l) (k:=k+1) (f:=f) (a:=bif zf o then a.put o.dst (f k)else a)
  rw[this.1,this.2]
  cases zf o with
  |true=>exact⟨size_put _ _ _,qg _ _ _⟩
  |false=>exact⟨rfl,rfl⟩
theorem zq{d:Option Nat}{u:Value}{s:Nat}(h:d≠some s):zw (a.put d u) s=zw a s:=by
 cases d with
 |none=>rfl
 |some t=>exact qq λe=>h (by rw[e])
theorem yu{s:Nat}:∀{l:List Oper} {k:Nat} {f:Nat->Value} {a:Act},(∀o∈l,zf o=true->o.dst≠some s)->zw (qs k l f a) s=zw a s
 |[],_,_,_,_=>rfl
 |o::l,k,f,a,h=>by
  unfold qs
  rw[yu λo' O=>h o' (Ah _ O)]
  cases hq:zf o with
  |true=>exact zq (h o Ar hq)
  |false=>rfl
theorem Y3{P:Program}{n:Nat}{h:zb}{K:Env->Prop}:∀{l:List Oper} {k:Nat} {e:Env} {a:Act},wU P n h K l e->Sat n e a->∃(f:Nat->Value) (e':Env),K e'/\Sat n e' (qs k l f a) /\
  ∀i o,l[i]?=some o->zf o=true->xd o.op=true/\yq n [] o.dst=true/\∀h',(zp o=false\/zx1 o (qs k (l.take i) f a).eval h h')->QExec P (execOp (qs k (l.take i) f a).eval o) h' (.value (f (k+i)))
 |[],k,e,a,H,hs=>⟨λ_=>undef,e,H,hs,λi o h=>by simp at h⟩
 |o::l,k,e,a,H,hs=>by
  unfold wU at H
  cases hq:zf o with
  |false=>
   rw[hq]at H
   obtain⟨f,e',h1,h2,h3⟩:=Y3 (k:=k+1) H hs
   refine⟨f,e',h1,by unfold qs;rw[hq];exact h2,λi o' hi O=>?_⟩
   cases i with
   |zero=>simp at hi;subst hi;rw[hq]at O;cases O
   |succ i=>
    have:=h3 i o' (by simpa using hi) O
    rw[BV]
    unfold qs
    rw[hq,show k+(i+1)=k+1+i by omega];exact this
  |true=>
   rw[hq]at H
   simp only[cond_true]at H
   cases hd:yq n [] o.dst with
   |false=>rw[hd]at H;exact H.elim
   |true=>
    rw[hd]at H
    simp only[cond_true]at H
    cases hns:xd o.op with
    |false=>rw[hns]at H;exact H.elim
    |true=>
     rw[hns]at H
     simp only[cond_true]at H
     cases hk:known e [] o.op.operands.toList with
     |false=>rw[hk]at H;exact H.elim
     |true=>
      rw[hk]at H
      simp only[cond_true]at H
      obtain⟨v,H1,H2⟩:=zam hq H
      obtain⟨f,e',h1,h2,h3⟩:=Y3 (k:=k+1) (a:=a.put o.dst v) H1 (hs.putO hd (λ_=>rfl) λhv=>absurd (qi _) hv)
      have hf:∀(m:List Oper) (j:Nat) (b:Act),qs (k+1+j) m (λx=>if x=k then v else f x) b=qs (k+1+j) m f b:=by
       intro m
       induction m with
       |nil=>intro j b;rfl
       |cons o' m ih=>
        intro j b
        unfold qs
        dsimp only
        rw[if_neg (show¬k+1+j=k by omega),show k+1+j+1=k+1+(j+1)by omega,ih]
      refine⟨λx=>if x=k then v else f x,e',h1,?_,λi o' hi O=>?_⟩
      ·unfold qs
       rw[hq,cond_true]
       dsimp only
       rw[if_pos rfl]
       have:=hf l 0 (a.put o.dst v)
       rw[C8]at this
       rw[this];exact h2
      ·cases i with
       |zero=>
        simp at hi;subst hi
        rw[Cz,C8]
        dsimp only
        rw[if_pos rfl]
        refine⟨hns,hd,λh' hh=>?_⟩
        show QExec P (execOp a.eval o) h' _
        rw[Y0 hs (qi _) hns hk]
        exact H2 h' (hh.imp id λr=>zfx (λx hx=>xy hs (qi _) hk x hx) r)
       |succ i=>
        have:=h3 i o' (by simpa using hi) O
        rw[BV]
        unfold qs
        rw[hq,cond_true]
        dsimp only
        rw[if_pos rfl]
        have e2:=hf (l.take i) 0 (a.put o.dst v)
        rw[C8]at e2
        rw[e2,if_neg (show¬k+(i+1)=k by omega),show k+(i+1)=k+1+i by omega]
        exact this
theorem Jp{next:Act->World->Prop}{Q:Exit->Act->World->Prop}{r:Result Next}(hb:b.defers=[])
  (H:o.upon P b (λc w=>c.defers=[]/\∀v,c=b.put o.dst v->next (a.put o.dst v) w) (λ_ _ _=>False) r):o.upon P a next Q r:=by
 have lo:¬LetsOut (λ(_:Exit) (_:Act) (_:World)=>False):=λh=>by
  obtain⟨_,_,h⟩:=h
  exact h
 cases r with
 |ok x w=>
  cases x with
  |value v=>exact H.2 v rfl
  |skip=>exact H.2 undef rfl
  |defer d=>
   have:=H.1
   rw[qg]at this;cases this
  |enter f args=>
   refine Calls.mono (show Calls P f args w _ from H) λe w' he=>?_
   cases e with
   |returned v=>exact he.2 v rfl
   |panicked c=>exact he.elim
   |outgrown=>exact absurd he lo
  |row row args=>exact Rows.mono (show Rows P row args w _ from H) λv w' he=>he.2 v rfl
  |_=>exact H
 |halt x w=>cases x <;> first|exact H.elim|exact H
theorem qz{j:Nat}:∀{l:List Oper} {k:Nat},j∈heavyL k l↔k<=j/\∃o,l[j-k]?=some o/\zf o=false
 |[],k=>by simp[heavyL]
 |o::l,k=>by
  unfold heavyL
  cases hq:zf o with
  |true=>
   rw[cond_true,qz (l:=l)]
   constructor
   ·rintro⟨h1,o',h2,h3⟩
    exact⟨by omega,o',by rw[show j-k=(j-(k+1))+1 by omega];simpa using h2,h3⟩
   ·rintro⟨h1,o',h2,h3⟩
    rcases DF h1 with e|e
    ·subst e
     simp at h2;subst h2;rw[hq]at h3;cases h3
    ·exact⟨by omega,o',by rw[show j-k=(j-(k+1))+1 by omega]at h2;simpa using h2,h3⟩
  |false=>
   rw[cond_false,Af,qz (l:=l)]
   constructor
   ·rintro(rfl|⟨h1,o',h2,h3⟩)
    ·exact⟨Ae _,o,by simp,hq⟩
    ·exact⟨by omega,o',by rw[show j-k=(j-(k+1))+1 by omega];simpa using h2,h3⟩
   ·rintro⟨h1,o',h2,h3⟩
    rcases DF h1 with e|e
    ·exact .inl e.symm
    ·exact .inr ⟨by omega,o',by rw[show j-k=(j-(k+1))+1 by omega]at h2;simpa using h2,h3⟩
theorem yw:∀{l:List Oper} {k:Nat},(heavyL k l).Nodup
 |[],_=>Et
 |o::l,k=>by
  unfold heavyL
  cases zf o with
  |true=>exact yw
  |false=>exact CQ.2 ⟨λh=>by have:=(qz.1 h).1;omega,yw⟩
theorem qw{ops:Array Oper}:∀{m:Nat},Jo ops m=true->∀k o,k<m->ops[k]?=some o->xl ops k (tmpsOf o.op.operands.toList) ops.size=true/\(zf o=true->∀j∈heavyL 0 ops.toList,Region.waitsFor .any ops k j=true->∀t,jd ops j=some t->t∉tmpsOf o.op.operands.toList)
 |0,_,k,o,hk,_=>by omega
 |m+1,h,k,o,hk,ho=>by
  unfold Jo at h
  split at h
  ·rename_i o' O
   cases hs:xl ops m (tmpsOf o'.op.operands.toList) ops.size with
   |false=>rw[hs]at h;cases h
   |true=>
    rw[hs,cond_true]at h
    rcases AZ k m with h1|h1
    ·refine qw (m:=m) ?_ k o h1 ho
     revert h
     cases(bif zf o' then(heavyL 0 ops.toList).all λj=>!(Region.waitsFor .any ops m j)||(match jd ops j with
      |some t=>!(memN (tmpsOf o'.op.operands.toList) t)
      |none=>true)else true) <;> intro h <;> first|exact h|cases h
    ·have:k=m:=by omega
     subst this
     have:o'=o:=Ax (O.symm.trans ho)
     subst this
     refine⟨hs,λhq j hj hw t ht=>?_⟩
     rw[hq,cond_true]at h
     cases hall:(heavyL 0 ops.toList).all λj=>!(Region.waitsFor .any ops k j)||(match jd ops j with
      |some t=>!(memN (tmpsOf o'.op.operands.toList) t)
      |none=>true)with
     |false=>rw[hall]at h;cases h
     |true=>
      have:=AQ.1 hall j hj
      rw[hw,ht]at this
      simp only[Bool.not_true,DV,B4]at this
      exact Ze this
  ·rename_i O
   rw[cond_true]at h
   rcases AZ k m with h1|h1
   ·exact qw h k o h1 ho
   ·have:k=m:=by omega
    subst this
    rw[O]at ho;cases ho
theorem Yh{ops:Array Oper}:∀{l:List Nat},Jn ops l=true->∀q i j,l[q]?=some i->l[q+1]?=some j->Region.waitsFor .any ops j i=true
 |[],_,q,i,j,h,_=>by simp at h
 |[_],_,q,i,j,_,h=>by simp at h
 |a::b::l,h,q,i,j,h1,h2=>by
  unfold Jn at h
  cases hw:Region.waitsFor .any ops b a with
  |false=>rw[hw]at h;cases h
  |true=>
   rw[hw,cond_true]at h
   cases q with
   |zero=>simp at h1 h2;subst h1;subst h2;exact hw
   |succ q=>exact Yh h q i j (by simpa using h1) (by simpa using h2)
theorem Zf{ops:Array Oper}{i:Nat}:∀{l:List Nat},wq ops i l=true->∃j∈l,Region.waitsFor .any ops j i=true
 |[],h=>by cases h
 |j::l,h=>by
  unfold wq at h
  cases hw:Region.waitsFor .any ops j i with
  |true=>exact⟨j,Ar,hw⟩
  |false=>
   rw[hw,cond_false]at h
   obtain⟨j',h1,h2⟩:=Zf h
   exact⟨j',Ah _ h1,h2⟩
theorem Jq{ops:Array Oper}{T:List Nat}:∀{m:Nat},zh0 ops T m=false->∀k o,k<m->ops[k]?=some o->zp o=true->wq ops k T=true
 |0,_,k,o,hk,_,_=>by omega
 |m+1,h,k,o,hk,ho,hl=>by
  unfold zh0 at h
  cases hb:(match ops[m]? with
   |some o=>bif zp o then !(wq ops m T)else false
   |none=>false)with
  |true=>rw[hb]at h;cases h
  |false=>
   rw[hb,cond_false]at h
   rcases AZ k m with h1|h1
   ·exact Jq h k o h1 ho hl
   ·have:k=m:=by omega
    subst this
    rw[ho]at hb
    simp only[hl,cond_true,Bool.not_eq_false']at hb
    exact hb
theorem Zg{i p:Nat}(hi:i∈Region.ready .any ops listed)(hw:Region.waitsFor .any ops i p=true):listed.getD p false=true:=by
 obtain⟨oj,Z,e,he,hb,aa⟩:=Region.waitsFor_spec hw
 obtain⟨_,o,ho,O⟩:=mem_ready.1 hi
 have:oj=o:=Ax (Z.symm.trans ho)
 subst this
 rw[<-aa];exact O e he hb
theorem ya(inv:HeadInv .any ops n listed){i p:Nat}(hi:listed.getD i false=true)(hw:Region.waitsFor .any ops i p=true):listed.getD p false=true:=by
 obtain⟨oj,O,e,he,hb,Z⟩:=Region.waitsFor_spec hw
 rw[<-Z];exact inv.closed i oj O hi e he hb
theorem Yi{p:Nat->Bool}{N:Nat}(h:∃k,k<N/\p k=false):∃k,k<N/\p k=false/\∀j,j<k->p j=true:=by
 obtain⟨k,h1,h2⟩:=h
 induction k using Nat.strongRecOn with
 |_ k ih=>
  by_cases hm:∃j,j<k/\p j=false
  ·obtain⟨j,h3,h4⟩:=hm
   exact ih j h3 (by omega) h4
  ·exact⟨k,h1,h2,λj hj=>by
    cases hb:p j with
    |true=>rfl
    |false=>exact absurd ⟨j,hj,hb⟩ hm⟩
theorem Xm(h:mixB ops=true):wa ops.toList=true/\ql ops ops.size=true/\w8 ops ops.size=true/\Jn ops (heavyL 0 ops.toList)=true/\Jo ops ops.size=true:=by
 unfold mixB at h
 cases h1:wa ops.toList <;> cases h2:ql ops ops.size <;> cases h3:w8 ops ops.size <;> cases h4:Jn ops (heavyL 0 ops.toList) <;> simp[h1,h2,h3,h4]at h ⊢
 exact h
theorem Zq{l:List Oper}(h:wa l=true):∀o∈l,o.guard=none/\xd o.op=true:=by
 intro o ho
 have:=AQ.1 h o ho
 cases hg:o.guard with
 |none=>rw[hg]at this;exact⟨rfl,this⟩
 |some g=>rw[hg]at this;cases this
theorem Zh:∀{l m:List Oper} {k:Nat} {f:Nat->Value} {a:Act},qs k (l++m) f a=qs (k+l.length) m f (qs k l f a)
 |[],m,k,f,a=>rfl
 |o::l,m,k,f,a=>by
  have e:∀l',qs k (o::l') f a=qs (k+1) l' f (bif zf o then a.put o.dst (f k)else a):=λ_=>rfl
  rw[A5,e,e,Zh,show k+1+l.length=k+(o::l).length by simp;omega]
theorem toL(ho:ops[i]?=some o):ops.toList[i]?=some o:=by rw[A0];exact ho
theorem ofL(ho:ops.toList[i]?=some o):ops[i]?=some o:=by rw[A0]at ho;exact ho
structure StM (P:Program) (n:Nat) (ops:Array Oper) (h0:zb) (K:Env->zb->Prop) (f:Nat->Value) (a0:Act) (listed:Array Bool) (a b:Act) (e:Env) (h:zb) (done todo:List Nat):Prop where
 inv:HeadInv .any ops ops.size listed
 ag:∀s,(∀i o,ops[i]?=some o->zf o=true->listed.getD i false=false->o.dst≠some s)->zw a s=zw b s
 sz:a.tmps.size=n
 ad:a.defers=[]
 sb:Sat n e b
 qv:∀i o t,ops[i]?=some o->zf o=true->o.dst=some t->zw b t=f i/\t<n
 qx:∀i o,ops[i]?=some o->zf o=true->∀h',(zp o=false\/zx1 o b.eval h0 h')->QExec P (execOp b.eval o) h' (.value (f i))
 tt:heavyL 0 ops.toList=done.reverse++todo
 ch:∀j,j∈heavyL 0 ops.toList->(listed.getD j false=true↔j∈done)
 wt:wT P n ops h0 K done todo e h
 kp:∀i o,ops[i]?=some o->zp o=true->listed.getD i false=false->zx1 o b.eval h0 h
 sm:Same (je ops.toList) a0 a
theorem Qc{o:Oper}:∀{l:List Oper},o∈l->∀i,o.dst=some i->i∈je l
 |[],h,_,_=>by cases h
 |x::l,h,i,hi=>by
  unfold je
  rcases Af.1 h with rfl|h
  ·rw[hi];exact Ar
  ·have:=Qc h i hi
   split
   ·exact Ah _ this
   ·exact this
theorem zo{k:Nat}(h:ops[k]?=some o):jd ops k=o.dst:=by simp[jd,h]
theorem zsa{h0:zb}{K:Env->zb->Prop}{Q:Exit->Act->World->Prop}(B:World)(ba:mixB ops=true){f:Nat->Value}{a0:Act}
  (hQ:∀e' a' d' h',Sat n e' a'->Same (je ops.toList) a0 a'->K e' h'->Q .normal a' (mk B d' h')):
  ∀(N:Nat) (U:List Nat) (listed:Array Bool) (a b:Act) (e:Env) (h:zb) (d:Nat) (done todo:List Nat),U.length=N->U.Nodup->(∀k,k∈U↔k<ops.size/\listed.getD k false=false) ->
   StM P n ops h0 K f a0 listed a b e h done todo->wpAny P .any ops Q N listed a (mk B d h):=by
 obtain⟨bB,aI,bu,aB,al⟩:=Xm ba
 have aV:∀(i:Nat) (o:Oper),ops[i]?=some o->o.guard=none/\xd o.op=true:=λi o ho=>Zq bB o (by
  obtain⟨aa,e⟩:=Ac.1 ho
  rw[<-e];simp)
 have bD:∀{listed:Array Bool} {a b:Act} {e:Env} {h:zb} {d:Nat} {done todo:List Nat},(∀k,k<ops.size->listed.getD k false=true)->StM P n ops h0 K f a0 listed a b e h done todo->Q .normal a (mk B d h):=by
  intro listed a b e h d done todo ac S
  have aj:todo=[]:=by
   cases todo with
   |nil=>rfl
   |cons j l=>
    have hj:j∈heavyL 0 ops.toList:=by rw[S.tt];simp
    have aa:j<ops.size:=by
     obtain⟨_,o,ho,_⟩:=qz.1 hj
     have:=(Az.1 ho).1
     simpa using this
    have hd:=(S.ch j hj).1 (ac j aa)
    have hn:=yw (l:=ops.toList) (k:=0)
    rw[S.tt,A9]at hn
    exact absurd rfl (hn.2.2 j (by simpa using hd) j (by simp))
  have hw:=S.wt
  rw[aj]at hw
  unfold wT at hw
  have hv:∀s,zw a s=zw b s:=λs=>S.ag s λi o ho hq hl=>by
   rw[ac i (Ac.1 ho).1]at hl;cases hl
  have hs:Sat n e a:=⟨S.ad,S.sz,λx hx=>by
   have:=S.sb.all x hx
   have e1:zw a=zw b:=funext hv
   rw[e1];exact this⟩
  exact hQ _ _ _ _ hs.clean S.sm hw
 intro N
 induction N with
 |zero=>
  intro U listed a b e h d done todo hU _ ai S
  have bJ:U=[]:=Ck.1 hU
  subst bJ
  have ac:∀k,k<ops.size->listed.getD k false=true:=λk hk=>by
   cases hb:listed.getD k false with
   |true=>rfl
   |false=>exact absurd ((ai k).2 ⟨hk,hb⟩) (by simp)
  refine⟨?_,bD ac S⟩
  rw[CU]
  intro j hj
  obtain⟨h1,o,ho,_⟩:=mem_ready.1 hj
  have aa:=(Ac.1 ho).1
  have:=ac j aa
  have h2:=getD_both h1
  rw[this]at h2;cases h2
 |succ N ih=>
  intro U listed a b e h d done todo hU aF ai S
  have bz:∃k,k<ops.size/\listed.getD k false=false:=by
   cases U with
   |nil=>cases hU
   |cons k U=>exact⟨k,(ai k).1 Ar⟩
  refine⟨λhr=>?_,λi hi=>?_⟩
  ·exfalso
   obtain⟨k,aC,aU,bF⟩:=Yi bz
   have:k∈Region.ready .any ops listed:=mem_ready.2 ⟨by rw[<-aU];simp[S.inv.size,aC],ops[k],AN aC,λx hx hb=>bF _ (qm aI k ops[k] aC (AN aC) x hx hb)⟩
   rw[hr]at this;cases this
  ·obtain⟨bm,o,ho,ac⟩:=mem_ready.1 hi
   have aD:listed.getD i false=false:=getD_both bm
   have aa:i<ops.size:=(Ac.1 ho).1
   obtain⟨hg,bH⟩:=aV i o ho
   have aE:i<listed.size:=by rw[S.inv.size];exact aa
   have a7:(U.erase i).length=N:=by rw[CW ((ai i).2 ⟨aa,aD⟩),hU];rfl
   have am:(U.erase i).Nodup:=aF.erase i
   have ap:∀k,k∈U.erase i↔k<ops.size/\(listed.setIfInBounds i true).getD k false=false:=λk=>by
    rw[aF.mem_erase_iff,ai k]
    by_cases hk:i=k
    ·subst hk;simp[aE]
    ·rw[getD_set_ne false hk];exact⟨λhx=>hx.2,λhx=>⟨λe=>hk e.symm,hx⟩⟩
   have ak:=S.inv.set hi aa
   have af:∀k,k≠i->(listed.setIfInBounds i true).getD k false=listed.getD k false:=λk hk=>getD_set_ne false (Ne.symm hk)
   have ae:(listed.setIfInBounds i true).getD i false=true:=by simp[aE]
   obtain⟨aA,bO⟩:=qw al i o aa ho
   have a1:∀t∈tmpsOf o.op.operands.toList,zw a t=zw b t:=λt ht=>S.ag t λk ok O hq hl hd=>by
    have hw:=qk aA k t (Ac.1 O).1 (by rw[zo O,hd]) ht
    rw[Zg hi hw]at hl;cases hl
   have aP:=yy bH a1
   unfold wpOp
   rw[ho]
   simp only
   have aL:BU o (yielded ops a.tmps)=true:=by unfold BU;rw[hg]
   rw[if_pos aL]
   left
   unfold Oper.wp
   rw[aP]
   cases hq:zf o with
   |true=>
    have hx:=S.qx i o ho hq h (by
     cases hl:zp o with
     |false=>exact .inl rfl
     |true=>exact .inr (S.kp i o ho hl aD)) B d
    rw[hx,Oper.upon_value]
    have a8:i∉heavyL 0 ops.toList:=λhm=>by
     obtain⟨_,o',aZ,bj⟩:=qz.1 hm
     rw[Ca]at aZ
     have:o'=o:=by
      have h2:ops[i]?=some o':=ofL aZ
      exact Ax (h2.symm.trans ho)
     subst this;rw[hq]at bj;cases bj
    refine ih _ _ _ b e h d done todo a7 am ap { S with inv:=ak,ag:=λs hs=>?_,sz:=by rw[size_put];exact S.sz,ad:=by rw[qg];exact S.ad,ch:=λj hj=>?_,kp:=λk ok O hl hk=>?_,sm:=S.sm.trans (Same.put a o.dst _ λt ht=>Qc (by
     obtain⟨bp,e2⟩:=Ac.1 ho
     rw[<-e2];simp) t ht) }
    ·by_cases hd:o.dst=some s
     ·obtain⟨hv,az⟩:=S.qv i o s ho hq hd
      rw[hd,yc (by rw[S.sz];exact az),hv]
     ·rw[zq hd]
      refine S.ag s λk ok O Z aO=>?_
      by_cases ah:k=i
      ·subst ah
       have:ok=o:=Ax (O.symm.trans ho)
       subst this;exact hd
      ·exact hs k ok O Z (by rw[af k ah];exact aO)
    ·have:j≠i:=λe=>a8 (e ▸ hj)
     rw[af j this];exact S.ch j hj
    ·by_cases ah:k=i
     ·subst ah;rw[ae]at hk;cases hk
     ·rw[af k ah]at hk;exact S.kp k ok O hl hk
   |false=>
    have aQ:i∈heavyL 0 ops.toList:=qz.2 ⟨CY _,o,by rw[Ca];exact toL ho,hq⟩
    have aG:=yw (l:=ops.toList) (k:=0)
    have au:i∉done:=λhd=>by rw[(S.ch i aQ).2 hd]at aD;cases aD
    have aj:∃rest,todo=i::rest:=by
     have be:i∈todo:=by
      have:=aQ
      rw[S.tt,An]at this
      rcases this with h1|h1
      ·exact absurd (by simpa using h1) au
      ·exact h1
     cases todo with
     |nil=>cases be
     |cons j rest=>
      rcases Af.1 be with rfl|hr
      ·exact⟨rest,rfl⟩
      ·exfalso
       obtain⟨m,hm,em⟩:=Bc hr
       have hp:∃pr,(j::rest)[m]?=some pr:=⟨_,Am (by simp;omega)⟩
       obtain⟨pr,bc⟩:=hp
       have hw:=Yh aB (done.reverse.length+m) pr i (by rw[S.tt,Bj (by omega),Nat.add_sub_cancel_left];exact bc) (by
        rw[S.tt,Bj (by omega),show done.reverse.length+m+1-done.reverse.length=m+1 by omega,List.getElem?_cons_succ,Am hm,em])
       have aH:pr∈j::rest:=CF bc
       have bh:pr∈heavyL 0 ops.toList:=by rw[S.tt];exact AC _ aH
       have hd:=(S.ch pr bh).1 (Zg hi hw)
       rw[S.tt,A9]at aG
       exact aG.2.2 pr (by simpa using hd) pr aH rfl
    obtain⟨rest,rfl⟩:=aj
    have hW:=S.wt
    unfold wT at hW
    rw[ho]at hW
    simp only at hW
    cases hd:yq n [] o.dst with
    |false=>rw[hd]at hW;exact hW.elim
    |true=>
     rw[hd,cond_true]at hW
     refine Jp (b:=b) S.sb.defers ?_
     refine zhy hW S.sb (qi _) B d λv d' h' hK=>⟨by rw[qg];exact S.sb.defers,λv2 bo=>?_⟩
     have bL:b.put o.dst v2=b.put o.dst v:=bo.symm
     have ay:∀j,j∈heavyL 0 ops.toList->((listed.setIfInBounds i true).getD j false=true↔j∈i::done):=λj hj=>by
      by_cases aN:j=i
      ·subst aN;rw[ae];simp
      ·rw[af j aN,S.ch j hj];simp[aN]
     have aT:zh0 ops (i::done) ops.size=false->∀k ok,ops[k]?=some ok->zp ok=true->(listed.setIfInBounds i true).getD k false=true:=λhl k ok O an=>by
      obtain⟨j,hj,hw⟩:=Zf (Jq hl k ok (Ac.1 O).1 O an)
      have aJ:(listed.setIfInBounds i true).getD j false=true:=by
       rcases Af.1 hj with rfl|hj
       ·exact ae
       ·exact getD_set_true ((S.ch j (by rw[S.tt];simp[hj])).2 hj)
      exact ya ak aJ hw
     have a6:wT P n ops h0 K (i::done) rest (putO e o.dst [] v) h'/\(∀k ok,ops[k]?=some ok->zp ok=true->(listed.setIfInBounds i true).getD k false=false->zx1 ok (b.put o.dst v).eval h0 h'):=by
      cases hl:zh0 ops (i::done) ops.size with
      |true=>
       rw[hl,cond_true]at hK
       refine⟨hK.2,λk ok O an hf=>?_⟩
       have bA:wq ops k (i::done)=false:=by
        cases ha:wq ops k (i::done)with
        |false=>rfl
        |true=>
         exfalso
         obtain⟨j,hj,hw⟩:=Zf ha
         have aJ:(listed.setIfInBounds i true).getD j false=true:=by
          rcases Af.1 hj with rfl|hj
          ·exact ae
          ·exact getD_set_true ((S.ch j (by rw[S.tt];simp[hj])).2 hj)
         rw[ya ak aJ hw]at hf;cases hf
       obtain⟨t,x,c,bC,hc,hb⟩:=zmp hK.1 k ok (Ac.1 O).1 O an bA
       unfold zx1
       rw[bC]
       intro c' bn
       have:=j6 (S.sb.putO hd (λ_=>rfl) λhv=>absurd (qi _) hv) (c:=[]) (qi _) hc
       rw[this]at bn
       cases bn;exact hb
      |false=>rw[hl,cond_false]at hK;exact⟨hK,λk ok O an hf=>by rw[aT hl k ok O an]at hf;cases hf⟩
     have aM:∀k ok t,ops[k]?=some ok->zf ok=true->ok.dst=some t->o.dst≠some t:=λk ok t O Z ax ar=>by
      have:=yf bu k i t (Ac.1 O).1 aa (by rw[zo O,ax]) (by rw[zo ho,ar])
      subst this
      have:ok=o:=Ax (O.symm.trans ho)
      subst this;rw[hq]at Z;cases Z
     refine ih _ _ _ (b.put o.dst v) (putO e o.dst [] v) h' d' (i::done) rest a7 am ap ⟨ak,λs hs=>?_,by rw[size_put];exact S.sz,by rw[qg];exact S.ad,S.sb.putO hd (λ_=>rfl) λhv=>absurd (qi _) hv,λk ok t O Z ax=>?_,λk ok O Z bG hh=>?_,by rw[S.tt];simp,ay,a6.1,a6.2,S.sm.trans (Same.put a o.dst _ λt ht=>Qc (by
      obtain⟨bp,e2⟩:=Ac.1 ho
      rw[<-e2];simp) t ht)⟩
     ·have bq:∀u,(∀k ok,ops[k]?=some ok->zf ok=true->listed.getD k false=false->ok.dst≠some s)->o.dst≠some s->zw (a.put o.dst u) s=zw (b.put o.dst v) s:=λu h1 h2=>by
       rw[zq h2,zq h2];exact S.ag s h1
      have bI:∀k ok,ops[k]?=some ok->zf ok=true->listed.getD k false=false->ok.dst≠some s:=λk ok O Z aO=>by
       by_cases ah:k=i
       ·subst ah
        have:ok=o:=Ax (O.symm.trans ho)
        subst this;rw[hq]at Z;cases Z
       ·exact hs k ok O Z (by rw[af k ah];exact aO)
      by_cases aS:o.dst=some s
      ·rw[<-bL,aS]
       have az:s<n:=by
        rw[aS]at hd
        unfold yq at hd
        simp at hd;exact hd.2
       rw[yc (by rw[S.sz];exact az),yc (by rw[S.sb.size];exact az)]
      ·exact bq v2 bI aS
     ·have:=S.qv k ok t O Z ax
      rw[zq (aM k ok t O Z ax)];exact this
     ·have aU:=aV k ok O
      have aY:∀t∈tmpsOf ok.op.operands.toList,zw (b.put o.dst v) t=zw b t:=λt ht=>by
       refine zq λar=>?_
       obtain⟨bM,bE⟩:=qw al k ok (Ac.1 O).1 O
       have hw:=qk bM i t aa (by rw[zo ho,ar]) ht
       exact bE Z i aQ hw t (by rw[zo ho,ar]) ht
      rw[yy (b:=b) aU.2 aY]
      exact S.qx k ok O Z bG (hh.imp id λr=>zfx (yx aY) r)
theorem mix_sound{K:Env->zb->Prop}{Q:Exit->Act->World->Prop}(B:World)(ac:mixB ops=true){e:Env}
  (H:wU P n h (λe'=>wT P n ops h K [] (heavyL 0 ops.toList) e' h) ops.toList e) (hs:Sat n e a)
  (hQ:∀e' a' d' h',Sat n e' a'->Same (je ops.toList) a a'->K e' h'->Q .normal a' (mk B d' h')) (d:Nat):wpAny P .any ops Q ops.size (Bm ops.size false) a (mk B d h):=by
 obtain⟨aC,af,ar,an,ae⟩:=Xm ac
 obtain⟨f,e1,HT,aj,hf⟩:=Y3 (k:=0) H hs
 have hl:∀(i:Nat) (o:Oper),ops[i]?=some o->ops.toList[i]?=some o:=λi o ho=>toL ho
 have O:∀i,qs 0 ops.toList f a=qs (0+(ops.toList.take i).length) (ops.toList.drop i) f (qs 0 (ops.toList.take i) f a):=λi=>by
  rw[<-Zh,Br]
 refine zsa B ac (f:=f) hQ ops.size (BJ ops.size) _ a (qs 0 ops.toList f a) e1 h d [] (heavyL 0 ops.toList) DY Dw (λk=>by rw[Cc,getD_replicate_false];simp) ⟨⟨by simp,λj oj _ hl=>(by rw[getD_replicate_false]at hl;cases hl),λt ht aA=>by omega⟩,λs au=>?_,hs.size,hs.defers,aj,λi o t ho hq hd=>?_,λi o ho hq h' hh=>?_,by simp,λj hj=>by rw[getD_replicate_false];simp,HT,λ_ _ _ _ _=>z2c _ _ _,Same.refl _ _⟩
 ·refine(yu λo ho hq=>?_).symm
  obtain⟨i,hi,e⟩:=Bc ho
  exact au i o (ofL (by rw[Am hi,e])) hq (getD_replicate_false _ _)
 ·obtain⟨h1,h2,h3⟩:=hf i o (hl i o ho) hq
  have ak:t<n:=by
   rw[hd]at h2
   unfold yq at h2
   simp at h2;exact h2.2
  refine⟨?_,ak⟩
  have aa:=(Ac.1 ho).1
  have al:(ops.toList.take i).length=i:=by simp;omega
  rw[O i,al,AH]
  have ap:ops.toList.drop i=o::ops.toList.drop (i+1):=by
   have:=(Az.1 (hl i o ho))
   rw[AE this.1,this.2]
  rw[ap]
  unfold qs
  rw[hq,cond_true,yu λo' ah ax ai=>?_]
  ·rw[hd,yc (by rw[Yc.1,hs.size];exact ak)]
  ·obtain⟨m,hm,em⟩:=Bc ah
   have Z:ops[i+1+m]?=some o':=by
    have:ops.toList[i+1+m]?=some o':=by rw[<-AJ,Am hm,em]
    exact ofL this
   have:=yf ar i (i+1+m) t aa (Ac.1 Z).1 (by rw[zo ho,hd]) (by rw[zo Z,ai])
   omega
 ·obtain⟨h1,h2,h3⟩:=hf i o (hl i o ho) hq
  have am:∀t∈tmpsOf o.op.operands.toList,zw (qs 0 ops.toList f a) t=zw (qs 0 (ops.toList.take i) f a) t:=λt ht=>by
   have aa:=(Ac.1 ho).1
   rw[O i]
   refine yu λo' ah ax ai=>?_
   obtain⟨m,hm,em⟩:=Bc ah
   have Z:ops[i+m]?=some o':=by
    have:ops.toList[i+m]?=some o':=by rw[<-AJ,Am hm,em]
    exact ofL this
   obtain⟨ay,_⟩:=qw ae i o aa ho
   have hw:=qk ay (i+m) t (Ac.1 Z).1 (by rw[zo Z,ai]) ht
   obtain⟨oj,az,x,hx,hb,aB⟩:=Region.waitsFor_spec hw
   have:=qm af i oj aa az x hx hb
   omega
  have:=h3 h' (hh.imp id λr=>zfx (yx am) r)
  rw[AH]at this
  rw[yy h1 am]
  exact this
end
end Go.X.U
end
section
namespace Go.X
section
variable {P:Program} {n id m i i5:Nat} {ops:Array Oper} {e:Env} {h:zb} {a:Act} {ro:Option Nat} {t:Array Value} {v:Value}
def Qp:Code->Nat->Array Oper
 |.region id ops _,i=>bif Nat.beq id i then ops else #[]
 |.seq x y,i=>bif Nat.beq (Qp x i).size 0 then Qp y i else Qp x i
 |.cond _ x y,i=>bif Nat.beq (Qp x i).size 0 then Qp y i else Qp x i
 |.block _ x,i=>Qp x i
 |.loop x,i=>Qp x i
 |.rangeFunc _ _ x y,i=>bif Nat.beq (Qp x i).size 0 then Qp y i else Qp x i
 |_,_=>#[]
def zjt(P:Program)(n:Nat)(ro:Nat->Array Oper):List Nat->(Env->zb->Prop)->Env->zb->Prop
 |[],K,e,h=>K e h
 |i::l,K,e,h=>wR P n (ro i) (λe' h'=>zjt P n ro l K e' h') (ro i).toList e h
def slotsOf(e:Env):List Nat->Option (List Value)
 |[]=>some []
 |i::l=>match ze3 e i,slotsOf e l with
  |some v,some vs=>some (v::vs)
  |_,_=>none
def qer(l:List Nat)(R:List Value->zb->Prop)(e:Env)(h:zb):Prop:=match slotsOf e l with
 |some vs=>R vs h
 |none=>False
def qax(P:Program)(n:Nat)(ops:Array Oper)(K:Env->zb->Prop)(e:Env)(h:zb):Prop:=
 bif U.mixB ops then U.wU P n h (λe'=>U.wT P n ops h K [] (U.heavyL 0 ops.toList) e' h) ops.toList e else False
def zrh(P:Program)(n:Nat)(ro:Nat->Array Oper)(ids:List Nat)(b:Nat)(C:zb->Prop)(g:zb->zb)(R:zb->Prop)(e:Env)(h:zb):Prop:=
 zjt P n ro ids (λe1 h1=>C h1/\qax P n (ro b) (λ_ h2=>R h2) e1 (g h1)) e h
theorem zvy{K:Env->zb->Prop}(H:qax P n ops K e h)(B:World)(hs:Sat n e a){R:Act->World->Prop}
  (hQ:∀e' a' d' h',Sat n e' a'->K e' h'->R a' (mk B d' h')) (d:Nat):wpAny P .any ops (zk7 R) ops.size (Bm ops.size false) a (mk B d h):=by
 unfold qax at H
 cases hB:U.mixB ops with
 |false=>rw[hB]at H;exact H.elim
 |true=>
  rw[hB]at H
  exact U.mix_sound B hB H hs (λe' a' d' h' q1 q2 q3=>hQ e' a' d' h' q1 q3) d
theorem z2d{K:Env->zb->Prop}(H:wR P n ops K ops.toList e h)(B:World)(d:Nat)(hs:Sat n e a){Q:Exit->Act->World->Prop}
  (hQ:∀e' a' d' h',Sat n e' a'->K e' h'->Q .normal a' (mk B d' h')):(Db id ops false).wp P Q a (mk B d h):=
 wp_region_list (Wg B _ _ _ _ _ H hs λe' a' d' h' q1 q2 q3=>hQ e' a' d' h' q1 q3)
theorem z8g(hd:ops.toList.all jo=true){K:Env->zb->Prop}(H:wR P n ops K ops.toList e h)(B:World)(d:Nat)(hs:Sat n e a){Q:Exit->Act->World->Prop}
  (hQ:∀e' a' d' h',Sat n e' a'->K e' h'->Q .normal a' (mk B d' h')):(Db id ops false).wpIn (rf ro) m P Q a (mk B d h):=by
 refine wpIn_region_list ?_
 rw[<-Bf ops.toList]
 exact zjs (K:=λa' w'=>Q .normal a' w') ops.toList [] _ _ hd (Wg B _ _ _ _ _ H hs λe' a' d' h' q1 q2 q3=>hQ e' a' d' h' q1 q3) λa w h=>h
theorem qay(hm:P.follows .mixedOrders=true)(hd:ops.toList.all jo=true){K:Env->zb->Prop}(H:qax P n ops K e h)(B:World)(d:Nat)(hs:Sat n e a){Q:Exit->Act->World->Prop}
  (hQ:∀e' a' d' h',Sat n e' a'->K e' h'->Q .normal a' (mk B d' h')):(Db id ops true).wpIn (rf ro) m P Q a (mk B d h):=by
 have h1:(Db id ops true).wpIn (rf ro) m P (zk7 λa' w'=>Q .normal a' w') a (mk B d h):=by
  refine wpIn_region_any hm (zvw (λi o ho=>?_) _ _ _ _ (zvy H B hs hQ (d+1)))
  rw[AQ]at hd
  obtain⟨O,e⟩:=Ac.1 ho
  exact hd o (by rw[<-e];simp)
 exact wpIn_mono h1 λx a' w' hx=>by
  cases x with
  |normal=>exact hx
  |_=>exact hx.elim
theorem z6o(hm:P.follows .mixedOrders=true){K:Env->zb->Prop}(H:qax P n ops K e h)(B:World)(d:Nat)(hs:Sat n e a)(D:List Deferred){Q:Exit->Act->World->Prop}
  (hQ:∀e' a' d' h',Sat n e' a'->K e' h'->Q .normal (zor D a') (mk B d' h')):(Db id ops true).wp P Q (zor D a) (mk B d h):=by
 have h1:=wp_region_any (id:=id) (w:=mk B d h) (a:=zor D a) hm (zos (D:=D) _ _ _ _ (zvy (R:=λa' w'=>∃e' d' h',w'=mk B d' h'/\Sat n e' a'/\K e' h') H B hs (λe' a' d' h' q1 q2=>⟨e',d',h',rfl,q1,q2⟩) (d+1)))
 exact wp_mono h1 λx a' w' hx=>by
  cases x with
  |normal=>obtain⟨a0,rfl,e',d',h',rfl,q1,q2⟩:=hx;exact hQ e' a0 d' h' q1 q2
  |_=>exact hx.elim
theorem zri(hd:a.defers=[])(hz:a.tmps.size=n)(hf:∀x∈e,x.2.1=[]/\zw a x.1=x.2.2):Sat n e a:=
 ⟨hd,hz,λx hx=>by
  obtain⟨h1,h2⟩:=hf x hx
  unfold fact
  rw[h1]
  exact⟨λ_=>h2,λhn=>absurd trivial hn⟩⟩
theorem zou{i j:Nat}{D:List Deferred}(h:j≠i):zw { tmps:=t.setIfInBounds i v,defers:=D } j=zw { tmps:=t,defers:=D } j:=by
 unfold zw
 simp only[Bq]
 rw[AL (Ne.symm h)]
theorem zep{D:List Deferred}(h:i<t.size):zw { tmps:=t.setIfInBounds i v,defers:=D } i=v:=by
 unfold zw
 simp only[Bq]
 rw[Array.getElem?_setIfInBounds_self_of_lt h];rfl
abbrev Rec:=LoopState->Option Code->Loop
theorem qfu(hm:P.follows .mixedOrders=true){n l p1 p2:Nat}{ro:Nat->Array Oper}{i3 i4 i5 b1:Nat}{fn:FuncId}{tmps:Array Value}{D:Nat}(aj:p1≠p2)(an:p1<n)(am:p2<n)(hz:tmps.size=n)
  (ak:(ro i3).toList.all jo=true) (ai:(ro i4).toList.all jo=true) (ae:(ro i5).toList.all jo=true)
  {rec:Rec} (O:rec=λst pe=>{ state:=st,pending:=pe,fn:=fn,tmps:=tmps,params:=#[p1,p2],assign:=.seq (.region i3 (ro i3) false) (.region i4 (ro i4) false),body:=.block b1 (.region i5 (ro i5) true),defers:=D })
  {v1 v2:Value} (he:∀x∈e,x.2.1=[]/\x.1≠p1/\x.1≠p2/\tmps.getD x.1 undef=x.2.2) (hl:h[l]?=some (.loop (rec .ready none))) {K:Value->zb->Prop}
  (H:zrh P n ro [i3,i4] i5 (λh1=>h1[l]?=some (.loop (rec .ready none))) (λh1=>h1.setIfInBounds l (.loop (rec .busy none)))
   (λh2=>h2[l]?=some (.loop (rec .busy none))/\K (.bool true) (h2.setIfInBounds l (.loop (rec .ready none)))) ((p1,[],v1)::(p2,[],v2)::e) h):YX P l #[v1,v2] h K:=by
 intro m B d
 have af:(mk B d h).heap[l]?=some (.loop (rec .ready none)):=hl
 have hy:=run_yield (P:=P) (w:=mk B d h) (args:=#[v1,v2]) af (by rw[O];rfl)
 refine⟨_,_,_,_,hy,?_⟩
 rw[O]at hy ⊢
 have key:RoundIn (rf none) m P l fn ((tmps.setIfInBounds p1 v1).setIfInBounds p2 v2) (.seq (.region i3 (ro i3) false) (.region i4 (ro i4) false)) (.block b1 (.region i5 (ro i5) true)) (mk B d h) (λe w'=>∃v d' h',e=.returned v/\w'=mk B d' h'/\K v h'):=by
  refine roundIn_of_wpIn (F:=rf none) trivial ?_
  have hF:(rf none).inRound l=rf (some l):=rfl
  rw[hF]
  have hs:Sat n ((p1,[],v1)::(p2,[],v2)::e) { tmps:=(tmps.setIfInBounds p1 v1).setIfInBounds p2 v2,defers:=[] }:=by
   refine zri rfl (by simp[hz]) ?_
   intro x hx
   rcases Af.1 hx with rfl|hx
   ·exact⟨rfl,by rw[zou aj];exact zep (by omega)⟩
   ·rcases Af.1 hx with rfl|hx
    ·exact⟨rfl,zep (by simp;omega)⟩
    ·obtain⟨q1,q2,q3,q4⟩:=he x hx
     exact⟨q1,by rw[zou q3,zou q2];exact q4⟩
  unfold zrh zjt zjt zjt at H
  refine wpIn_seq (z8g ak H B d hs λe1 a1 d1 h1 s1 k1=>?_)
  show(Db i4 (ro i4) false).wpIn (rf (some l)) m P _ a1 (mk B d1 h1)
  refine z8g ai k1 B d1 s1 λe2 a2 d2 h2 s2 k2=>?_
  obtain⟨k3,k4⟩:=k2
  have al:(mk B d2 h2).heap[l]?=some (.loop (rec .ready none)):=k3
  have hb:=run_beginRound (P:=P) al (by rw[O])
  refine⟨_,hb,?_⟩
  have Z:({ rec .ready none with state:=.busy }:Loop)=rec .busy none:=by rw[O]
  rw[Z]
  show(Code.block b1 (.region i5 (ro i5) true)).wpIn (rf (some l)) m P _ a2 (mk B d2 (h2.setIfInBounds l (.loop (rec .busy none))))
  refine wpIn_block (qay hm ae k4 B d2 s2 λe3 a3 d3 h3 s3 k5=>?_)
  obtain⟨k6,k7⟩:=k5
  have ac:(mk B d3 h3).heap[l]?=some (.loop (rec .busy none)):=k6
  have aa:=run_endRound (P:=P) none ac
  simp only[Exit.inBlock]
  refine⟨_,_,aa,.bool true,d3,h3.setIfInBounds l (.loop (rec .ready none)),rfl,?_,k7⟩
  have ah:({ rec .busy none with state:=if(none:Option Code).isNone then .ready else .done,pending:=none }:Loop)=rec .ready none:=by rw[O];rfl
  rw[ah];rfl
 show RoundIn (rf none) m P l fn (Array.foldl (λ(t:Array Value) (x:Tmp×Value)=>t.setIfInBounds x.1 x.2) tmps (#[p1,p2].zip #[v1,v2])) _ _ _ _
 have zs:Array.foldl (λ(t:Array Value) (x:Tmp×Value)=>t.setIfInBounds x.1 x.2) tmps (#[p1,p2].zip #[v1,v2])=(tmps.setIfInBounds p1 v1).setIfInBounds p2 v2:=by simp
 rw[zs]
 exact key
theorem qdx{i1 i2 i5 i7 Z:Nat}{R:List Value->zb->Prop}(H:qer [i1,i2,i5,i7,Z] R e h):∃v1 v2 v5 v7 O,ze3 e i1=some v1/\ze3 e i2=some v2/\ze3 e i5=some v5/\ze3 e i7=some v7/\ze3 e Z=some O/\R [v1,v2,v5,v7,O] h:=by
 unfold qer at H
 split at H
 ·rename_i vs hv
  simp only[slotsOf]at hv
  split at hv
  ·rename_i v1 ai h1 r1
   split at r1
   ·rename_i v2 aj h2 r2
    split at r2
    ·rename_i v5 ah h5 r5
     split at r5
     ·rename_i v7 af h7 r7
      split at r7
      ·rename_i O ae aa ac
       cases ac;cases r7;cases r5;cases r2;cases r1;cases hv
       exact⟨v1,v2,v5,v7,O,h1,h2,h5,h7,aa,H⟩
      ·cases r7
     ·cases r5
    ·cases r2
   ·cases r1
  ·cases hv
 ·exact H.elim
def qaz(P:Program)(n:Nat)(ro:Nat->Array Oper)(i6:Nat)(rs:List ResultVar)(D:Nat)(R:Value->zb->Prop)(e:Env)(h:zb):Prop:=
 qax P n (ro i6) (λe h1=>h1[D]?=some (.deferred (some []))/\z3n P (h1.setIfInBounds D (.deferred none)) e rs λvs=>R (zkn vs) (h1.setIfInBounds D (.deferred none))) e h
theorem z6p(hm:P.follows .mixedOrders=true){f:FuncId}{fn:Func}{ro:Nat->Array Oper}{rs:List ResultVar}(hf:P.funcs[f]?=some fn)
  (hb:fn.body=some (.seq (.region 0 (ro 0) false) (.seq (.region 1 (ro 1) false) (.seq (.seq (.region 2 (ro 2) false) (.block 0 (.rangeFunc (.tmp 12) #[13,14] (.seq (.region 3 (ro 3) false) (.region 4 (ro 4) false)) (.block 1 (.region 5 (ro 5) true))))) (.seq (.region 6 (ro 6) true) .ret)))))
  (az:(ro 3).toList.all jo=true) (au:(ro 4).toList.all jo=true) (al:(ro 5).toList.all jo=true) (hr:fn.results.toList=rs) (hn:fn.ntmps=n) (aE:15<=n) (vs:List Value) (hz:Nat.ble vs.length n=true) {R:Value->zb->Prop}
  (H:zjt P n ro [0,1,2] (qer [1,2,5,7,12] λl h1=>∃v1 v2 v5 v7 g lb,l=[v1,v2,v5,v7,.func (.func g) #[] lb]/\qp P g=true /\
   ∀rec:Rec,(∀{Z aa:Value} {h2:zb} {K:Value->zb->Prop},h2[h1.size+1]?=some (.loop (rec .ready none)) ->
     zrh P n ro [3,4] 5 (λh3=>h3[h1.size+1]?=some (.loop (rec .ready none))) (λh3=>h3.setIfInBounds (h1.size+1) (.loop (rec .busy none)))
      (λh4=>h4[h1.size+1]?=some (.loop (rec .busy none))/\K (.bool true) (h4.setIfInBounds (h1.size+1) (.loop (rec .ready none)))) [(13,[],Z),(14,[],aa),(2,[],v2),(7,[],v7)] h2->YX P (h1.size+1) #[Z,aa] h2 K) ->
    XCI P g (#[.func (.yield (h1.size+1)) #[] #[]]++lb) ((h1.push (.deferred (some []))).push (.loop (rec .ready none))) λ_ h5=>h5[h1.size+1]?=some (.loop (rec .ready none)) /\
     qaz P n ro 6 rs h1.size R [(1,[],v1),(2,[],v2),(5,[],v5),(7,[],v7)] (h5.setIfInBounds (h1.size+1) (.loop (rec .exhausted none)))) (zy0 0 vs) h):XC P f vs.toArray h R:=by
 intro B d
 refine callsIn_wide.1 (callsIn_of_wp_marks (F:=Fence.wide) (n:=1) hf hb trivial ?_ rfl)
 subst hn
 have aG:vs.length<=fn.ntmps:=BS hz
 have hs:Sat fn.ntmps (zy0 0 vs) { tmps:=vs.toArray++Bm (fn.ntmps-vs.toArray.size) undef,defers:=[] }:=by
  refine⟨rfl,by simp;omega,?_⟩
  refine zaq vs.toArray _ vs 0 λj v hj=>?_
  have ay:j<vs.length:=by
   rcases AZ j vs.length with h|h
   ·exact h
   ·rw[Bu h]at hj;cases hj
  simp only[AH,Bq]
  rw[CN (by simpa using ay)]
  simp[hj]
 unfold zjt zjt zjt zjt at H
 refine wpIn_seq (wpIn_wide.2 (z2d H B d hs λe1 a1 d1 h1 s1 k1=>?_))
 show Code.wpIn Fence.wide 1 P _ _ a1 (mk B d1 h1)
 refine wpIn_seq (wpIn_wide.2 (z2d k1 B d1 s1 λe2 a2 d2 h2 s2 k2=>?_))
 show Code.wpIn Fence.wide 1 P _ _ a2 (mk B d2 h2)
 refine wpIn_seq (wpIn_seq (wpIn_wide.2 (z2d k2 B d2 s2 λe3 a3 d3 h3 s3 k3=>?_)))
 show Code.wpIn Fence.wide 1 P _ _ a3 (mk B d3 h3)
 obtain⟨u1,u2,u5,u7,aF,q1,q2,q5,q7,ak,v1,v2,v5,v7,g,lb,hl,hg,HR⟩:=qdx k3
 simp only[Cq,and_true]at hl
 obtain⟨rfl,rfl,rfl,rfl,rfl⟩:=hl
 have w1:=wb s3 q1
 have w2:=wb s3 q2
 have w5:=wb s3 q5
 have w7:=wb s3 q7
 have aD:=wb s3 ak
 refine wpIn_block (wpIn_rangeFunc λan _=>?_)
 obtain⟨rec,O⟩:∃rec:Rec,rec=λst pe=>{ state:=st,pending:=pe,fn:=an,tmps:=a3.tmps,params:=#[13,14],assign:=.seq (.region 3 (ro 3) false) (.region 4 (ro 4) false),body:=.block 1 (.region 5 (ro 5) true),defers:=h3.size }:=⟨_,rfl⟩
 have aA:=HR rec (λ {Z aa h2 K} hl aC=>qfu hm (by decide) (by omega) (by omega) s3.size az au al O (λx hx=>by
  rcases Af.1 hx with rfl|hx
  ·exact⟨rfl,(by show(2:Nat)≠13;decide),(by show(2:Nat)≠14;decide),w2⟩
  ·rw[Be]at hx;subst hx;exact⟨rfl,(by show(7:Nat)≠13;decide),(by show(7:Nat)≠14;decide),w7⟩) hl aC)
 have af:a3.eval (.tmp 12)=.func (.func g) #[] lb:=aD
 refine⟨h3.size+1,[{ target:=.collected h3.size,args:=#[] }],mk B d3 ((h3.push (.deferred (some []))).push (.loop (rec .ready none))),{ target:=.fn (.func g) lb,args:=#[.func (.yield (h3.size+1)) #[] #[]] },mk B d3 ((h3.push (.deferred (some []))).push (.loop (rec .ready none))),g,
  #[.func (.yield (h3.size+1)) #[] #[]]++lb,mk B d3 ((h3.push (.deferred (some []))).push (.loop (rec .ready none))),?_,?_,λ_ _=>trivial,?_,λ_=>Ae _,?_⟩
 ·rw[O];exact run_enterLoop_outer _ _ _ _ _
 ·simp only[resolve,af]
  simp[go_sem,Eh]
 ·simp only[invoke]
  exact Xl hg _ _
 ·have hc:=aA 0 B d3
  refine CallsIn.mono (F:=Fence.wide) hc ?_
  rintro e' w' ⟨v,d5,h5,rfl,rfl,am,ht⟩
  have ae:(mk B d5 h5).heap[h3.size+1]?=some (.loop (rec .ready none)):=am
  have ah:(Instr.endLoop (h3.size+1)).run P (mk B d5 h5)=.ok none (mk B d5 (h5.setIfInBounds (h3.size+1) (.loop (rec .exhausted none)))):=by
   have:=run_endLoop (P:=P) ae (by rw[O];intro hx;cases hx)
   rw[O]at this ⊢
   exact this
  refine⟨none,_,ah,?_⟩
  simp only[Exit.inBlock]
  show Code.wpIn Fence.wide 1 P (.seq (.region 6 (ro 6) true) .ret) _ _ (mk B d5 (h5.setIfInBounds (h3.size+1) (.loop (rec .exhausted none))))
  have ar:Sat fn.ntmps [(1,[],u1),(2,[],u2),(5,[],u5),(7,[],u7)] a3:=zri s3.defers s3.size λx hx=>by
   simp only[Af,List.not_mem_nil,or_false]at hx
   rcases hx with rfl|rfl|rfl|rfl
   ·exact⟨rfl,w1⟩
   ·exact⟨rfl,w2⟩
   ·exact⟨rfl,w5⟩
   ·exact⟨rfl,w7⟩
  have ha:({ a3 with defers:=[{ target:=.collected h3.size,args:=#[] }]++a3.defers }:Act)=zor [{ target:=.collected h3.size,args:=#[] }] a3:=by
   unfold zor;rw[s3.defers];rfl
  rw[ha]
  refine wpIn_seq (wpIn_wide.2 (z6o hm ht B d5 ar _ λe6 a6 d6 h6 s6 k6=>?_))
  show Code.wpIn Fence.wide 1 P .ret _ _ (mk B d6 h6)
  refine wpIn_ret ?_
  obtain⟨hD,ac⟩:=k6
  obtain⟨v',ax,aB⟩:=Yj s6 hr ac
  have aj:(mk B d6 h6).heap[h3.size]?=some (.deferred (some [])):=hD
  have ai:=run_takeDeferred (P:=P) aj
  have ap:(zor [{ target:=.collected h3.size,args:=#[] }] a6).defers=[{ target:=.collected h3.size,args:=#[] }]:=by unfold zor;rw[s6.defers];rfl
  show LeavesInM _ _ _ _ _ _ (zor [{ target:=.collected h3.size,args:=#[] }] a6).defers _ _
  rw[ap]
  exact⟨by simp,.inl ⟨_,_,rfl,ai,v',aB B d6,v',d6,h6.setIfInBounds h3.size (.deferred none),rfl,rfl,ax⟩⟩
end
section
theorem zfy(al:Nat)(c1:Addr)(c2:Addr)(h:zb)(R:Value->zb->Prop)
  (H:∃ak:Sl,zk h c1=some (.slice ak.a ak.len ak.cap)/\∃(aF:Int->zb->Prop) (aJ:Int->zb->Nat),aF 0 h/\∀ai:Int,∀ay:zb,aF ai ay->(((decide ((ai:Int)<((ak.len:Nat):Int)))=true->∃aI:Addr,(ak.a=some aI/\0<=(ai:Int)/\(ai:Int)<((ak.len:Nat):Int))/\∃aB:Bt,zk ay (aI.add ((ai:Int).toNat*1))=some (.string aB)/\∃aA:Int,∃aC:Bt,∃ac:Sl,∃af:Sl,ze ay c2 0 [.int .i64 aA,.string aC,.slice ac.a ac.len ac.cap,.slice af.a af.len af.cap]/\XC Tp 117 #[.agg #[.int .i64 aA,.string aC,.slice ac.a ac.len ac.cap,.slice af.a af.len af.cap],.string aB] ay (λaH ap=>∃O:Int,aH=.int .i64 O/\((decide ((O:Int)<0))=true->R (.tuple #[]) ap)/\((decide ((O:Int)<0))=false->∃aj:Sl,zk ap (Aj c2 3)=some (.slice aj.a aj.len aj.cap)/\∃aE:Addr,(aj.a=some aE/\0<=(O:Int)/\(O:Int)<((aj.len:Nat):Int))/\∃an:Int,∃au:Bt,∃Z:Sl,∃ae:Sl,ze ap (aE.add ((O:Int).toNat*4)) 0 [.int .i64 an,.string au,.slice Z.a Z.len Z.cap,.slice ae.a ae.len ae.cap]/\XRunU Tp (Ai 25 (.pointer (some c2)) (.agg #[.int .i64 an,.string au,.slice Z.a Z.len Z.cap,.slice ae.a ae.len ae.cap])) ap (λaD=>∃ax:Int,∃ar:Bt,∃aa:Sl,∃ah:Sl,ze aD c2 0 [.int .i64 ax,.string ar,.slice aa.a aa.len aa.cap,.slice ah.a ah.len ah.cap]/\YX Tp al #[.int .i64 O,.agg #[.int .i64 ax,.string ar,.slice aa.a aa.len aa.cap,.slice ah.a ah.len ah.cap]] aD (λaG az=>∃am:Bool,aG=.bool am/\((!am)=true->R (.tuple #[]) az)/\((!am)=false->(aF (Aa .i64 (ai+1)) az/\aJ (Aa .i64 (ai+1)) az<aJ ai ay)))))))/\((decide ((ai:Int)<((ak.len:Nat):Int)))=false->R (.tuple #[]) ay))):
  XCI Tp 116 #[.func (.yield al) #[] #[],.pointer (some c1),.pointer (some c2)] h R:=
 ztj Tryz.mixed ⟨[],[(1,[(9,.one (.int .i64))])],[]⟩ [.func (.yield al) #[] #[],.pointer (some c1),.pointer (some c2)] (rs:=[]) (n:=29) Tryz.func116 (by kernel_rfl) (by kernel_rfl) (by kernel_rfl) (by kernel_rfl) (Eq.mp (by kernel_rfl) H)
theorem zg2(ak:Int)(aj:Bt)(ae:Sl)(ac:Sl)(O:Sl)(h:zb)(R:List Value->zb->Prop)
  (H:let an:zb:=E9 h (.cells #[.int .i64 ak,.string aj,.slice ae.a ae.len ae.cap,.slice ac.a ac.len ac.cap] 25);let am:zb:=E9 an (.cells #[.int .i64 0,.string (⟨#[]⟩:Bt),.slice none 0 0,.slice none 0 0] 25);let al:zb:=E9 am (.cells #[.slice none 0 0] 64);∃ai:Int,∃ah:Bt,∃Z:Sl,∃aa:Sl,ze al ⟨C6 h,0,none⟩ 0 [.int .i64 ai,.string ah,.slice Z.a Z.len Z.cap,.slice aa.a aa.len aa.cap]/\XC Tp 77 #[.agg #[.int .i64 ai,.string ah,.slice Z.a Z.len Z.cap,.slice aa.a aa.len aa.cap],.slice O.a O.len O.cap] al (λap ar=>∃af:Value,ap=af/\R [.slice O.a O.len O.cap,.pointer (some ⟨C6 h,0,none⟩),.pointer (some ⟨C6 an,0,none⟩),.pointer (some ⟨C6 am,0,none⟩),af] ar)):
  zjt Tp 27 (Qp (codeOf Tryz.f43)) [0,1,2] (qer [1,2,5,7,12] R) [(0,[],.agg #[.int .i64 ak,.string aj,.slice ae.a ae.len ae.cap,.slice ac.a ac.len ac.cap]),(1,[],.slice O.a O.len O.cap)] h:=
 Eq.mp (by kernel_rfl) H
theorem zg3(au:Int)(ak:Int)(am:Bt)(af:Sl)(ah:Sl)(x2:Addr)(x7:Addr)(h:zb)(C:zb->Prop)(g:zb->zb)(R:zb->Prop)
  (H:let ax:zb:=E9 h (.cells #[.int .i64 0,.string (⟨#[]⟩:Bt),.slice none 0 0,.slice none 0 0] 25);XRunU Tp (Ai 25 (.pointer (some ⟨C6 h,0,none⟩)) (.agg #[.int .i64 ak,.string am,.slice af.a af.len af.cap,.slice ah.a ah.len ah.cap])) ax (λae=>C ae/\∃ac:Sl,zk (g ae) x7=some (.slice ac.a ac.len ac.cap)/\∃ai:Int,∃aj:Bt,∃aa:Sl,∃O:Sl,ze (g ae) ⟨C6 h,0,none⟩ 0 [.int .i64 ai,.string aj,.slice aa.a aa.len aa.cap,.slice O.a O.len O.cap]/\let al:zb:=E9 (g ae) (.cells #[.int .i64 au] 3);((al)[(⟨C6 h,0,none⟩:Addr).block]?=((g ae))[(⟨C6 h,0,none⟩:Addr).block]?/\(al)[(x7:Addr).block]?=((g ae))[(x7:Addr).block]?/\True)/\XRun Tp (Au #[64,64] 64 #[.slice ac.a ac.len ac.cap,.slice (some ⟨C6 (g ae),0,none⟩) 1 1]) al (λar an=>∃Z:Sl,ar=.slice Z.a Z.len Z.cap/\((an)[(⟨C6 h,0,none⟩:Addr).block]?=((g ae))[(⟨C6 h,0,none⟩:Addr).block]?/\True)/\XRunU Tp (Ai 64 (.pointer (some x7)) (.slice Z.a Z.len Z.cap)) an (λap=>((ap)[(⟨C6 h,0,none⟩:Addr).block]?=((g ae))[(⟨C6 h,0,none⟩:Addr).block]?/\True)/\XRunU Tp (Ai 25 (.pointer (some x2)) (.agg #[.int .i64 ai,.string aj,.slice aa.a aa.len aa.cap,.slice O.a O.len O.cap])) ap (λay=>R ay))))):
  zrh Tp 27 (Qp (codeOf Tryz.f43)) [3,4] 5 C g R [(13,[],.int .i64 au),(14,[],.agg #[.int .i64 ak,.string am,.slice af.a af.len af.cap,.slice ah.a ah.len ah.cap]),(2,[],.pointer (some x2)),(7,[],.pointer (some x7))] h:=
 Eq.mp (by kernel_rfl) H
theorem zg4(x1:Sl)(x2:Addr)(x5:Addr)(x7:Addr)(h:zb)(C:zb->Prop)(g:zb->zb)(R:Value->zb->Prop)
  (H:∃aa:Sl,zk h x7=some (.slice aa.a aa.len aa.cap)/\∃ah:Int,∃aj:Bt,∃O:Sl,∃Z:Sl,ze h x2 0 [.int .i64 ah,.string aj,.slice O.a O.len O.cap,.slice Z.a Z.len Z.cap]/\∃ac:Sl,zk h x7=some (.slice ac.a ac.len ac.cap)/\XRunU Tp (Ai 25 (.pointer (some x5)) (.agg #[.int .i64 ah,.string aj,.slice O.a O.len O.cap,.slice Z.a Z.len Z.cap])) h (λai=>((ai)[(x7:Addr).block]?=(h)[(x7:Addr).block]?/\True)/\C ai/\∃al:Int,∃ak:Bt,∃ae:Sl,∃af:Sl,ze (g ai) x5 0 [.int .i64 al,.string ak,.slice ae.a ae.len ae.cap,.slice af.a af.len af.cap]/\R (.tuple #[.slice aa.a aa.len aa.cap,.agg #[.int .i64 al,.string ak,.slice ae.a ae.len ae.cap,.slice af.a af.len af.cap],.bool ((((ac.len:Nat):Int):Int)==((x1.len:Nat):Int))]) (g ai))):
  qax Tp 27 ((Qp (codeOf Tryz.f43)) 6) (λe h1=>C h1/\z3n Tp (g h1) e [.tmp 4,.cell 5 25,.tmp 6] λvs=>R (zkn vs) (g h1)) [(1,[],.slice x1.a x1.len x1.cap),(2,[],.pointer (some x2)),(5,[],.pointer (some x5)),(7,[],.pointer (some x7))] h:=
 Eq.mp (by kernel_rfl) H
end
section
variable {h0 g g' h:zb} {M:Fr} {sp sk si:Sl} {w:Tr}
theorem qa0:ElemT Tp 64 3 (.int .i64 0) 1 8:=⟨by kernel_rfl,⟨Tryz.t3,by kernel_rfl,by kernel_rfl,by kernel_rfl,by kernel_rfl⟩,rfl,by omega⟩
theorem qdy:jb Tp 64=true:=by kernel_rfl
theorem qdz:ja Tp 64=1:=by kernel_rfl
def zyh(l:List Int):List Value:=l.map (E5 .i64)
structure LI (h0:zb) (M:Fr) (rec:Rec) (sp:Sl) (w x:Tr) (os:List Int) (g:zb):Prop where
 keep:Keep h0.size h0 g
 size:h0.size+7<=g.size
 v:∃sk si,Blk g h0.size (zd w.kind w.text sk si).toArray/\Rd M (.row .str) w.keys [slV sk]/\Rd M (.row .tree) w.items [slV si]
 z:Blk g (h0.size+1) (zd 0 ⟨#[]⟩ ⟨none,0,0⟩ ⟨none,0,0⟩).toArray
 o:∃so,Blk g (h0.size+2) #[slV so]/\Owns g (h0.size+7) 3 1 so (zyh os)/\so.len=os.length
 c:∃sk si,Blk g (h0.size+3) (zd x.kind x.text sk si).toArray/\Rd M (.row .str) x.keys [slV sk]/\Rd M (.row .tree) x.items [slV si]
 p:Blk g (h0.size+4) #[slV sp]
 d:g[h0.size+5]?=some (.deferred (some []))
 l:g[h0.size+6]?=some (.loop (rec .ready none))
theorem LI.frame{rec:Rec}{w x:Tr}{os:List Int}(I:LI h0 M rec sp w x os g)(k:Keep g.size g g'):LI h0 M rec sp w x os g':=by
 have hs:=I.size
 have hk:=k.size
 obtain⟨sk,si,v1,v2,v3⟩:=I.v
 obtain⟨so,o1,o2,o3⟩:=I.o
 obtain⟨tk,ti,c1,c2,c3⟩:=I.c
 exact⟨⟨by have:=I.keep.size;omega,λi hi=>(k.get i (by omega)).trans (I.keep.get i hi)⟩,by omega,⟨sk,si,v1.ofKeep k,v2,v3⟩,I.z.ofKeep k,⟨so,o1.ofKeep k,o2.keepN k,o3⟩,⟨tk,ti,c1.ofKeep k,c2,c3⟩,I.p.ofKeep k,by rw[k.get _ (by omega)];exact I.d,by rw[k.get _ (by omega)];exact I.l⟩
theorem Jg{l i:Nat}{o:Obj}(hi:i≠l):(h.setIfInBounds l o)[i]?=h[i]?:=AL (Ne.symm hi)
theorem zrj{l:Nat}{o:Obj}(hl:l<h.size):(h.setIfInBounds l o)[l]?=some o:=Array.getElem?_setIfInBounds_self_of_lt hl
set_option maxRecDepth 100000 in
set_option maxHeartbeats 2000000 in
theorem z6q{rec:Rec}{w x:Tr}{os:List Int}(I:LI h0 M rec sp w x os h)(r:Int)(aN:os.length<1000000)(hk:Rd M (.row .str) x.keys [slV sk])(hi:Rd M (.row .tree) x.items [slV si]){K:Value->zb->Prop}
  (hK:∀h',LI h0 M rec sp x x (os++[r]) h'->K (.bool true) h'):
  zrh Tp 27 (Qp (codeOf Tryz.f43)) [3,4] 5 (λh3=>h3[h0.size+6]?=some (.loop (rec .ready none))) (λh3=>h3.setIfInBounds (h0.size+6) (.loop (rec .busy none)))
   (λh4=>h4[h0.size+6]?=some (.loop (rec .busy none))/\K (.bool true) (h4.setIfInBounds (h0.size+6) (.loop (rec .ready none))))
   [(13,[],.int .i64 r),(14,[],.agg #[.int .i64 x.kind,.string x.text,.slice sk.a sk.len sk.cap,.slice si.a si.len si.cap]),(2,[],.pointer (some ⟨h0.size,0,none⟩)),(7,[],.pointer (some ⟨h0.size+2,0,none⟩))] h:=by
 have hs:=I.size
 obtain⟨so,o1,o2,o3⟩:=I.o
 obtain⟨vk,vi,v1,v2,v3⟩:=I.v
 obtain⟨ck,ci,c1,c2,c3⟩:=I.c
 have ae:∀p,so.a=some p->h0.size+7<=p.block/\p.block<h.size:=λp hp=>o2.base_le p hp
 refine zg3 r x.kind x.text sk si ⟨h0.size,0,none⟩ ⟨h0.size+2,0,none⟩ h _ _ _ ?_
 intro ai
 have aL:ai.size=h.size+1:=Ak _
 have au:Keep h.size h ai:=Keep.push _ _ (Ae _)
 have aD:Blk ai h.size (zd 0 ⟨#[]⟩ ⟨none,0,0⟩ ⟨none,0,0⟩).toArray:=Blk.new _ _ _
 clear_value ai
 refine qa aD rfl _ _ _ _ λap ay aM aF=>?_
 have an:∀i,i<h.size->ap[i]?=h[i]?:=λi hi=>(aF i (by omega)).trans (au.get i hi)
 refine⟨by rw[an _ (by omega)];exact I.l,?_⟩
 generalize hG:ap.setIfInBounds (h0.size+6) (.loop (rec .busy none))=G
 have zG:G.size=h.size+1:=by rw[<-hG,Cf];omega
 have gG:∀i,i<h.size->i≠h0.size+6->G[i]?=h[i]?:=λi hi hn=>by rw[<-hG,Jg hn];exact an i hi
 have lG:G[h0.size+6]?=some (.loop (rec .busy none)):=by rw[<-hG];exact zrj (by omega)
 have bG:Blk G h.size (zd x.kind x.text sk si).toArray:=ay.keep (by rw[<-hG,Jg (by omega)])
 have oG:Blk G (h0.size+2) #[slV so]:=o1.keep (gG _ (by omega) (by omega))
 refine⟨so,oG.cell (o:=0) rfl,x.kind,x.text,sk,si,bG.ld (cs:=zd x.kind x.text sk si),?_⟩
 intro O
 have aG:O.size=h.size+2:=by show(G.push _).size=_;rw[Ak,zG]
 have aa:Keep G.size G O:=Keep.push _ _ (Ae _)
 have aE:Blk O G.size #[.int .i64 r]:=Blk.new _ _ _
 clear_value O
 refine⟨⟨aa.get _ (by show h.size<_;omega),aa.get _ (by show h0.size+2<_;omega),trivial⟩,?_⟩
 have ar:Owns O (h0.size+7) 3 1 so (zyh os):=o2.keep λp hp=>by
  have:=ae p hp
  rw[aa.get _ (by omega),gG _ (by omega) (by omega)]
 refine zar qa0 ar (src:=⟨some ⟨G.size,0,none⟩,1,1⟩) (news:=[.int .i64 r]) (n:=O.size) ?_ rfl (by simp[Value.oneCell']) (by simp only;omega) (by simp only;omega) (by omega) λs' ah q1 q2 q3 q4 q5=>⟨s',rfl,?_⟩
 ·refine .inr ⟨G.size,0,rfl,by omega,λi v hv=>?_⟩
  match i,hv with
  |0,hv=>cases hv;exact aE.cell rfl
 have aj:∀i,i<O.size->(∀p,so.a=some p->i≠p.block)->ah[i]?=O[i]?:=q3
 have al:ah[h.size]?=G[h.size]?:=(aj _ (by omega) λp hp=>by have:=ae p hp;omega).trans (aa.get _ (by omega))
 refine⟨⟨al,trivial⟩,?_⟩
 have Z:∀i,i<h0.size+7->i≠h0.size+6->ah[i]?=h[i]?:=λi hi hn=>(aj i (by omega) λp hp=>by have:=ae p hp;omega).trans ((aa.get _ (by omega)).trans (gG i (by omega) hn))
 have az:ah[h0.size+6]?=some (.loop (rec .busy none)):=(aj _ (by omega) λp hp=>by have:=ae p hp;omega).trans ((aa.get _ (by omega)).trans lG)
 refine Yu (vs:=[slV s']) qdy (o1.keep (Z _ (by omega) (by omega))) rfl qdz (by simp) (by simp[Value.oneCell',slV]) λaH am aJ ac=>?_
 have aB:upd #[slV so] 0 [slV s']=#[slV s']:=by simp[upd]
 rw[aB]at am
 refine⟨⟨(ac _ (by show h.size≠_;omega)).trans al,trivial⟩,?_⟩
 refine qa (v1.keep ((ac _ (by omega)).trans (Z _ (by omega) (by omega)))) rfl _ _ _ _ λak aC aI af=>?_
 have aA:ak[h0.size+6]?=some (.loop (rec .busy none)):=(af _ (by omega)).trans ((ac _ (by omega)).trans az)
 refine⟨aA,hK _ ?_⟩
 have low:∀i,i<h0.size+7->i≠h0.size+6->i≠h0.size->i≠h0.size+2->(ak.setIfInBounds (h0.size+6) (.loop (rec .ready none)))[i]?=h[i]?:=λi hi h1 h2 h3=>(Jg h1).trans ((af _ h2).trans ((ac _ h3).trans (Z i hi h1)))
 have ax:s'.len=so.len+1:=q1
 refine⟨⟨by rw[Cf];have:=I.keep.size;omega,λi hi=>(low i (by omega) (by omega) (by omega) (by omega)).trans (I.keep.get i hi)⟩,by rw[Cf];omega,⟨sk,si,aC.keep (Jg (by omega)),hk,hi⟩,I.z.keep (low _ (by omega) (by omega) (by omega) (by omega)),⟨s',am.keep ((Jg (by omega)).trans (af _ (by omega))),?_,by rw[ax,o3];simp⟩,⟨ck,ci,c1.keep (low _ (by omega) (by omega) (by omega) (by omega)),c2,c3⟩,I.p.keep (low _ (by omega) (by omega) (by omega) (by omega)),(low _ (by omega) (by omega) (by omega) (by omega)).trans I.d,zrj (by omega)⟩
 have e:zyh (os++[r])=zyh os++[.int .i64 r]:=by unfold zyh;rw[BF];rfl
 rw[e]
 refine q2.keep λp hp=>?_
 have:=q2.base_le p hp
 rw[Jg (by omega),af _ (by omega),ac _ (by omega)]
theorem LI.setC{rec:Rec}{w x y:Tr}{os:List Int}(I:LI h0 M rec sp w x os g)(hz:g'.size=g.size)(hf:∀j,j≠h0.size+3->g'[j]?=g[j]?)(hb:Blk g' (h0.size+3) (zd y.kind y.text sk si).toArray)(hk:Rd M (.row .str) y.keys [slV sk])(hi:Rd M (.row .tree) y.items [slV si]):LI h0 M rec sp w y os g':=by
 have hs:=I.size
 obtain⟨vk,vi,v1,v2,v3⟩:=I.v
 obtain⟨so,o1,o2,o3⟩:=I.o
 refine⟨⟨by have:=I.keep.size;omega,λi hi=>(hf i (by omega)).trans (I.keep.get i hi)⟩,by omega,⟨vk,vi,v1.keep (hf _ (by omega)),v2,v3⟩,I.z.keep (hf _ (by omega)),⟨so,o1.keep (hf _ (by omega)),o2.keep λp hp=>hf _ (by have:=o2.base_le p hp;omega),o3⟩,⟨sk,si,hb,hk,hi⟩,I.p.keep (hf _ (by omega)),(hf _ (by omega)).trans I.d,(hf _ (by omega)).trans I.l⟩
theorem z6r(M:Fr)(xs:List Int):RowC M (.int .i64) xs (zyh xs):=by
 refine⟨by simp[sz,zyh],λi hi=>?_⟩
 simp only[sz,Cg]
 have O:i<(zyh xs).length:=by unfold zyh;simpa using hi
 rw[AE O,BV,Cz]
 simp only[zyh,List.getElem_map]
 rfl
theorem qd0(ag:AgM M h0)(k:Keep h0.size h0 h){base:Nat}(hb:h0.size<=base){so:Sl}{xs:List Int}(H:Owns h base 3 1 so (zyh xs))(hl:so.len=xs.length)(hn:xs.length<=140737488355328):∃M',Later h0 M h M'/\RdV M' (.row (.int .i64)) xs (slV so):=by
 rcases Owns.blk H with⟨O,hc⟩|⟨b,cs,e1,e2,e3,e4,e5,e6⟩
 ·refine⟨M,Later.same ag k,?_⟩
  have:xs=[]:=Av (by omega)
  subst this
  rw[zhf rfl]
  exact⟨_,rfl,so.a,so.cap,by rw[slV,O];rfl,⟨by simp,by simp⟩,.inl rfl⟩
 ·refine⟨MxL M h [b],MxL.later ag k (λx hx=>by simp at hx;omega),?_⟩
  rw[zhf rfl,slV,e1,hl]
  refine RowC.rd (cs:=cs) (z6r _ xs) (MxL.at (by simp) e3) ?_ ⟨hn,by omega⟩
  rw[<-e5,hl];rfl
set_option maxRecDepth 100000 in
set_option maxHeartbeats 800000 in
theorem z6s{gl:Fr}(hg:GL gl){v:Tr}(hv:Sm v)(ho:Yf zv v=true){p:List Bt}(hp:SL p){R:List Int×Tr×Bool->Prop}(hR:R ((ym v p).map (λq=>(q.1:Int)),lastT v (ym v p),decide ((ym v p).length=p.length))):
  PC Tp gl 43 [Arg.mk .tree v,Arg.mk (.row .str) p] [.row (.int .i64),.tree,.bool] R:=by
 intro h M vs hM ag ha
 match vs,ha with
 |[u,w],⟨hu,hw,_⟩=>
  have hu:RdV M .tree v u:=hu
  obtain⟨sk,si,rfl,rk,ri⟩:=w9 hu
  obtain⟨sp,rfl,hr⟩:=zit hw
  have hr:Rd M (.row .str) p [slV sp]:=hr
  obtain⟨ap,a1,bc⟩:=rowLen hr
  have ba:=hp.n
  apply PX.of
  obtain⟨RR,aI⟩:∃RR:Value->zb->Prop,RR=λv h'=>∃M' r,Later h M h' M'/\Xu M' [.row (.int .i64),.tree,.bool] r v/\R r:=⟨_,rfl⟩
  refine XC.mono (R:=RR) ?_ (λv h' hx=>by rw[aI]at hx;exact hx)
  refine z6p (P:=Tp) Tryz.mixed (ro:=Qp (codeOf Tryz.f43)) (n:=27) (rs:=[.tmp 4,.cell 5 25,.tmp 6]) Tryz.func43 (by kernel_rfl) (by kernel_rfl) (by kernel_rfl) (by kernel_rfl) (by kernel_rfl) (by kernel_rfl) (by decide) [.agg #[.int .i64 v.kind,.string v.text,slV sk,slV si],slV sp] (by kernel_rfl) ?_
  refine zg2 v.kind v.text sk si sp h _ ?_
  intro h1 h2 h3
  have z1:h1.size=h.size+1:=Ak _
  have z2:h2.size=h1.size+1:=Ak _
  have z3:h3.size=h2.size+1:=Ak _
  have k1:Keep h.size h h1:=Keep.push _ _ (Ae _)
  have k2:Keep h1.size h1 h2:=Keep.push _ _ (Ae _)
  have k3:Keep h2.size h2 h3:=Keep.push _ _ (Ae _)
  have b1:Blk h1 h.size (zd v.kind v.text sk si).toArray:=Blk.new _ _ _
  have b2:Blk h2 h1.size (zd 0 ⟨#[]⟩ ⟨none,0,0⟩ ⟨none,0,0⟩).toArray:=Blk.new _ _ _
  have b3:Blk h3 h2.size #[slV ⟨none,0,0⟩]:=Blk.new _ _ _
  clear_value h1 h2 h3
  refine⟨v.kind,v.text,sk,si,((b1.ofKeep k2).ofKeep k3).ld (cs:=zd v.kind v.text sk si),?_⟩
  apply zjk v.kind v.text sk si sp
  intro h4 h5
  have z4:h4.size=h3.size+1:=Ak _
  have z5:h5.size=h4.size+1:=Ak _
  have k4:Keep h3.size h3 h4:=Keep.push _ _ (Ae _)
  have k5:Keep h4.size h4 h5:=Keep.push _ _ (Ae _)
  have b4:Blk h4 h3.size (zd v.kind v.text sk si).toArray:=Blk.new _ _ _
  have b5:Blk h5 h4.size #[slV sp]:=Blk.new _ _ _
  clear_value h4 h5
  have e1:h1.size=h.size+1:=z1
  have e2:h2.size=h.size+2:=by omega
  have e3:h3.size=h.size+3:=by omega
  have e4:h4.size=h.size+4:=by omega
  have e5:h5.size=h.size+5:=by omega
  refine⟨_,rfl,_,_,_,_,_,_,rfl,by kernel_rfl,?_⟩
  rw[e1,e2,e3,e4,e5,show h.size+5+1=h.size+6 from rfl]
  intro rec hY
  have K0:Keep h.size h h5:=(((k1.trans k2 (by omega)).trans k3 (by omega)).trans k4 (by omega)).trans k5 (by omega)
  obtain⟨g6,aa⟩:∃g6,(h5.push (.deferred (some []))).push (.loop (rec .ready none))=g6:=⟨_,rfl⟩
  have z6:g6.size=h.size+7:=by rw[<-aa,Ak,Ak];omega
  have k6:Keep h5.size h5 g6:=by
   rw[<-aa]
   exact(Keep.push h5 (.deferred (some [])) (Ae _)).trans (Keep.push _ _ (by rw[Ak];omega)) (Ae _)
  have I0:LI h M rec sp v v [] g6:=by
   refine⟨K0.trans k6 (by omega),by omega,⟨sk,si,(((b1.ofKeep k2).ofKeep k3).ofKeep k4 |>.ofKeep k5).ofKeep k6,rk,ri⟩,?_,⟨⟨none,0,0⟩,?_,Owns.nil _ _ _ _,rfl⟩,⟨sk,si,?_,rk,ri⟩,?_,?_,?_⟩
   ·rw[<-e1];exact((b2.ofKeep k3).ofKeep k4 |>.ofKeep k5).ofKeep k6
   ·rw[<-e2];exact((b3.ofKeep k4).ofKeep k5).ofKeep k6
   ·rw[<-e3];exact(b4.ofKeep k5).ofKeep k6
   ·rw[<-e4];exact b5.ofKeep k6
   ·rw[<-aa,BM,if_neg (by rw[Ak];omega),<-e5];exact ww _ _
   ·rw[<-aa]
    have:=ww (h5.push (.deferred (some []))) (.loop (rec .ready none))
    rw[Ak,e5]at this;exact this
  rw[aa]
  clear aa
  have aE:∀(w:Tr) (done:List (Nat×Tr)) (g:zb),ym v p=done->lastT v done=w->LI h M rec sp w w (done.map λq=>(q.1:Int)) g ->
    (g[h.size+6]?=some (.loop (rec .ready none))/\qaz Tp 27 (Qp (codeOf Tryz.f43)) 6 [.tmp 4,.cell 5 25,.tmp 6] (h.size+5) RR
     [(1,[],.slice sp.a sp.len sp.cap),(2,[],.pointer (some ⟨h.size,0,none⟩)),(5,[],.pointer (some ⟨h.size+1,0,none⟩)),(7,[],.pointer (some ⟨h.size+2,0,none⟩))] (g.setIfInBounds (h.size+6) (.loop (rec .exhausted none)))):=by
   intro w done g ac aj I
   refine⟨I.l,?_⟩
   have hs:=I.size
   obtain⟨so,o1,o2,o3⟩:=I.o
   obtain⟨vk,vi,v1,v2,v3⟩:=I.v
   obtain⟨G,hG⟩:∃G,g.setIfInBounds (h.size+6) (.loop (rec .exhausted none))=G:=⟨_,rfl⟩
   have zG:G.size=g.size:=by rw[<-hG,Cf]
   have gG:∀i,i≠h.size+6->G[i]?=g[i]?:=λi hi=>by rw[<-hG];exact Jg hi
   rw[hG]
   unfold qaz
   refine zg4 sp ⟨h.size,0,none⟩ ⟨h.size+1,0,none⟩ ⟨h.size+2,0,none⟩ G (λh1=>h1[h.size+5]?=some (.deferred (some []))) (λh1=>h1.setIfInBounds (h.size+5) (.deferred none)) RR ?_
   have oG:Blk G (h.size+2) #[slV so]:=o1.keep (gG _ (by omega))
   refine⟨so,oG.cell (o:=0) rfl,w.kind,w.text,vk,vi,(v1.keep (gG _ (by omega))).ld (cs:=zd w.kind w.text vk vi),so,oG.cell (o:=0) rfl,?_⟩
   refine qa (I.z.keep (gG _ (by omega))) rfl _ _ _ _ λaB aT be af=>?_
   refine⟨⟨af _ (by show h.size+2≠_;omega),trivial⟩,(af _ (by omega)).trans ((gG _ (by omega)).trans I.d),w.kind,w.text,vk,vi,(aT.keep (Jg (by omega))).ld (cs:=zd w.kind w.text vk vi),?_⟩
   have KF:Keep h.size h (aB.setIfInBounds (h.size+5) (.deferred none)):=⟨by rw[Cf];have:=I.keep.size;omega,λi hi=>by rw[Jg (by omega),af _ (by omega),gG _ (by omega)];exact I.keep.get i hi⟩
   have OF:Owns (aB.setIfInBounds (h.size+5) (.deferred none)) (h.size+7) 3 1 so (zyh (done.map λq=>(q.1:Int))):=o2.keep λq hq=>by
    have:=o2.base_le q hq
    rw[Jg (by omega),af _ (by omega),gG _ (by omega)]
   have al:=zml v p
   rw[ac]at al
   obtain⟨M',L',aN⟩:=qd0 ag KF (by omega) OF o3 (by rw[Ba];omega)
   rw[aI]
   refine⟨M',(done.map (λq=>(q.1:Int)),w,decide (done.length=p.length)),L',⟨[slV so,.agg #[.int .i64 w.kind,.string w.text,slV vk,slV vi],.bool (decide (done.length=p.length))],⟨_,_,rfl,aN,_,_,rfl,yn (Rd.mono L'.le v2) (Rd.mono L'.le v3),_,rfl,rdBool _⟩,?_⟩,?_⟩
   ·have aQ:(((so.len:Nat):Int)==((sp.len:Nat):Int))=decide (done.length=p.length):=by
     rw[o3,ap,Ba,AB];simp;omega
    rw[aQ];rfl
   ·rw[ac,aj]at hR;exact hR
  show XCI Tp 116 #[.func (.yield (h.size+6)) #[] #[],.pointer (some ⟨h.size+4,0,none⟩),.pointer (some ⟨h.size+3,0,none⟩)] g6 _
  refine zfy (h.size+6) ⟨h.size+4,0,none⟩ ⟨h.size+3,0,none⟩ g6 _ ?_
  refine⟨sp,I0.p.cell (o:=0) rfl,λi g=>∃(k:Nat) (w:Tr) (done:List (Nat×Tr)),i=k/\k<=p.length/\Sm w/\Yf zv w=true/\done.length=k/\ym v p=done++ym w (p.drop k)/\lastT v done=w/\LI h M rec sp w w (done.map λq=>(q.1:Int)) g,λi _=>p.length-i.toNat,⟨0,v,[],rfl,by omega,hv,ho,rfl,by simp,rfl,I0⟩,?_⟩
  rintro i g ⟨k,w,done,rfl,hk,hw,aD,al,O,ax,I⟩
  refine⟨λhc=>?_,λhc=>?_⟩
  ·have Z:k<p.length:=by simp at hc;omega
   have agg:AgM M g:=ag.keep I.keep
   refine zkr agg hr Z rfl rfl ?_
   obtain⟨ck,ci,c1,c2,c3⟩:=I.c
   refine⟨w.kind,w.text,ck,ci,c1.ld (cs:=zd w.kind w.text ck ci),?_⟩
   have aV:=hp.s _ (As Z)
   have aO:PC Tp gl 117 [Arg.mk .tree w,Arg.mk .str p[k]] [.int .i64] (λr=>r=qu w p[k]):=qau hg aV rfl
   refine aO.go (vs:=[.agg #[.int .i64 w.kind,.string w.text,slV ck,slV ci],.string p[k]]) hM agg (qn (yn c2 c3) (qn (rdStr _) y0)) λq au a7 r aF aJ ai=>?_
   have ai:r=qu w p[k]:=ai
   subst ai
   have ak:=I.frame aF.keep
   have ae:p.drop k=p[k]::p.drop (k+1):=AE Z
   refine⟨qu w p[k],qeo aJ,λar=>?_,λaz=>?_⟩
   ·have am:qu w p[k]<0:=by simpa using ar
    rw[ae,zji am,Bf]at O
    exact aE w done au O ax ak
   ·have aP:¬qu w p[k]<0:=by simpa using az
    obtain⟨j,hj,ah⟩:∃j:Nat,qu w p[k]=j/\j<w.items.length:=by
     rcases zel (jl aD) p[k]with e|e
     ·omega
     ·exact e
    have aH:=c1.ofKeep aF.keep
    have aL:AgM M au:=ag.keep ak.keep
    obtain⟨a6,_,_⟩:=rowLen c3
    obtain⟨a,xk,xi,ea,aY,ay,aC⟩:=zqm aL c3 ah
    have hm:w.items[j]∈w.items:=As ah
    rw[hj]
    refine⟨ci,aH.cellAdd (o:=0) (k:=3) rfl,a,⟨ea,by omega,by omega⟩,w.items[j].kind,w.items[j].text,xk,xi,by rw[Ad];exact aY,?_⟩
    refine qa aH rfl _ _ _ _ λan aG aS aU=>?_
    have aA:LI h M rec sp w w.items[j] (done.map λq=>(q.1:Int)) an:=ak.setC aS aU aG ay aC
    refine⟨w.items[j].kind,w.items[j].text,xk,xi,aG.ld (cs:=zd w.items[j].kind w.items[j].text xk xi),?_⟩
    have key:∀K:Value->zb->Prop,(∀h',LI h M rec sp w.items[j] w.items[j] ((done.map λq=>(q.1:Int))++[(j:Int)]) h'->K (.bool true) h')->YX Tp (h.size+6) #[.int .i64 (j:Int),.agg #[.int .i64 w.items[j].kind,.string w.items[j].text,.slice xk.a xk.len xk.cap,.slice xi.a xi.len xi.cap]] an K:=λK hK=>
     @hY _ _ _ K aA.l (z6q (K:=K) aA (j:Int) (by rw[Ba];omega) ay aC hK)
    refine key _ λa8 aM=>⟨true,rfl,λhx=>(by cases hx),λ_=>?_⟩
    have aZ:=y5 Z (by omega)
    rw[aZ]
    refine⟨⟨k+1,w.items[j],done++[(j,w.items[j])],rfl,by omega,hw.item hm,jk aD hm,by simp[al],?_,by unfold lastT;simp,by rw[BF];exact aM⟩,by simp only[Ad];omega⟩
    rw[O,ae,za1 hj ah];simp
  ·have Z:k=p.length:=by simp at hc;omega
   subst Z
   rw[Cw]at O
   have:ym w []=[]:=by simp[ym]
   rw[this,Bf]at O
   exact aE w done g O ax I
end
section
variable {gl:Fr} {v:Tr}
theorem z2e(hg:GL gl)(hv:Sm v)(ho:yg v=true){R:Tr->Prop}(hR:R v):PC Tp gl 32 [Arg.mk .tree v] [.tree] R:=by
 intro h M vs hM ag ha
 match vs,ha with
 |[u],⟨hu,_⟩=>
  have hu:RdV M .tree v u:=hu
  have Z:=hu
  obtain⟨sk,si,rfl,rk,ri⟩:=w9 hu
  apply PX.of
  apply zen v.kind v.text sk si
  intro h1 h2
  have z1:h1.size=h.size+1:=Ak _
  have z2:h2.size=h1.size+1:=Ak _
  have k1:Keep h.size h h1:=Keep.push _ _ (Ae _)
  have k2:Keep h1.size h1 h2:=Keep.push _ _ (Ae _)
  have b1:Blk h1 h.size (zd v.kind v.text sk si).toArray:=Blk.new _ _ _
  have b2:Blk h2 h1.size (zd 0 ⟨#[]⟩ ⟨none,0,0⟩ ⟨none,0,0⟩).toArray:=Blk.new _ _ _
  clear_value h1 h2
  have K2:Keep h.size h h2:=k1.trans k2 (by omega)
  have ae:=ag.keep K2
  refine⟨v.kind,v.text,sk,si,(b1.ofKeep k2).ld (cs:=zd v.kind v.text sk si),?_⟩
  have O:PC Tp gl 42 [Arg.mk .tree v] [.bool] (λr=>r=yg v):=zfv hg hv rfl
  refine O.go (vs:=[.agg #[.int .i64 v.kind,.string v.text,slV sk,slV si]]) hM ae (qn Z y0) λw h3 M3 r L3 ac hr=>?_
  have hr:r=yg v:=hr
  refine⟨r,zc2 ac,λhx=>?_,λhx=>?_⟩
  ·rw[hr,ho]at hx;cases hx
  ·refine⟨v.kind,v.text,sk,si,((b1.ofKeep k2).ofKeep L3.keep).ld (cs:=zd v.kind v.text sk si),?_⟩
   have K3:Keep h.size h h3:=K2.trans L3.keep (by have:=K2.size;omega)
   refine(zon (tsz v) v (Ae _) hv (ag.keep K3) Z).mono ?_
   rintro w' h4 ⟨k4,bs,ck,ci,rfl,ot,aa⟩
   have z3:=L3.keep.size
   have z4:=k4.size
   refine⟨v.kind,v.text,ck,ci,rfl,?_⟩
   refine qa (((b2.ofKeep L3.keep).ofKeep k4)) rfl _ _ _ _ λh5 b5 z5 f5=>?_
   have K5:Keep h.size h h5:=⟨by have:=K3.size;omega,λi hi=>by rw[f5 i (by omega),k4.get i (by have:=K3.size;omega)];exact K3.get i hi⟩
   have af:=ot.frame λb hb=>f5 b (by have:=aa b hb;omega)
   have ah:=K3.size
   exact⟨v.kind,v.text,ck,ci,b5.ld (cs:=zd v.kind v.text ck ci),MxL M h5 bs,v,MxL.later ag K5 (λb hb=>by have:=aa b hb;omega),zdx.2 af.rdv,hR⟩
theorem zmr{v x:Tr}(h:Z3 v=true)(hx:x∈v.items):Z3 x=true:=by
 unfold Z3 at h ⊢
 simp at h ⊢
 have h1:=jj hx
 have h2:tdp x<=zgi v.items:=by
  have O:∀l:List Tr,x∈l->tdp x<=zgi l:=by
   intro l
   induction l with
   |nil=>intro hm;cases hm
   |cons y l ih=>
    intro hm
    rw[zgi]
    rcases Af.1 hm with rfl|hm
    ·omega
    ·have:=ih hm;omega
  exact O _ hx
 have h3:=zu8 v
 omega
theorem z2f{v x:Tr}(h:yg v=true)(hx:x∈v.items):yg x=true:=by
 unfold yg at h ⊢
 rw[AI]at h ⊢
 exact⟨zmr h.1 hx,jk h.2 hx⟩
theorem zvz(h:yg v=true):Yf zv v=true:=by unfold yg at h;rw[AI]at h;exact h.2
theorem z2g(n:Nat):∀(v:Tr) (p:List Bt),p.length<=n->yg v=true->Sm v->yg (lastT v (ym v p))=true/\Sm (lastT v (ym v p)):=by
 induction n with
 |zero=>
  intro v p hp ho hs
  have:p=[]:=Av (by omega)
  subst this
  exact⟨ho,hs⟩
 |succ n ih=>
  intro v p hp ho hs
  match p with
  |[]=>exact⟨ho,hs⟩
  |s::p=>
   rcases zel (jl (zvz ho)) s with e|⟨k,e,hk⟩
   ·rw[zji (by omega)];exact⟨ho,hs⟩
   ·rw[za1 e hk,zmk]
    have hm:=As hk
    exact ih v.items[k] p (by simpa using hp) (z2f ho hm) (hs.item hm)
theorem qa1(hg:GL gl)(hv:Sm v){p:List Bt}(hp:SL p){R:Tr×Bool->Prop}(hR:R (qal v p)):PC Tp gl 20 [Arg.mk .tree v,Arg.mk (.row .str) p] [.tree,.bool] R:=by
 apply ziw
 rw[qo]
 unfold qal at hR
 refine zfv hg hv ⟨λb=>b=qh p,λ_=>zhp hg hp rfl,λb hb=>?_⟩
 cases ho:yg v with
 |false=>
  rw[ho]at hR
  exact⟨λ_=>hR,λhx=>by cases hx⟩
 |true=>
  have O:b=qh p:=hb (by rw[ho];rfl)
  subst O
  cases hr:qh p with
  |false=>
   rw[ho,hr]at hR
   exact⟨λ_=>hR,λhx=>by cases hx⟩
  |true=>
   rw[ho,hr,CL,if_pos rfl]at hR
   refine⟨λhx=>(by cases hx),λ_=>?_⟩
   refine z6s hg hv (zvz ho) hp ⟨λhx=>?_,λhx=>?_⟩
   ·have:yj v p=none:=by unfold yj;rw[if_neg (by simpa using hx)]
    rw[this]at hR;exact hR
   ·have:yj v p=some (lastT v (ym v p)):=by unfold yj;rw[if_pos (by simpa using hx)]
    rw[this]at hR
    obtain⟨h1,h2⟩:=z2g p.length v p (Ae _) ho hv
    rw[qo]
    refine z2e hg h2 h1 ?_
    rw[show Tr.mk (lastT v (ym v p)).kind (lastT v (ym v p)).text (lastT v (ym v p)).keys (lastT v (ym v p)).items=lastT v (ym v p)from qo _]
    exact hR
end
section
theorem zju{gl:Fr}(hg:GL gl){v:Tr}(hv:Sm v)(ho:yg v=true){h:zb}{M:Fr}{u:Value}(hM:Fr.le gl M)(ag:AgM M h)(hu:RdV M .tree v u){K:Value->zb->Prop}
  (hK:∀(h':zb) (bs:List Nat) (sk si:Sl),Keep h.size h h'->OT h' v bs (zd v.kind v.text sk si)->(∀b∈bs,h.size<=b)->K (.agg #[.int .i64 v.kind,.string v.text,slV sk,slV si]) h'):XC Tp 32 #[u] h K:=by
 have Z:=hu
 obtain⟨sk,si,rfl,rk,ri⟩:=w9 hu
 apply zen v.kind v.text sk si
 intro h1 h2
 have z1:h1.size=h.size+1:=Ak _
 have z2:h2.size=h1.size+1:=Ak _
 have k1:Keep h.size h h1:=Keep.push _ _ (Ae _)
 have k2:Keep h1.size h1 h2:=Keep.push _ _ (Ae _)
 have b1:Blk h1 h.size (zd v.kind v.text sk si).toArray:=Blk.new _ _ _
 have b2:Blk h2 h1.size (zd 0 ⟨#[]⟩ ⟨none,0,0⟩ ⟨none,0,0⟩).toArray:=Blk.new _ _ _
 clear_value h1 h2
 have K2:Keep h.size h h2:=k1.trans k2 (by omega)
 have ae:=ag.keep K2
 refine⟨v.kind,v.text,sk,si,(b1.ofKeep k2).ld (cs:=zd v.kind v.text sk si),?_⟩
 have O:PC Tp gl 42 [Arg.mk .tree v] [.bool] (λr=>r=yg v):=zfv hg hv rfl
 refine O.go (vs:=[.agg #[.int .i64 v.kind,.string v.text,slV sk,slV si]]) hM ae (qn Z y0) λw h3 M3 r L3 ac hr=>?_
 have hr:r=yg v:=hr
 refine⟨r,zc2 ac,λhx=>?_,λhx=>?_⟩
 ·rw[hr,ho]at hx;cases hx
 ·refine⟨v.kind,v.text,sk,si,((b1.ofKeep k2).ofKeep L3.keep).ld (cs:=zd v.kind v.text sk si),?_⟩
  have K3:Keep h.size h h3:=K2.trans L3.keep (by have:=K2.size;omega)
  refine(zon (tsz v) v (Ae _) hv (ag.keep K3) Z).mono ?_
  rintro w' h4 ⟨k4,bs,ck,ci,rfl,ot,aa⟩
  have z3:=L3.keep.size
  have z4:=k4.size
  refine⟨v.kind,v.text,ck,ci,rfl,?_⟩
  refine qa (((b2.ofKeep L3.keep).ofKeep k4)) rfl _ _ _ _ λh5 b5 z5 f5=>?_
  have K5:Keep h.size h h5:=⟨by have:=K3.size;omega,λi hi=>by rw[f5 i (by omega),k4.get i (by have:=K3.size;omega)];exact K3.get i hi⟩
  have af:=ot.frame λb hb=>f5 b (by have:=aa b hb;omega)
  have ah:=K3.size
  exact⟨v.kind,v.text,ck,ci,b5.ld (cs:=zd v.kind v.text ck ci),hK h5 bs ck ci K5 af λb hb=>by have:=aa b hb;omega⟩
theorem OT.zero(h:zb):OT h zT [] (zd 0 ⟨#[]⟩ ⟨none,0,0⟩ ⟨none,0,0⟩):=
 OT.mk (k:=0) (s:=⟨#[]⟩) (ks:=[]) (xs:=[]) (sk:=⟨none,0,0⟩) (si:=⟨none,0,0⟩) (bk:=[]) (bb:=[]) (b:=0) (cs:=#[]) (bf:=λ_=>[]) ⟨rfl,by simp,by simp,.inl ⟨rfl,rfl,rfl⟩⟩ ⟨rfl,by simp,by simp⟩ (.inl ⟨rfl,rfl,rfl⟩) (λi hi=>absurd hi (by simp)) (by simp)
end
end Go.X
end
section
namespace Go.X
open Go Go.RowKit
section
variable {h h':zb} {v:Tr} {sk si si' sk':Sl} {bk bb bk' D:List Nat} {b n i k rb:Nat} {cs cs':Array Value} {c cw:List Value} {α:Type} {ks':List Bt}
structure OTp (h:zb) (v:Tr) (sk si:Sl) (bk bb:List Nat) (b:Nat) (cs:Array Value) (bf:Nat->List Nat):Prop where
 keys:OKeys h v.keys bk sk
 hn:si.len=v.items.length/\v.items.length<=140737488355328/\v.items.length<=si.cap
 hz:(v.items=[]/\bb=[]/\si.cap=0)\/(bb=[b]/\si.a=some ⟨b,0,none⟩/\Blk h b cs/\si.cap*4<=cs.size)
 hi:∀i (hx:i<v.items.length),OT h v.items[i] (bf i) (cut cs (i*4) 4)
 nk:bk.Nodup
 d1:∀c∈bk,c∉bb
 d2:∀c∈bk,∀i,i<v.items.length->c∉bf i
 d3:∀c∈bb,∀i,i<v.items.length->c∉bf i
 d4:∀i j,i<v.items.length->j<v.items.length->i≠j->∀c∈bf i,c∉bf j
def zh(v:Tr)(sk si:Sl):List Value:=[.int .i64 v.kind,.string v.text,slV sk,slV si]
theorem OTp.ot{bf:Nat->List Nat}(H:OTp h v sk si bk bb b cs bf):OT h v (bk++(bb++(BJ v.items.length).flatMap bf)) (zh v sk si):=by
 obtain⟨k,s,ks,xs⟩:=v
 refine OT.mk (b:=b) (cs:=cs) H.keys H.hn H.hz H.hi ?_
 rw[A9]
 refine⟨H.nk,?_,λx hx y hy e=>?_⟩
 ·rw[A9]
  refine⟨?_,zog.2 ⟨λi hi=>(H.hi i hi).nodup,λi j O hj x hx y hy e=>?_⟩,λx hx y hy e=>?_⟩
  ·rcases H.hz with⟨_,e,_⟩|⟨e,_⟩
   ·rw[e];exact Et
   ·rw[e];simp
  ·subst e;exact H.d4 i j (Nat.lt_trans O hj) hj (by omega) x hx hy
  ·subst e
   obtain⟨i,hi,hy⟩:=BA.1 hy
   exact H.d3 x hx i (by simpa using hi) hy
 ·subst e
  rcases An.1 hy with hy|hy
  ·exact H.d1 x hx hy
  ·obtain⟨i,hi,hy⟩:=BA.1 hy
   exact H.d2 x hx i (by simpa using hi) hy
theorem OT.p{bs:List Nat}{cells:List Value}(H:OT h v bs cells):∃(sk si:Sl) (bk bb:List Nat) (b:Nat) (cs:Array Value) (bf:Nat->List Nat),cells=zh v sk si/\OTp h v sk si bk bb b cs bf/\bs=bk++(bb++(BJ v.items.length).flatMap bf):=by
 cases H with
 | @mk kd s ks xs sk si bk bb b cs bf hk hn hz hi hd=>
  rw[A9]at hd
  obtain⟨af,aa,Z⟩:=hd
  rw[A9]at aa
  obtain⟨ai,ac,ah⟩:=aa
  have nf:=zog.1 ac
  refine⟨sk,si,bk,bb,b,cs,bf,rfl,⟨hk,hn,hz,hi,af,λc hc hm=>Z c hc c (Aq _ hm) rfl,λc hc i hi hm=>Z c hc c (AC _ (BA.2 ⟨i,by simpa using hi,hm⟩)) rfl,λc hc i hi hm=>ah c hc c (BA.2 ⟨i,by simpa using hi,hm⟩) rfl,λi j hi hj ae c hc hm=>?_⟩,rfl⟩
  rcases Nat.lt_or_gt_of_ne ae with O|O
  ·exact nf.2 i j O hj c hc c hm rfl
  ·exact nf.2 j i O hi c hm c hc rfl
theorem jq{bf:Nat->List Nat}{n c:Nat}:c∈bk++(bb++(BJ n).flatMap bf)↔c∈bk\/c∈bb\/∃i,i<n/\c∈bf i:=by
 simp only[An,BA,Cc]
theorem za2(h:i+4<=n):cut cs i 4=((cut cs 0 n).drop i).take 4:=by
 unfold cut
 rw[A2,Ew,Ex,C5 (by omega)]
def qa2(v:Tr)(k:Nat)(w:Tr):Tr:=.mk v.kind v.text v.keys (v.items.take k++w::v.items.drop k)
theorem qa3{xs:List α}{w:α}(hk:k<=xs.length)(h:i<(xs.take k++w::xs.drop k).length):
  (i<k/\∃h':i<xs.length,(xs.take k++w::xs.drop k)[i]=xs[i])\/(i=k/\(xs.take k++w::xs.drop k)[i]=w)\/(k<i/\∃h':i-1<xs.length,(xs.take k++w::xs.drop k)[i]=xs[i-1]):=by
 have hl:(xs.take k).length=k:=by rw[AR];omega
 simp only[Ao,Ay,hl,AY]at h
 rcases Nat.lt_trichotomy i k with h1|h1|h1
 ·refine .inl ⟨h1,by omega,?_⟩
  rw[CX (by rw[hl];exact h1),List.getElem_take]
 ·refine .inr (.inl ⟨h1,?_⟩)
  subst h1
  rw[Cx (by rw[hl];exact Ae _)]
  simp[hl]
 ·refine .inr (.inr ⟨h1,by omega,?_⟩)
  rw[Cx (by rw[hl];omega)]
  simp only[hl]
  have e:i-k=(i-1-k)+1:=by omega
  simp only[e,List.getElem_cons_succ,List.getElem_drop]
  congr 1;omega
theorem qa4(hc:c.length=n*4)(hw:cw.length=4)(hk:k<=n):
  (∀i,i<k->((c.take (k*4)++cw++c.drop (k*4)).drop (i*4)).take 4=(c.drop (i*4)).take 4)/\((c.take (k*4)++cw++c.drop (k*4)).drop (k*4)).take 4=cw/\∀i,k<i->((c.take (k*4)++cw++c.drop (k*4)).drop (i*4)).take 4=(c.drop ((i-1)*4)).take 4:=by
 have hl:(c.take (k*4)).length=k*4:=by rw[AR];omega
 refine⟨λi hi=>?_,?_,λi hi=>?_⟩
 ·apply A7
  intro j
  rw[AF,AF]
  split
  ·rw[AJ,AJ,AP,Bo (by rw[hl];omega),AF,if_pos (by omega)]
  ·rfl
 ·rw[AP,List.drop_append,A6 (by rw[hl];exact Ae _),BP,hl,Nat.sub_self,A2,List.take_append,hw,Nat.sub_self,Cz,Bf,AX (by omega)]
 ·rw[List.drop_append,A6 (by rw[Ao,hl,hw];omega),BP,Ao,hl,hw,Cd]
  congr 2;omega
theorem OTp.ins{bf:Nat->List Nat}(H:OTp h v sk si bk bb b cs bf)(hk:k<=v.items.length){w:Tr}{bw:List Nat}(ow:OT h' w bw cw)
  (hf:∀i,i<v.items.length->∀c∈bf i,h'[c]?=h[c]?) {b':Nat} (e1:si'.a=some ⟨b',0,none⟩) (e2:Blk h' b' cs') (e3:si'.len=v.items.length+1) (e4:v.items.length+1<=si'.cap) (e5:si'.cap*4<=cs'.size) (e6:v.items.length+1<=140737488355328)
  (e7:cut cs' 0 ((v.items.length+1)*4)=(cut cs 0 (v.items.length*4)).take (k*4)++cw++(cut cs 0 (v.items.length*4)).drop (k*4)) (ak:∀i,i<v.items.length->b'∉bf i) (al:b'∉bw) (hw:∀c∈bw,∀i,i<v.items.length->c∉bf i) (ok:OKeys h' ks' bk' sk') (nk:bk'.Nodup) (aj:b'∉bk') (am:∀c∈bk',∀i,i<v.items.length->c∉bf i) (ah:∀c∈bk',c∉bw):
  OTp h' (.mk v.kind v.text ks' (v.items.take k++w::v.items.drop k)) sk' si' bk' [b'] b' cs' (λi=>if i<k then bf i else if i=k then bw else bf (i-1)):=by
 have O:(v.items.take k++w::v.items.drop k).length=v.items.length+1:=by simp;omega
 have ai:∀i (hx:i<v.items.length),(cut cs 0 (v.items.length*4)).length=v.items.length*4:=by
  intro i hx
  rcases H.hz with⟨h0,_⟩|⟨_,_,_,au⟩
  ·rw[h0]at hx;simp at hx
  ·unfold cut;simp;have:=H.hn.2.2;omega
 have aa:(cut cs 0 (v.items.length*4)).length=v.items.length*4:=by
  by_cases h0:0<v.items.length
  ·exact ai 0 h0
  ·have:v.items.length=0:=by omega
   rw[this];unfold cut;simp
 have an:cw.length=4:=ow.len
 obtain⟨c1,c2,c3⟩:=qa4 aa an hk
 have ae:∀i,i<v.items.length+1->∀c,c∈(if i<k then bf i else if i=k then bw else bf (i-1))->(∃j,j<v.items.length/\c∈bf j)\/c∈bw:=by
  intro i hi c hc
  split at hc
  ·exact .inl ⟨i,by omega,hc⟩
  ·split at hc
   ·exact .inr hc
   ·exact .inl ⟨i-1,by omega,hc⟩
 refine⟨ok,⟨by show si'.len=(v.items.take k++w::v.items.drop k).length;rw[O];exact e3,by show(v.items.take k++w::v.items.drop k).length<=_;rw[O];exact e6,by show(v.items.take k++w::v.items.drop k).length<=_;rw[O];exact e4⟩,.inr ⟨rfl,e1,e2,e5⟩,λi hx=>?_,nk,λc hc hm=>?_,λc hc i hi hm=>?_,λc hc i hi hm=>?_,λi j hi hj af c hc hm=>?_⟩
 ·have ac:i<(v.items.take k++w::v.items.drop k).length:=hx
  have ap:i<v.items.length+1:=by rw[<-O];exact ac
  rw[za2 (n:=(v.items.length+1)*4) (by omega),e7]
  show OT h' (v.items.take k++w::v.items.drop k)[i] _ _
  rcases qa3 hk ac with⟨hi,h2,e⟩|⟨hi,e⟩|⟨hi,h2,e⟩
  ·rw[e,if_pos hi,c1 i hi,<-za2 (by omega)]
   exact(H.hi i h2).frame (hf i h2)
  ·subst hi
   rw[e,if_neg (by omega),if_pos rfl,c2];exact ow
  ·rw[e,if_neg (by omega),if_neg (by omega),c3 i hi,<-za2 (by omega)]
   exact(H.hi (i-1) h2).frame (hf (i-1) h2)
 ·simp at hm;subst hm;exact aj hc
 ·have Z:i<v.items.length+1:=by rw[<-O];exact hi
  rcases ae i Z c hm with⟨j,hj,hm⟩|hm
  ·exact am c hc j hj hm
  ·exact ah c hc hm
 ·have Z:i<v.items.length+1:=by rw[<-O];exact hi
  simp at hc;subst hc
  rcases ae i Z c hm with⟨j,hj,hm⟩|hm
  ·exact ak j hj hm
  ·exact al hm
 ·have Z:i<v.items.length+1:=by rw[<-O];exact hi
  have ar:j<v.items.length+1:=by rw[<-O];exact hj
  try simp only at hc hm
  split at hc
  ·split at hm
   ·exact H.d4 i j (by omega) (by omega) af c hc hm
   ·split at hm
    ·exact hw c hm i (by omega) hc
    ·exact H.d4 i (j-1) (by omega) (by omega) (by omega) c hc hm
  ·split at hc
   ·split at hm
    ·exact hw c hc j (by omega) hm
    ·split at hm
     ·omega
     ·exact hw c hc (j-1) (by omega) hm
   ·split at hm
    ·exact H.d4 (i-1) j (by omega) (by omega) (by omega) c hc hm
    ·split at hm
     ·exact hw c hm (i-1) (by omega) hc
     ·exact H.d4 (i-1) (j-1) (by omega) (by omega) (by omega) c hc hm
theorem qa5{xs:List α}(hk:k<xs.length)(h:i<(xs.take k++xs.drop (k+1)).length):
  (i<k/\∃h':i<xs.length,(xs.take k++xs.drop (k+1))[i]=xs[i])\/(k<=i/\∃h':i+1<xs.length,(xs.take k++xs.drop (k+1))[i]=xs[i+1]):=by
 have hl:(xs.take k).length=k:=by rw[AR];omega
 simp only[Ao,hl,AY]at h
 rcases AZ i k with h1|h1
 ·refine .inl ⟨h1,by omega,?_⟩
  rw[CX (by rw[hl];exact h1),List.getElem_take]
 ·refine .inr ⟨h1,by omega,?_⟩
  rw[Cx (by rw[hl];omega)]
  simp only[hl,List.getElem_drop]
  congr 1;omega
theorem qa6(hc:c.length=n*4)(hk:k<n):
  (∀i,i<k->((c.take (k*4)++c.drop ((k+1)*4)).drop (i*4)).take 4=(c.drop (i*4)).take 4)/\∀i,k<=i->((c.take (k*4)++c.drop ((k+1)*4)).drop (i*4)).take 4=(c.drop ((i+1)*4)).take 4:=by
 have hl:(c.take (k*4)).length=k*4:=by rw[AR];omega
 refine⟨λi hi=>?_,λi hi=>?_⟩
 ·apply A7
  intro j
  rw[AF,AF]
  split
  ·rw[AJ,AJ,Bo (by rw[hl];omega),AF,if_pos (by omega)]
  ·rfl
 ·rw[List.drop_append,A6 (by rw[hl];omega),BP,hl,Cd]
  congr 2;omega
theorem OTp.del{bf:Nat->List Nat}(H:OTp h v sk si bk bb b cs bf)(hk:k<v.items.length)
  (hf:∀i,i<v.items.length->∀c∈bf i,h'[c]?=h[c]?) (e1:si'.a=si.a) (e2:Blk h' b cs') (e3:si'.len+1=v.items.length) (e4:si'.cap=si.cap) (e5:cs'.size=cs.size)
  (e7:cut cs' 0 ((v.items.length-1)*4)=(cut cs 0 (v.items.length*4)).take (k*4)++(cut cs 0 (v.items.length*4)).drop ((k+1)*4)) (ok:OKeys h' ks' bk' sk') (Z:∀c∈bk',c∈bk) (nk:bk'.Nodup):
  OTp h' (.mk v.kind v.text ks' (v.items.take k++v.items.drop (k+1))) sk' si' bk' [b] b cs' (λi=>if i<k then bf i else bf (i+1)):=by
 have O:(v.items.take k++v.items.drop (k+1)).length=v.items.length-1:=by simp;omega
 rcases H.hz with⟨h0,_⟩|⟨ai,ha,hb,aj⟩
 ·rw[h0]at hk;simp at hk
 obtain⟨n1,n2,n3⟩:=H.hn
 have ah:(cut cs 0 (v.items.length*4)).length=v.items.length*4:=by unfold cut;simp;omega
 obtain⟨c1,c2⟩:=qa6 ah hk
 have aa:b∈bb:=by rw[ai];simp
 refine⟨ok,⟨by show si'.len=(v.items.take k++v.items.drop (k+1)).length;rw[O];omega,by show(v.items.take k++v.items.drop (k+1)).length<=_;rw[O];omega,by show(v.items.take k++v.items.drop (k+1)).length<=_;rw[O];omega⟩,.inr ⟨rfl,by rw[e1];exact ha,e2,by rw[e4,e5];exact aj⟩,λi hx=>?_,nk,λc hc hm=>?_,λc hc i hi hm=>?_,λc hc i hi hm=>?_,λi j hi hj af c hc hm=>?_⟩
 ·have ae:i<(v.items.take k++v.items.drop (k+1)).length:=hx
  have ak:i<v.items.length-1:=by rw[<-O];exact ae
  rw[za2 (n:=(v.items.length-1)*4) (by omega),e7]
  show OT h' (v.items.take k++v.items.drop (k+1))[i] _ _
  rcases qa5 hk ae with⟨hi,h2,e⟩|⟨hi,h2,e⟩
  ·rw[e,if_pos hi,c1 i hi,<-za2 (by omega)]
   exact(H.hi i h2).frame (hf i h2)
  ·rw[e,if_neg (by omega),c2 i hi,<-za2 (by omega)]
   exact(H.hi (i+1) h2).frame (hf (i+1) h2)
 ·simp at hm;subst hm;exact H.d1 c (Z c hc) aa
 ·have ac:i<v.items.length-1:=by rw[<-O];exact hi
  try simp only at hm
  split at hm
  ·exact H.d2 c (Z c hc) i (by omega) hm
  ·exact H.d2 c (Z c hc) (i+1) (by omega) hm
 ·have ac:i<v.items.length-1:=by rw[<-O];exact hi
  simp at hc;subst hc
  try simp only at hm
  split at hm
  ·exact H.d3 c aa i (by omega) hm
  ·exact H.d3 c aa (i+1) (by omega) hm
 ·have ac:i<v.items.length-1:=by rw[<-O];exact hi
  have al:j<v.items.length-1:=by rw[<-O];exact hj
  try simp only at hc hm
  split at hc
  ·split at hm
   ·exact H.d4 i j (by omega) (by omega) af c hc hm
   ·exact H.d4 i (j+1) (by omega) (by omega) (by omega) c hc hm
  ·split at hm
   ·exact H.d4 (i+1) j (by omega) (by omega) (by omega) c hc hm
   ·exact H.d4 (i+1) (j+1) (by omega) (by omega) (by omega) c hc hm
structure Doc (h:zb) (rb:Nat) (v:Tr) (D:List Nat):Prop where
 ex:∃cs:Array Value,Blk h rb cs/\cs.size=4/\OT h v D cs.toList
 no:rb∉D
def Plc(h:zb)(D:List Nat)(rb:Nat)(p:Addr)(x:Tr)(T:Tr->Tr):Prop:=
 ∃(b o:Nat) (cs:Array Value) (bx:List Nat),p=⟨b,o,none⟩/\Blk h b cs/\o+4<=cs.size/\OT h x bx (cut cs o 4)/\b∉bx/\(b=rb\/b∈D)/\(∀c∈bx,c∈D)/\rb∉D/\(∀c∈D,c<h.size) /\
  ∀(h':zb) (x':Tr) (cells':List Value) (b':List Nat),(∀c,c≠b->c∉bx->(c=rb\/c∈D)->h'[c]?=h[c]?)->Blk h' b (upd cs o cells')->OT h' x' b' cells'->(∀c∈b',c∈bx\/(c≠rb/\c∉D)) ->
   ∃D',Doc h' rb (T x') D'/\∀c∈D',c∈D\/c∈b'
theorem Doc.plc(H:Doc h rb v D):Plc h D rb ⟨rb,0,none⟩ v id:=by
 obtain⟨⟨cs,hb,ae,ot⟩,O⟩:=H
 have aa:cut cs 0 4=cs.toList:=by unfold cut;rw[A2,AX (by simp;omega)]
 refine⟨rb,0,cs,D,rfl,hb,by omega,by rw[aa];exact ot,O,.inl rfl,λc hc=>hc,O,ot.lt,λh' x' cells' b' hf Z ho ac=>?_⟩
 have hl:=ho.len
 have hu:upd cs 0 cells'=cells'.toArray:=by
  unfold upd
  rw[Cz,A6 (by simp;omega)];simp
 rw[hu]at Z
 refine⟨b',⟨⟨cells'.toArray,Z,by simpa using hl,ho⟩,λhm=>?_⟩,λc hc=>.inr hc⟩
 rcases ac rb hm with hx|hx
 ·exact O hx
 ·exact hx.1 rfl
theorem Plc.step{p:Addr}{x:Tr}{T:Tr->Tr}(H:Plc h D rb p x T)(hk:k<x.items.length):
  ∃(si:Sl) (a:Addr),zk h (p.add 3)=some (slV si)/\si.a=some a/\si.len=x.items.length/\Plc h D rb (a.add (k*4)) x.items[k] (λy=>T (zxx x k y)):=by
 obtain⟨b,o,cs,bx,rfl,hb,ho,ot,ah,af,O,ay,ap,ae⟩:=H
 obtain⟨b2,aA,si,aE,e3,ea,el,aB,aF,ac,al,au,Z,aj⟩:=ot.put1 hk
 refine⟨si,⟨b2,0,none⟩,?_,ea,el,b2,k*4,aA,aE,by rw[zm,AH],aB,by omega,al,au,.inr (O b2 ac),λc hc=>O c (Z c hc),ay,ap,λh' x' cells' b' hf am az ai=>?_⟩
 ·rw[zm]
  refine hb.cell ?_
  rw[zu,if_pos (by omega)]at e3
  rw[<-A0];exact e3
 ·have ax:b≠b2:=λe=>ah (e ▸ ac)
  obtain⟨bn,ar,aa⟩:=aj h' x' cells' b' (λc hc aC aD=>hf c aD aC (.inr (O c hc))) am az (λc hc=>(ai c hc).imp id λhx hm=>hx.2 (O c hm))
  obtain⟨D',hD,an⟩:=ae h' (zxx x k x') (cut cs o 4) bn (λc hc ak ae=>hf c (λe=>ak (e ▸ ac)) (λhm=>ak (Z c hm)) ae) (by
   rw[zvi ho]
   exact hb.keep (hf b ax (λhm=>ah (Z b hm)) af)) ar λc hc=>by
    rcases aa c hc with hx|hx
    ·exact .inl hx
    ·rcases ai c hx with hy|hy
     ·exact .inl (Z c hy)
     ·exact .inr hy
  refine⟨D',hD,λc hc=>?_⟩
  rcases an c hc with hx|hx
  ·exact .inl hx
  ·rcases aa c hx with hy|hy
   ·exact .inl (O c hy)
   ·exact .inr hy
theorem Plc.keep{p:Addr}{x:Tr}{T:Tr->Tr}(H:Plc h D rb p x T)(k:∀c,c=rb\/c∈D->h'[c]?=h[c]?)(hs:h.size<=h'.size):Plc h' D rb p x T:=by
 obtain⟨b,o,cs,bx,rfl,hb,ho,ot,ae,O,Z,ai,ac,aj⟩:=H
 refine⟨b,o,cs,bx,rfl,hb.keep (k b O),ho,ot.frame λc hc=>k c (.inr (Z c hc)),ae,O,Z,ai,λc hc=>by have:=ac c hc;omega,λh2 x' cells' b' hf aa af ah=>aj h2 x' cells' b' (λc hc ak hl=>(hf c hc ak hl).trans (k c hl)) aa af ah⟩
theorem Doc.keep(H:Doc h rb v D)(k:∀c,c=rb\/c∈D->h'[c]?=h[c]?):Doc h' rb v D:=by
 obtain⟨⟨cs,hb,O,ot⟩,Z⟩:=H
 exact⟨⟨cs,hb.keep (k rb (.inl rfl)),O,ot.frame λc hc=>k c (.inr hc)⟩,Z⟩
theorem Doc.lt(H:Doc h rb v D):∀c,c=rb\/c∈D->c<h.size:=by
 obtain⟨⟨cs,hb,O,ot⟩,Z⟩:=H
 rintro c (rfl|hc)
 ·exact hb.lt
 ·exact ot.lt c hc
end
end Go.X
end
section
namespace Go.X
section
theorem J8(gl:Fr)(l0:List (Bt×(List Bt)×(List Bt)×Tr))(v1:Tr)(R:Bool->Prop)
  (H:PC Tp gl 9 [] [.bool] (λa:Bool=>PC Tp gl 10 [Arg.mk .tree (Tr.mk v1.kind v1.text v1.keys v1.items),Arg.mk (.int .i64) 300] [.bool] (λb:Bool=>∃c:Bool->Prop,(b=true->PC Tp gl 11 [Arg.mk (.row (.pair .str (.pair (.row .str) (.pair (.row .str) .tree)))) l0] [.bool] c)/\∀d:Bool,(b=true->c d)->((!(bif b then d else false))=true->R a)/\((!(bif b then d else false))=false->PC Tp gl 22 [Arg.mk (.row (.pair .str (.pair (.row .str) (.pair (.row .str) .tree)))) l0] [.tree,.int .i64] (λe:Tr×Int=>PC Tp gl 23 [Arg.mk (.row (.pair .str (.pair (.row .str) (.pair (.row .str) .tree)))) l0] [.tree,.int .i64] (λf:Tr×Int=>PC Tp gl 24 [Arg.mk .tree (Tr.mk v1.kind v1.text v1.keys v1.items)] [.row (.pair .str (.pair (.row .str) (.pair (.row .str) .tree))),.int .i64,.int .i64] (λg:(List (Bt×(List Bt)×(List Bt)×Tr))×Int×Int=>PC Tp gl 25 [Arg.mk .tree (Tr.mk v1.kind v1.text v1.keys v1.items)] [.row (.pair .str (.pair (.row .str) (.pair (.row .str) .tree))),.int .i64,.int .i64] (λi:(List (Bt×(List Bt)×(List Bt)×Tr))×Int×Int=>∃j:Bool->Prop,(a=true->PC Tp gl 15 [Arg.mk .tree (Tr.mk e.1.kind e.1.text e.1.keys e.1.items),Arg.mk .tree (Tr.mk f.1.kind f.1.text f.1.keys f.1.items)] [.bool] j)/\∀k:Bool,(a=true->j k)->∃l:Bool->Prop,((bif (bif a then k else false)then(e.2==f.2)else false)=true->PC Tp gl 26 [Arg.mk (.row (.pair .str (.pair (.row .str) (.pair (.row .str) .tree)))) g.1,Arg.mk (.row (.pair .str (.pair (.row .str) (.pair (.row .str) .tree)))) i.1] [.bool] l)/\∀m:Bool,((bif (bif a then k else false)then(e.2==f.2)else false)=true->l m)->R (bif (bif (bif (bif (bif a then k else false)then(e.2==f.2)else false)then m else false)then(g.2.1==i.2.1)else false)then(g.2.2==i.2.2)else false))))))))):
  PC Tp gl 7 [Arg.mk (.row (.pair .str (.pair (.row .str) (.pair (.row .str) .tree)))) l0,Arg.mk .tree v1] [.bool] R:=
 PF ⟨[],[],[],[]⟩ [.tmp 4] 75 Tryz.func7 H
theorem zct(gl:Fr)(R:Bool->Prop)
  (H:PC Tp gl 27 [Arg.mk (.int .i64) 1] [.tree] (λa:Tr=>PC Tp gl 27 [Arg.mk (.int .i64) 2] [.tree] (λb:Tr=>PC Tp gl 29 [Arg.mk (.row .tree) [Tr.mk a.kind a.text a.keys a.items,Tr.mk b.kind b.text b.keys b.items]] [.tree] (λc:Tr=>PC Tp gl 28 [Arg.mk (.row .str) ([(⟨#[97]⟩:Bt)]:List Bt),Arg.mk (.row .tree) [Tr.mk c.kind c.text c.keys c.items]] [.tree] (λd:Tr=>PC Tp gl 27 [Arg.mk (.int .i64) 9] [.tree] (λe:Tr=>PC Tp gl 13 [Arg.mk .tree (Tr.mk d.kind d.text d.keys d.items),Arg.mk (.row (.pair .str (.pair (.row .str) (.pair (.row .str) .tree)))) ([((⟨#[97,100,100]⟩:Bt),(([(⟨#[97]⟩:Bt),(⟨#[49]⟩:Bt)]:List Bt),([],Tr.mk e.kind e.text e.keys e.items))),((⟨#[114,101,109,111,118,101]⟩:Bt),(([(⟨#[97]⟩:Bt),(⟨#[48]⟩:Bt)]:List Bt),([],Tr.mk 0 (⟨#[]⟩:Bt) [] [])))]:List (Bt×(List Bt)×(List Bt)×Tr))] [.tree,.int .i64,.int .i64] (λf:Tr×Int×Int=>PC Tp gl 29 [Arg.mk (.row .tree) [Tr.mk a.kind a.text a.keys a.items]] [.tree] (λg:Tr=>PC Tp gl 13 [Arg.mk .tree (Tr.mk g.kind g.text g.keys g.items),Arg.mk (.row (.pair .str (.pair (.row .str) (.pair (.row .str) .tree)))) ([((⟨#[109,111,118,101]⟩:Bt),(([(⟨#[48]⟩:Bt)]:List Bt),(([(⟨#[48]⟩:Bt),(⟨#[48]⟩:Bt)]:List Bt),Tr.mk 0 (⟨#[]⟩:Bt) [] [])))]:List (Bt×(List Bt)×(List Bt)×Tr))] [.tree,.int .i64,.int .i64] (λi:Tr×Int×Int=>PC Tp gl 29 [Arg.mk (.row .tree) [Tr.mk a.kind a.text a.keys a.items]] [.tree] (λj:Tr=>PC Tp gl 27 [Arg.mk (.int .i64) 2] [.tree] (λk:Tr=>PC Tp gl 13 [Arg.mk .tree (Tr.mk j.kind j.text j.keys j.items),Arg.mk (.row (.pair .str (.pair (.row .str) (.pair (.row .str) .tree)))) ([((⟨#[116,101,115,116]⟩:Bt),(([(⟨#[48]⟩:Bt)]:List Bt),([],Tr.mk k.kind k.text k.keys k.items)))]:List (Bt×(List Bt)×(List Bt)×Tr))] [.tree,.int .i64,.int .i64] (λl:Tr×Int×Int=>PC Tp gl 20 [Arg.mk .tree (Tr.mk f.1.kind f.1.text f.1.keys f.1.items),Arg.mk (.row .str) ([(⟨#[97]⟩:Bt),(⟨#[48]⟩:Bt)]:List Bt)] [.tree,.bool] (λm:Tr×Bool=>R (bif (bif (bif (bif (bif (bif (bif (f.2.2==0)then(f.2.1==2)else false)then m.2 else false)then(m.1.text.toList==(⟨#[57]⟩:Bt).toList)else false)then(i.2.1==0)else false)then(i.2.2==8)else false)then(l.2.1==0)else false)then(l.2.2==9)else false)))))))))))))):
  PC Tp gl 9 [] [.bool] R:=
 PF ⟨[],[(2,8,[],[0,1,7,2,3,4,5,6],[]),(3,13,[],[0,1,4,5,12,2,3,6,7,8,9,10,11],[10,11])],[],[]⟩ [.tmp 0] 94 Tryz.func9 H
theorem zfz(gl:Fr)(l0:List (Bt×(List Bt)×(List Bt)×Tr))(R:Bool->Prop)
  (H:∃(a:Int->Prop) (b:Int->Nat),a 0/\∀c:Int,a c->(((bif (decide (c<l0.length))then(decide (c<40))else false)=true->∃d:Bt×(List Bt)×(List Bt)×Tr,(0<=c/\l0[c.toNat]?=some d)/\PC Tp gl 19 [Arg.mk (.row .str) d.2.1] [.bool] (λe:Bool=>∃f:Bt×(List Bt)×(List Bt)×Tr,(e=true->(0<=c/\l0[c.toNat]?=some f))/\∃g:Bool->Prop,(e=true->PC Tp gl 19 [Arg.mk (.row .str) f.2.2.1] [.bool] g)/\∀i:Bool,(e=true->g i)->∃j:Bt×(List Bt)×(List Bt)×Tr,((bif e then i else false)=true->(0<=c/\l0[c.toNat]?=some j))/\∃k:Bool->Prop,((bif e then i else false)=true->PC Tp gl 10 [Arg.mk .tree (Tr.mk j.2.2.2.kind j.2.2.2.text j.2.2.2.keys j.2.2.2.items),Arg.mk (.int .i64) 200] [.bool] k)/\∀l:Bool,((bif e then i else false)=true->k l)->∃m:Bt×(List Bt)×(List Bt)×Tr,((!(!(bif (bif e then i else false)then l else false)))=true->(0<=c/\l0[c.toNat]?=some m))/\((bif (!(bif (bif e then i else false)then l else false))then true else(decide ((m.1.size:Int)>100)))=true->R false)/\((bif (!(bif (bif e then i else false)then l else false))then true else(decide ((m.1.size:Int)>100)))=false->(a (Aa .i64 (c+1))/\b (Aa .i64 (c+1))<b c))))/\((bif (decide (c<l0.length))then(decide (c<40))else false)=false->R (decide ((l0.length:Int)<=30))))):
  PC Tp gl 11 [Arg.mk (.row (.pair .str (.pair (.row .str) (.pair (.row .str) .tree)))) l0] [.bool] R:=
 PF ⟨[],[],[(2,⟨[(3,.one (.dat (.int .i64)))],[],[],[100192]⟩)],[]⟩ [.tmp 2] 51 Tryz.func11 H
theorem zk8(gl:Fr)(o0:Bt×(List Bt)×(List Bt)×Tr)(R:Bool->Prop)
  (H:PC Tp gl 36 [Arg.mk .str o0.1] [.bool,.bool,.bool] (λa:Bool×Bool×Bool=>∀b:Bool->Prop,(∀c:Bool,((c=true->R false)/\(c=false->(a.1=true->PC Tp gl 21 [Arg.mk .tree (Tr.mk o0.2.2.2.kind o0.2.2.2.text o0.2.2.2.keys o0.2.2.2.items)] [.bool] (λd:Bool=>R d))/\(a.1=false->PC Tp gl 38 [Arg.mk .tree (Tr.mk o0.2.2.2.kind o0.2.2.2.text o0.2.2.2.keys o0.2.2.2.items)] [.bool] (λe:Bool=>R e))))->b c)->((!a.2.2)=true->b (!a.2.2))/\((!a.2.2)=false->PC Tp gl 37 [Arg.mk (.row .str) o0.2.1] [.bool] (λf:Bool=>((!f)=true->b (!f))/\((!f)=false->PC Tp gl 37 [Arg.mk (.row .str) o0.2.2.1] [.bool] (λg:Bool=>((!g)=true->b (!g))/\((!g)=false->b (bif (!a.2.1)then(decide ((o0.2.2.1.length:Int)>0))else false)))))))):
  PC Tp gl 17 [Arg.mk (.pair .str (.pair (.row .str) (.pair (.row .str) .tree))) o0] [.bool] R:=
 PF ⟨[],[],[],[(6,⟨[(13,.one (.dat .bool))],[],[1],[100832]⟩)]⟩ [.tmp 2] 40 Tryz.func17 H
theorem zcu(gl:Fr)(o0:Bt×(List Bt)×(List Bt)×Tr)(R:Bool->Prop)
  (H:PC Tp gl 39 [Arg.mk .str o0.1] [.bool,.bool,.bool] (λa:Bool×Bool×Bool=>PC Tp gl 40 [Arg.mk (.row .str) o0.2.1] [.bool] (λb:Bool=>PC Tp gl 40 [Arg.mk (.row .str) o0.2.2.1] [.bool] (λc:Bool=>((bif (bif (bif (!a.2.2)then true else(!b))then true else(!c))then true else(bif (!a.2.1)then(decide ((o0.2.2.1.length:Int)>0))else false))=true->R false)/\((bif (bif (bif (!a.2.2)then true else(!b))then true else(!c))then true else(bif (!a.2.1)then(decide ((o0.2.2.1.length:Int)>0))else false))=false->(a.1=true->PC Tp gl 34 [Arg.mk .tree (Tr.mk o0.2.2.2.kind o0.2.2.2.text o0.2.2.2.keys o0.2.2.2.items)] [.bool] (λd:Bool=>R d))/\(a.1=false->PC Tp gl 41 [Arg.mk .tree (Tr.mk o0.2.2.2.kind o0.2.2.2.text o0.2.2.2.keys o0.2.2.2.items)] [.bool] (λe:Bool=>R e))))))):
  PC Tp gl 18 [Arg.mk (.pair .str (.pair (.row .str) (.pair (.row .str) .tree))) o0] [.bool] R:=
 PF ⟨[],[],[],[]⟩ [.tmp 2] 48 Tryz.func18 H
theorem zk9(gl:Fr)(v0:Tr)(R:((List (Bt×(List Bt)×(List Bt)×Tr))×Int×Int)->Prop)
  (H:PC Tp gl 21 [Arg.mk .tree (Tr.mk v0.kind v0.text v0.keys v0.items)] [.bool] (λa:Bool=>((bif (!a)then true else(v0.kind != 5))=true->R ([],0,2))/\((bif (!a)then true else(v0.kind != 5))=false->∃(b:(List (Bt×(List Bt)×(List Bt)×Tr))->Int->Prop) (c:(List (Bt×(List Bt)×(List Bt)×Tr))->Int->Nat),b [] 0/\∀d:List (Bt×(List Bt)×(List Bt)×Tr),∀e:Int,b d e->((decide (e<v0.items.length)=true->∃f,(0<=e/\v0.items[e.toNat]?=some f)/\((e==4096)=true->R ([],e,6))/\((e==4096)=false->PC Tp gl 53 [Arg.mk .tree (Tr.mk f.kind f.text f.keys f.items)] [.pair .str (.pair (.row .str) (.pair (.row .str) .tree)),.bool] (λg:(Bt×(List Bt)×(List Bt)×Tr)×Bool=>((!g.2)=true->R ([],e,2))/\((!g.2)=false->((d.length+Bb ([(g.1.1,(g.1.2.1,(g.1.2.2.1,Tr.mk g.1.2.2.2.kind g.1.2.2.2.text g.1.2.2.2.keys g.1.2.2.2.items)))]:List (Bt×(List Bt)×(List Bt)×Tr)))*136<=140737488355328/\(b (d++[(g.1.1,(g.1.2.1,(g.1.2.2.1,Tr.mk g.1.2.2.2.kind g.1.2.2.2.text g.1.2.2.2.keys g.1.2.2.2.items)))]) (Aa .i64 (e+1))/\c (d++[(g.1.1,(g.1.2.1,(g.1.2.2.1,Tr.mk g.1.2.2.2.kind g.1.2.2.2.text g.1.2.2.2.keys g.1.2.2.2.items)))]) (Aa .i64 (e+1))<c d e))))))/\(decide (e<v0.items.length)=false->R (d,(d.length:Int),0)))))):
  PC Tp gl 24 [Arg.mk .tree v0] [.row (.pair .str (.pair (.row .str) (.pair (.row .str) .tree))),.int .i64,.int .i64] R:=
 PF ⟨[],[],[(5,⟨[(5,.one (.own 38 (.pair .str (.pair (.row .str) (.pair (.row .str) .tree))))),(21,.one (.dat (.int .i64)))],[],[],[100320,101344]⟩)],[]⟩ [.tmp 2,.tmp 3,.tmp 4] 45 Tryz.func24 H
theorem zcv(gl:Fr)(v0:Tr)(R:((List (Bt×(List Bt)×(List Bt)×Tr))×Int×Int)->Prop)
  (H:PC Tp gl 34 [Arg.mk .tree (Tr.mk v0.kind v0.text v0.keys v0.items)] [.bool] (λa:Bool=>((bif (!a)then true else(v0.kind != 5))=true->R ([],0,2))/\((bif (!a)then true else(v0.kind != 5))=false->∃(b:(List (Bt×(List Bt)×(List Bt)×Tr))->Int->Prop) (c:(List (Bt×(List Bt)×(List Bt)×Tr))->Int->Nat),b [] 0/\∀d:List (Bt×(List Bt)×(List Bt)×Tr),∀e:Int,b d e->((decide (e<v0.items.length)=true->((e==4096)=true->R ([],4096,6))/\((e==4096)=false->∃f,(0<=e/\v0.items[e.toNat]?=some f)/\PC Tp gl 54 [Arg.mk .tree (Tr.mk f.kind f.text f.keys f.items)] [.pair .str (.pair (.row .str) (.pair (.row .str) .tree)),.bool] (λg:(Bt×(List Bt)×(List Bt)×Tr)×Bool=>((!g.2)=true->R ([],e,2))/\((!g.2)=false->((d.length+Bb ([(g.1.1,(g.1.2.1,(g.1.2.2.1,Tr.mk g.1.2.2.2.kind g.1.2.2.2.text g.1.2.2.2.keys g.1.2.2.2.items)))]:List (Bt×(List Bt)×(List Bt)×Tr)))*136<=140737488355328/\(b (d++[(g.1.1,(g.1.2.1,(g.1.2.2.1,Tr.mk g.1.2.2.2.kind g.1.2.2.2.text g.1.2.2.2.keys g.1.2.2.2.items)))]) (Aa .i64 (e+1))/\c (d++[(g.1.1,(g.1.2.1,(g.1.2.2.1,Tr.mk g.1.2.2.2.kind g.1.2.2.2.text g.1.2.2.2.keys g.1.2.2.2.items)))]) (Aa .i64 (e+1))<c d e))))))/\(decide (e<v0.items.length)=false->R (d,(d.length:Int),0)))))):
  PC Tp gl 25 [Arg.mk .tree v0] [.row (.pair .str (.pair (.row .str) (.pair (.row .str) .tree))),.int .i64,.int .i64] R:=
 PF ⟨[],[],[(6,⟨[(6,.one (.own 38 (.pair .str (.pair (.row .str) (.pair (.row .str) .tree))))),(7,.one (.dat (.int .i64)))],[],[1],[100384,100448]⟩)],[]⟩ [.tmp 2,.tmp 3,.tmp 4] 47 Tryz.func25 H
theorem zeq(gl:Fr)(a0:List (Bt×(List Bt)×(List Bt)×Tr))(b1:List (Bt×(List Bt)×(List Bt)×Tr))(R:Bool->Prop)
  (H:(((a0.length:Int) != (b1.length:Int))=true->R false)/\(((a0.length:Int) != (b1.length:Int))=false->∃(a:Int->Prop) (b:Int->Nat),a 0/\∀c:Int,a c->((decide (c<a0.length)=true->∃d:Bt×(List Bt)×(List Bt)×Tr,(0<=c/\a0[c.toNat]?=some d)/\∃e:Bt×(List Bt)×(List Bt)×Tr,(0<=c/\b1[c.toNat]?=some e)/\PC Tp gl 15 [Arg.mk .tree (Tr.mk d.2.2.2.kind d.2.2.2.text d.2.2.2.keys d.2.2.2.items),Arg.mk .tree (Tr.mk e.2.2.2.kind e.2.2.2.text e.2.2.2.keys e.2.2.2.items)] [.bool] (λf:Bool=>∃g:Bt×(List Bt)×(List Bt)×Tr,((!(!f))=true->(0<=c/\a0[c.toNat]?=some g))/\∃i:Bt×(List Bt)×(List Bt)×Tr,((!(!f))=true->(0<=c/\b1[c.toNat]?=some i))/\∃j:Bt×(List Bt)×(List Bt)×Tr,((!(bif (!f)then true else(!(g.1.toList==i.1.toList))))=true->(0<=c/\a0[c.toNat]?=some j))/\∃k:Bt×(List Bt)×(List Bt)×Tr,((!(bif (!f)then true else(!(g.1.toList==i.1.toList))))=true->(0<=c/\b1[c.toNat]?=some k))/\∃l:Bool->Prop,((!(bif (!f)then true else(!(g.1.toList==i.1.toList))))=true->PC Tp gl 55 [Arg.mk (.row .str) j.2.1,Arg.mk (.row .str) k.2.1] [.bool] l)/\∀m:Bool,((!(bif (!f)then true else(!(g.1.toList==i.1.toList))))=true->l m)->∃n:Bt×(List Bt)×(List Bt)×Tr,((!(bif (bif (!f)then true else(!(g.1.toList==i.1.toList)))then true else(!m)))=true->(0<=c/\a0[c.toNat]?=some n))/\∃o:Bt×(List Bt)×(List Bt)×Tr,((!(bif (bif (!f)then true else(!(g.1.toList==i.1.toList)))then true else(!m)))=true->(0<=c/\b1[c.toNat]?=some o))/\∃p:Bool->Prop,((!(bif (bif (!f)then true else(!(g.1.toList==i.1.toList)))then true else(!m)))=true->PC Tp gl 55 [Arg.mk (.row .str) n.2.2.1,Arg.mk (.row .str) o.2.2.1] [.bool] p)/\∀q:Bool,((!(bif (bif (!f)then true else(!(g.1.toList==i.1.toList)))then true else(!m)))=true->p q)->((bif (bif (bif (!f)then true else(!(g.1.toList==i.1.toList)))then true else(!m))then true else(!q))=true->R false)/\((bif (bif (bif (!f)then true else(!(g.1.toList==i.1.toList)))then true else(!m))then true else(!q))=false->(a (Aa .i64 (c+1))/\b (Aa .i64 (c+1))<b c))))/\(decide (c<a0.length)=false->R true)))):
  PC Tp gl 26 [Arg.mk (.row (.pair .str (.pair (.row .str) (.pair (.row .str) .tree)))) a0,Arg.mk (.row (.pair .str (.pair (.row .str) (.pair (.row .str) .tree)))) b1] [.bool] R:=
 PF ⟨[(6,10)],[(7,40,[],[0,1,2,3,4,5,6,7,8,9,10,11,12,13,14,15,16,17,18,19,20,21,22,23,24,25,26,27,28,29,30,31,32,33,34,35,36,37,38,39],[])],[(4,⟨[(5,.one (.dat (.int .i64)))],[],[],[100320]⟩)],[]⟩ [.tmp 4] 72 Tryz.func26 H
theorem zcw(gl:Fr)(v0:Tr)(R:Bool->Prop)
  (H:PC Tp gl 65 [Arg.mk .tree (Tr.mk v0.kind v0.text v0.keys v0.items)] [.int .i64] (λa:Int=>∃b:Int->Prop,(decide (a<=4096)=true->PC Tp gl 66 [Arg.mk .tree (Tr.mk v0.kind v0.text v0.keys v0.items)] [.int .i64] b)/\∀c:Int,(decide (a<=4096)=true->b c)->∃d:Bool->Prop,((bif (decide (a<=4096))then(decide (c<=32))else false)=true->PC Tp gl 67 [Arg.mk .tree (Tr.mk v0.kind v0.text v0.keys v0.items),Arg.mk .bool false] [.bool] d)/\∀e:Bool,((bif (decide (a<=4096))then(decide (c<=32))else false)=true->d e)->R (bif (bif (decide (a<=4096))then(decide (c<=32))else false)then e else false))):
  PC Tp gl 34 [Arg.mk .tree v0] [.bool] R:=
 PF ⟨[],[],[],[]⟩ [.tmp 2] 15 Tryz.func34 H
theorem zla(gl:Fr)(O:Bt)(R:(Bool×Bool×Bool)->Prop)
  (H:∀a:Bool->Prop,(∀b:Bool,((b=true->R (true,false,true))/\(b=false->((O.toList==(⟨#[109,111,118,101]⟩:Bt).toList)=true->((O.toList==(⟨#[109,111,118,101]⟩:Bt).toList)=true->R (false,true,true))/\((O.toList==(⟨#[109,111,118,101]⟩:Bt).toList)=false->R (false,false,(O.toList==(⟨#[114,101,109,111,118,101]⟩:Bt).toList))))/\((O.toList==(⟨#[109,111,118,101]⟩:Bt).toList)=false->((O.toList==(⟨#[99,111,112,121]⟩:Bt).toList)=true->R (false,true,true))/\((O.toList==(⟨#[99,111,112,121]⟩:Bt).toList)=false->R (false,false,(O.toList==(⟨#[114,101,109,111,118,101]⟩:Bt).toList))))))->a b)->((O.toList==(⟨#[97,100,100]⟩:Bt).toList)=true->a (O.toList==(⟨#[97,100,100]⟩:Bt).toList))/\((O.toList==(⟨#[97,100,100]⟩:Bt).toList)=false->((O.toList==(⟨#[114,101,112,108,97,99,101]⟩:Bt).toList)=true->a (O.toList==(⟨#[114,101,112,108,97,99,101]⟩:Bt).toList))/\((O.toList==(⟨#[114,101,112,108,97,99,101]⟩:Bt).toList)=false->a (O.toList==(⟨#[116,101,115,116]⟩:Bt).toList)))):
  PC Tp gl 36 [Arg.mk .str O] [.bool,.bool,.bool] R:=
 PF ⟨[],[],[],[(5,⟨[(6,.one (.dat .bool))],[],[],[100384]⟩)]⟩ [.tmp 2,.tmp 3,.tmp 4] 15 Tryz.func36 H
theorem zov(gl:Fr)(v0:Tr)(R:Bool->Prop)
  (H:R (bif (bif (v0.kind==0)then(v0.text.toList==(⟨#[]⟩:Bt).toList)else false)then((Aa .i64 ((v0.keys.length:Int)+(v0.items.length:Int)))==0)else false)):
  PC Tp gl 38 [Arg.mk .tree v0] [.bool] R:=
 PF ⟨[],[],[],[]⟩ [.tmp 2] 21 Tryz.func38 H
theorem zcx(gl:Fr)(O:Bt)(R:(Bool×Bool×Bool)->Prop)
  (H:∀a:Bool->Prop,(∀b:Bool,((b=true->R (true,false,true))/\(b=false->((O.toList==(⟨#[114,101,109,111,118,101]⟩:Bt).toList)=true->R (false,false,true))/\((O.toList==(⟨#[114,101,109,111,118,101]⟩:Bt).toList)=false->((O.toList==(⟨#[109,111,118,101]⟩:Bt).toList)=true->((O.toList==(⟨#[109,111,118,101]⟩:Bt).toList)=true->R (false,true,true))/\((O.toList==(⟨#[109,111,118,101]⟩:Bt).toList)=false->R (false,false,false)))/\((O.toList==(⟨#[109,111,118,101]⟩:Bt).toList)=false->((O.toList==(⟨#[99,111,112,121]⟩:Bt).toList)=true->R (false,true,true))/\((O.toList==(⟨#[99,111,112,121]⟩:Bt).toList)=false->R (false,false,false))))))->a b)->((O.toList==(⟨#[97,100,100]⟩:Bt).toList)=true->a (O.toList==(⟨#[97,100,100]⟩:Bt).toList))/\((O.toList==(⟨#[97,100,100]⟩:Bt).toList)=false->((O.toList==(⟨#[114,101,112,108,97,99,101]⟩:Bt).toList)=true->a (O.toList==(⟨#[114,101,112,108,97,99,101]⟩:Bt).toList))/\((O.toList==(⟨#[114,101,112,108,97,99,101]⟩:Bt).toList)=false->a (O.toList==(⟨#[116,101,115,116]⟩:Bt).toList)))):
  PC Tp gl 39 [Arg.mk .str O] [.bool,.bool,.bool] R:=
 PF ⟨[],[],[],[(5,⟨[(6,.one (.dat .bool))],[],[],[100384]⟩)]⟩ [.tmp 2,.tmp 3,.tmp 4] 15 Tryz.func39 H
theorem zer(gl:Fr)(v0:Tr)(R:Bool->Prop)
  (H:R (bif (bif (bif (v0.kind==0)then(v0.text.toList==(⟨#[]⟩:Bt).toList)else false)then((v0.keys.length:Int)==0)else false)then((v0.items.length:Int)==0)else false)):
  PC Tp gl 41 [Arg.mk .tree v0] [.bool] R:=
 PF ⟨[],[],[],[]⟩ [.tmp 2] 23 Tryz.func41 H
theorem zg5(gl:Fr)(v0:Tr)(R:Bool->Prop)
  (H:∃a:Bool->Prop,((v0.kind != 7)=true->PC Tp gl 47 [Arg.mk .tree (Tr.mk v0.kind v0.text v0.keys v0.items)] [.bool] a)/\∀b:Bool,((v0.kind != 7)=true->a b)->R (bif (v0.kind != 7)then b else false)):
  PC Tp gl 46 [Arg.mk .tree v0] [.bool] R:=
 PF ⟨[],[],[],[]⟩ [.tmp 2] 10 Tryz.func46 H
theorem zjv(gl:Fr)(o0:Bt×(List Bt)×(List Bt)×Tr)(R:Bool->Prop)
  (H:PC Tp gl 17 [Arg.mk (.pair .str (.pair (.row .str) (.pair (.row .str) .tree))) (o0.1,(o0.2.1,(o0.2.2.1,Tr.mk o0.2.2.2.kind o0.2.2.2.text o0.2.2.2.keys o0.2.2.2.items)))] [.bool] (λa:Bool=>R (!a))):
  PC Tp gl 49 [Arg.mk (.pair .str (.pair (.row .str) (.pair (.row .str) .tree))) o0] [.bool] R:=
 PF ⟨[],[],[],[]⟩ [.tmp 2] 6 Tryz.func49 H
theorem zg6(gl:Fr)(O:Bt)(R:Tr->Prop)
  (H:R (Tr.mk 4 O [] [])):
  PC Tp gl 52 [Arg.mk .str O] [.tree] R:=
 PF ⟨[],[],[],[]⟩ [.cell 2 25] 5 Tryz.func52 H
theorem ztk(gl:Fr)(O:Bt)(R:Tr->Prop)
  (H:R (Tr.mk 4 O [] [])):
  PC Tp gl 88 [Arg.mk .str O] [.tree] R:=
 PF ⟨[],[],[],[]⟩ [.cell 2 25] 5 Tryz.func88 H
theorem zow(gl:Fr)(v0:Tr)(O:Bt)(R:(Bt×Bool)->Prop)
  (H:PC Tp gl 92 [Arg.mk .tree (Tr.mk v0.kind v0.text v0.keys v0.items),Arg.mk .str O] [.tree,.bool] (λa:Tr×Bool=>R (a.1.text,bif a.2 then(a.1.kind==4)else false))):
  PC Tp gl 90 [Arg.mk .tree v0,Arg.mk .str O] [.str,.bool] R:=
 PF ⟨[],[],[],[]⟩ [.tmp 4,.tmp 5] 22 Tryz.func90 H
theorem zox(gl:Fr)(v0:Tr)(O:Bt)(R:((List Bt)×Bool)->Prop)
  (H:PC Tp gl 90 [Arg.mk .tree (Tr.mk v0.kind v0.text v0.keys v0.items),Arg.mk .str O] [.str,.bool] (λa:Bt×Bool=>((!a.2)=true->R ([],false))/\((!a.2)=false->PC Tp gl 124 [Arg.mk .str a.1] [.row .str,.int .i64] (λb:(List Bt)×Int=>R (b.1,b.2==0))))):
  PC Tp gl 91 [Arg.mk .tree v0,Arg.mk .str O] [.row .str,.bool] R:=
 PF ⟨[],[],[],[]⟩ [.tmp 4,.tmp 5] 26 Tryz.func91 H
theorem zf0(gl:Fr)(v0:Tr)(O:Bt)(R:(Tr×Bool)->Prop)
  (H:PC Tp gl 107 [Arg.mk .tree (Tr.mk v0.kind v0.text v0.keys v0.items)] [.bool] (λa:Bool=>PC Tp gl 126 [Arg.mk .tree (Tr.mk v0.kind v0.text v0.keys v0.items),Arg.mk .str O] [.int .i64] (λb:Int=>((bif (bif (!a)then true else(v0.kind != 6))then true else(decide (b<0)))=true->R (Tr.mk 0 (⟨#[]⟩:Bt) [] [],false))/\((bif (bif (!a)then true else(v0.kind != 6))then true else(decide (b<0)))=false->∃c,(0<=b/\v0.items[b.toNat]?=some c)/\PC Tp gl 12 [Arg.mk .tree (Tr.mk c.kind c.text c.keys c.items)] [.tree] (λd:Tr=>R (Tr.mk d.kind d.text d.keys d.items,true)))))):
  PC Tp gl 93 [Arg.mk .tree v0,Arg.mk .str O] [.tree,.bool] R:=
 PF ⟨[],[],[],[]⟩ [.cell 4 25,.tmp 5] 31 Tryz.func93 H
theorem zes(gl:Fr)(v0:Tr)(O:Bt)(R:((List Bt)×Bool)->Prop)
  (H:PC Tp gl 93 [Arg.mk .tree (Tr.mk v0.kind v0.text v0.keys v0.items),Arg.mk .str O] [.tree,.bool] (λa:Tr×Bool=>PC Tp gl 127 [Arg.mk .str a.1.text] [.row .str,.int .i64] (λb:(List Bt)×Int=>R (b.1,bif (bif a.2 then(a.1.kind==4)else false)then(b.2==0)else false)))):
  PC Tp gl 94 [Arg.mk .tree v0,Arg.mk .str O] [.row .str,.bool] R:=
 PF ⟨[],[],[],[]⟩ [.tmp 4,.tmp 5] 33 Tryz.func94 H
theorem zoy(gl:Fr)(a0:Tr)(b1:Tr)(R:Bool->Prop)
  (H:PC Tp gl 42 [Arg.mk .tree (Tr.mk a0.kind a0.text a0.keys a0.items)] [.bool] (λa:Bool=>∃b:Bool->Prop,(a=true->PC Tp gl 42 [Arg.mk .tree (Tr.mk b1.kind b1.text b1.keys b1.items)] [.bool] b)/\∀c:Bool,(a=true->b c)->∃d:Bool->Prop,((bif a then c else false)=true->PC Tp gl 137 [Arg.mk .tree (Tr.mk a0.kind a0.text a0.keys a0.items),Arg.mk .tree (Tr.mk b1.kind b1.text b1.keys b1.items)] [.bool] d)/\∀e:Bool,((bif a then c else false)=true->d e)->R (bif (bif a then c else false)then e else false))):
  PC Tp gl 105 [Arg.mk .tree a0,Arg.mk .tree b1] [.bool] R:=
 PF ⟨[],[],[],[]⟩ [.tmp 4] 16 Tryz.func105 H
theorem zg7(gl:Fr)(v0:Tr)(O:Bt)(R:Int->Prop)
  (H:∃(a:Int->Prop) (b:Int->Nat),a 0/\∀c:Int,a c->((decide (c<v0.keys.length)=true->∃d,(0<=c/\v0.keys[c.toNat]?=some d)/\((d.toList==O.toList)=true->R c)/\((d.toList==O.toList)=false->(a (Aa .i64 (c+1))/\b (Aa .i64 (c+1))<b c)))/\(decide (c<v0.keys.length)=false->R (-1)))):
  PC Tp gl 126 [Arg.mk .tree v0,Arg.mk .str O] [.int .i64] R:=
 PF ⟨[],[],[(2,⟨[(5,.one (.dat (.int .i64)))],[],[2],[100320]⟩)],[]⟩ [.tmp 4] 21 Tryz.func126 H
theorem zlb(gl:Fr)(v0:Tr)(O:Bt)(R:Int->Prop)
  (H:((v0.kind==6)=true->PC Tp gl 144 [Arg.mk (.row .str) v0.keys,Arg.mk .str O] [.int .i64] (λa:Int=>R a))/\((v0.kind==6)=false->PC Tp gl 145 [Arg.mk .str O] [.int .i64,.bool] (λb:Int×Bool=>((bif (bif b.2 then(v0.kind==5)else false)then(decide (b.1<v0.items.length))else false)=true->R b.1)/\((bif (bif b.2 then(v0.kind==5)else false)then(decide (b.1<v0.items.length))else false)=false->R (-1))))):
  PC Tp gl 134 [Arg.mk .tree v0,Arg.mk .str O] [.int .i64] R:=
 PF ⟨[],[],[],[]⟩ [.tmp 4] 33 Tryz.func134 H
end
end Go.X
end
