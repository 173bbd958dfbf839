/- A part of the proof: nothing is stated here for its own sake. -/
import Derived.Test.YtjohlemfgcmaoaaGreatDoorPnE
open _root_.Go.Addr renaming add->Af
open _root_.Array renaming getElem?_eq_getElem->AJ,getElem?_eq_some_iff->Ac,getElem?_toList->BB,replicate->Be,size_push->Al,size_setIfInBounds->A7
open _root_.Bool renaming eq_iff_iff->Az,false_or->Dl,not_eq_true'->C3,not_not->DY,or_eq_true->Bh
open _root_.Go.Builtin renaming append_->AD
open _root_.ByteArray renaming empty->DR
open _root_.Go.Instr renaming storeAt->Aj
open _root_.Int renaming toNat_natCast->Ae
open _root_.Go.IntKind renaming wrap->Aa
open _root_.List renaming all_eq_true->A4,append_nil->A8,cons_append->Bu,drop_eq_getElem_cons->Ay,drop_eq_nil_of_le->AU,drop_length->Dc,drop_zero->BC,eq_nil_iff_forall_not_mem->CG,exists_cons_of_ne_nil->AX,ext_getElem?->Bc,getD->Ec,getElem?_append_right->A6,getElem?_drop->AE,getElem?_eq_getElem->Ak,getElem?_eq_some_iff->Au,getElem?_map->Cc,getElem?_modify->Bn,getElem_drop->Dp,getElem_mem->AM,getElem_of_mem->AY,length->Cd,length_append->Ar,length_cons->AI,length_drop->As,length_eq_zero_iff->AW,length_erase_of_mem->CH,length_map->AL,length_nil->Cv,length_pos_iff->Bj,length_range->Dn,length_take->AN,map_append->CP,mem_append->Aw,mem_append_right->Av,mem_cons->Ai,mem_cons_of_mem->Ag,mem_cons_self->Am,mem_flatMap->Bo,mem_of_getElem?->Ba,mem_range->BK,nodup_append->BQ,nodup_cons->DO,nodup_range->C8,range->BO,take_append_drop->Ce,take_left->Dr,take_length->A5,take_succ_cons->Cs,take_succ_eq_append_getElem->AH,take_zero->DV
open _root_.List.cons renaming injEq->BR
open _root_.Nat renaming add_sub_cancel_left->C7,add_zero->CQ,eq_or_lt_of_le->Dh,eq_zero_or_pos->CY,le_refl->Ad,le_trans->DU,lt_or_ge->AF,sub_zero->CU,zero_add->AB,zero_le->CK
open _root_.Option renaming map_some->D5
open _root_.Option.some renaming inj->Aq
open _root_.Go.Region renaming wanted->Bl
open _root_.UInt8 renaming toNat_inj->CB
open _root_.Go.Value renaming int->D7
set_option linter.unusedVariables false
set_option maxRecDepth 100000
namespace Go.X
end Go.X
namespace Go.Proofs
end Go.Proofs
open Go Go.X Go.Proofs
section
namespace Go.X
open Go Go.X Go.Proofs Go.RowKit
section
variable {n bv cv:Nat} {t el ty:TypeId} {zv:Value} {ks:Sl} {K:Value -> zb -> Prop}
theorem NS.cell{lo:Nat}{g:zb}{M:Fr}{na:NA}{sl:Sl}{b:Nat}{cs:Array Value}(H:NS lo g M na sl b cs)(hn:n<na.length):sl.a=some ⟨b,0,none⟩/\Blk g b cs/\sl.cap≠0/\n*7+7<=cs.size/\∀(q:Nat) (v:Value),q<7->(ndC na[n])[q]?=some v->zc g ⟨b,n*7+q,none⟩=some v:=by
 have Z:na.map ndC≠[]:=λh=>by rw[List.map_eq_nil_iff]at h;rw[h]at hn;simp at hn
 obtain⟨h1,h2⟩:=H.cr.blk Z
 obtain⟨h3,h4⟩:=H.cr.el n (ndC na[n]) (by rw[Cc,Ak hn];rfl)
 refine⟨h1,h2,by have:=H.len;have:=H.cr.ro.le;omega,by omega,λq v hq hv=>h2.cell ?_⟩
 have:=zrf h4 hq
 rw[hv]at this
 rw[<-this,BB]
def axK(k:Int)(s':Sl)(Z:List Nat)(p:Nd×Ax):Nd×Ax:=((p.1.1,p.1.2.1,p.1.2.2.1,p.1.2.2.2.1++[k],p.1.2.2.2.2),⟨s',Z,p.2.ps,p.2.pb⟩)
def axP(k:Sp)(s':Sl)(Z:List Nat)(p:Nd×Ax):Nd×Ax:=((p.1.1,p.1.2.1,p.1.2.2.1,p.1.2.2.2.1,p.1.2.2.2.2++[k]),⟨p.2.ks,p.2.kb,s',Z⟩)
def axT(t:Int)(p:Nd×Ax):Nd×Ax:=(z4y t p.1,p.2)
theorem xn{f:Nd×Ax->Nd×Ax}{f':Nd->Nd}(h:∀p,(f p).1=f' p.1)(na:NA)(n:Nat):(na.modify n f).map (·.1)=(na.map (·.1)).modify n f':=by
 apply Bc
 intro i
 rw[Cc,Bn,Bn,Cc]
 cases na[i]? with
 |none=>rfl
 |some p=>by_cases e:n=i <;> simp[e,h]
structure NSt (lo:Nat) (g:zb) (M:Fr) (na:NA) (sl:Sl) (b:Nat) (g':zb) (na':NA) (cs':Array Value):Prop where
 ns:NS lo g' M na' sl b cs'
 le:g.size<=g'.size
 sub:∀c,nsO na' sl b c->nsO na sl b c\/g.size<=c
 fr:∀j,j<g.size->¬nsO na sl b j->g'[j]?=g[j]?
section
variable {lo : Nat} {g : zb} {M : Fr} {na : NA} {sl : Sl} {b : Nat} {cs : Array Value}
theorem NS.addK{bytes:Nat}(E:ElemT Tp t el zv (sz (.int .i64)) bytes)(ah:bytes<=1000)(ag:AgM M g)(ak:lo<=g.size)(H:NS lo g M na sl b cs)(hn:n<na.length){k:Int}(hv:Blk g bv #[.int .i64 k])(hb:na[n].1.2.2.2.1.length<=1000000)(ai:na[n].2.ks=ks)
  (hK:∀(s':Sl) (g1:zb) (Z:List Nat),Blk g1 b cs->g.size<=g1.size->(∀j,j<g.size->¬nsO na sl b j->g1[j]?=g[j]?)->(∀g2:zb,Blk g2 b (cs.setIfInBounds (n*7+5) (slV s'))->g2.size=g1.size->(∀j,j≠b->g2[j]?=g1[j]?)->NSt lo g M na sl b g2 (na.modify n (axK k s' Z)) (cs.setIfInBounds (n*7+5) (slV s')))->K (.slice s'.a s'.len s'.cap) g1):
  XRun Tp (AD #[t,t] ty #[.slice ks.a ks.len ks.cap,.slice (some ⟨bv,0,none⟩) 1 cv]) g K:=by
 subst ai
 obtain⟨h1,h2,h3,h4,h5⟩:=H.cell hn
 have hm:=AM hn
 have I:=H.nd _ hm
 have aj:=(H.lb h3).2.1
 refine ORow.app E ah ag I.kk ak hv rfl hb λs' g1 Z o1 z1 c1 f1=>?_
 have af:b∉na[n].2.kb:=λh=>H.nb _ hm (.inl h)
 have ab:b∉Z:=λh=>by
  rcases c1 b h with h|h
  ·exact af h
  ·omega
 refine hK s' g1 Z (h2.keep (f1 b aj af)) z1 (λj hj aa=>f1 j hj λh=>aa (.inr ⟨_,hm,.inl h⟩)) λg2 B2 z2 f2=>?_
 have ae:∀j,j<g.size->j≠b->¬axO na[n] j->g2[j]?=g[j]?:=λj hj h1 h2=>by rw[f2 j h1,f1 j hj λh=>h2 (.inl h)]
 have q1:NdI lo g2 M (axK k s' Z na[n]):=by
  refine⟨?_,?_,?_⟩
  ·exact o1.frame (λc hc=>f2 c λe=>ab (e ▸ hc)) (Fr.le.refl _) λc hc=>(o1.own c hc).2.2
  ·exact I.pp.frame (λc hc=>by have:=(I.pp.own c hc).2.1;rw[f2 c λe=>H.nb _ hm (.inr (e ▸ hc))];exact f1 c this λh=>I.dd c h hc) (Fr.le.refl _) λc hc=>(I.pp.own c hc).2.2
  ·intro c hc hp
   rcases c1 c hc with h|h
   ·exact I.dd c h hp
   ·have:=(I.pp.own c hp).2.1;omega
 have q2:∀c,axO (axK k s' Z na[n]) c->axO na[n] c\/g.size<=c:=by
  intro c hc
  rcases hc with hc|hc
  ·rcases c1 c hc with h|h
   ·exact .inl (.inl h)
   ·exact .inr h
  ·exact .inl (.inr hc)
 obtain⟨N,ow⟩:=H.upd hn (f:=axK k s' Z) (q:=5) (v:=slV s') (by omega) B2 (by omega) rfl q1 q2 ae
 exact⟨N,by omega,ow,λj hj aa=>ae j hj (λe=>aa (.inl ⟨h3,e⟩)) λh=>aa (.inr ⟨_,hm,h⟩)⟩
theorem NS.addP{bytes:Nat}(E:ElemT Tp t el zv (sz tSp) bytes)(ah:bytes<=1000)(ag:AgM M g)(ak:lo<=g.size)(H:NS lo g M na sl b cs)(hn:n<na.length){k:Sp}(hv:Blk g bv #[.int .i64 k.1,.int .i64 k.2])(hb:na[n].1.2.2.2.2.length<=1000000)(ai:na[n].2.ps=ks)
  (hK:∀(s':Sl) (g1:zb) (Z:List Nat),Blk g1 b cs->g.size<=g1.size->(∀j,j<g.size->¬nsO na sl b j->g1[j]?=g[j]?)->(∀g2:zb,Blk g2 b (cs.setIfInBounds (n*7+6) (slV s'))->g2.size=g1.size->(∀j,j≠b->g2[j]?=g1[j]?)->NSt lo g M na sl b g2 (na.modify n (axP k s' Z)) (cs.setIfInBounds (n*7+6) (slV s')))->K (.slice s'.a s'.len s'.cap) g1):
  XRun Tp (AD #[t,t] ty #[.slice ks.a ks.len ks.cap,.slice (some ⟨bv,0,none⟩) 1 cv]) g K:=by
 subst ai
 obtain⟨h1,h2,h3,h4,h5⟩:=H.cell hn
 have hm:=AM hn
 have I:=H.nd _ hm
 have aj:=(H.lb h3).2.1
 refine ORow.app E ah ag I.pp ak hv ⟨_,_,rfl,rfl,rfl⟩ hb λs' g1 Z o1 z1 c1 f1=>?_
 have af:b∉na[n].2.pb:=λh=>H.nb _ hm (.inr h)
 have ab:b∉Z:=λh=>by
  rcases c1 b h with h|h
  ·exact af h
  ·omega
 refine hK s' g1 Z (h2.keep (f1 b aj af)) z1 (λj hj aa=>f1 j hj λh=>aa (.inr ⟨_,hm,.inr h⟩)) λg2 B2 z2 f2=>?_
 have ae:∀j,j<g.size->j≠b->¬axO na[n] j->g2[j]?=g[j]?:=λj hj h1 h2=>by rw[f2 j h1,f1 j hj λh=>h2 (.inr h)]
 have q1:NdI lo g2 M (axP k s' Z na[n]):=by
  refine⟨?_,?_,?_⟩
  ·exact I.kk.frame (λc hc=>by have:=(I.kk.own c hc).2.1;rw[f2 c λe=>H.nb _ hm (.inl (e ▸ hc))];exact f1 c this λh=>I.dd c hc h) (Fr.le.refl _) λc hc=>(I.kk.own c hc).2.2
  ·exact o1.frame (λc hc=>f2 c λe=>ab (e ▸ hc)) (Fr.le.refl _) λc hc=>(o1.own c hc).2.2
  ·intro c hp hc
   rcases c1 c hc with h|h
   ·exact I.dd c hp h
   ·have:=(I.kk.own c hp).2.1;omega
 have q2:∀c,axO (axP k s' Z na[n]) c->axO na[n] c\/g.size<=c:=by
  intro c hc
  rcases hc with hc|hc
  ·exact .inl (.inl hc)
  ·rcases c1 c hc with h|h
   ·exact .inl (.inr h)
   ·exact .inr h
 obtain⟨N,ow⟩:=H.upd hn (f:=axP k s' Z) (q:=6) (v:=slV s') (by omega) B2 (by omega) rfl q1 q2 ae
 exact⟨N,by omega,ow,λj hj aa=>ae j hj (λe=>aa (.inl ⟨h3,e⟩)) λh=>aa (.inr ⟨_,hm,h⟩)⟩
theorem NS.toB(H:NS lo g M na sl b cs)(hn:n<na.length){x:Int}{g2:zb}(B2:Blk g2 b (cs.setIfInBounds (n*7+2) (.int .i64 x)))(z2:g2.size=g.size)(f2:∀j,j≠b->g2[j]?=g[j]?):NSt lo g M na sl b g2 (na.modify n (axT x)) (cs.setIfInBounds (n*7+2) (.int .i64 x)):=by
 obtain⟨h1,h2,h3,h4,h5⟩:=H.cell hn
 have hm:=AM hn
 have I:=H.nd _ hm
 have q1:NdI lo g2 M (axT x na[n]):=by
  refine⟨?_,?_,I.dd⟩
  ·exact I.kk.frame (λc hc=>f2 c λe=>H.nb _ hm (.inl (e ▸ hc))) (Fr.le.refl _) λc hc=>(I.kk.own c hc).2.2
  ·exact I.pp.frame (λc hc=>f2 c λe=>H.nb _ hm (.inr (e ▸ hc))) (Fr.le.refl _) λc hc=>(I.pp.own c hc).2.2
 obtain⟨N,ow⟩:=H.upd hn (f:=axT x) (q:=2) (v:=.int .i64 x) (by omega) B2 (by omega) rfl q1 (λc hc=>.inl hc) λj hj h1 h2=>f2 j h1
 exact⟨N,by omega,ow,λj hj Z=>f2 j λe=>Z (.inl ⟨h3,e⟩)⟩
end
end
section
variable {J O O':Nat -> Prop} {g g':zb} {lo bp:Nat} {M:Fr} {s:Bs} {a e:Int}
structure StJ (J:Nat->Prop) (g:zb) (O:Nat->Prop) (g':zb) (O':Nat->Prop):Prop where
 le:g.size<=g'.size
 sub:∀c,O' c->O c\/g.size<=c
 fr:∀j,j<g.size->¬O j->¬J j->g'[j]?=g[j]?
theorem Stp.j{J:Nat->Prop}{g g':zb}{O O':Nat->Prop}(S:Stp g O g' O'):StJ J g O g' O':=⟨S.le,S.sub,λj h1 h2 _=>S.fr j h1 h2⟩
theorem StJ.trans{g g' aa:zb}{O O' Z:Nat->Prop}(a:StJ J g O g' O')(b:StJ J g' O' aa Z):StJ J g O aa Z:=by
 have:=a.le;have:=b.le
 refine⟨by omega,λc h=>?_,λj hj hn hJ=>?_⟩
 ·rcases b.sub c h with h|h
  ·exact a.sub c h
  ·exact .inr (by omega)
 ·rw[b.fr j (by omega) (λh=>?_) hJ]
  ·exact a.fr j hj hn hJ
  ·rcases a.sub j h with h|h
   ·exact hn h
   ·omega
def Apt(J:Nat->Prop)(g:zb)(O:Nat->Prop):Prop:=∀j,J j->j<g.size/\¬O j
theorem Apt.step{J D:Nat->Prop}(h:Apt D g O)(S:StJ J g O g' O'):Apt D g' O':=λj hj=>by
 obtain⟨h1,h2⟩:=h j hj
 have:=S.le
 refine⟨by omega,λho=>?_⟩
 rcases S.sub j ho with h|h
 ·exact h2 h
 ·omega
def Ans(r:PR PSt)(b:Bool)(st':PSt)(a e:Int):Prop:=match r with
 |.inl t=>b=true/\st'=t
 |.inr x=>b=false/\x=(a,e)
def qa5(r:PR (List Bs×PSt))(b:Bool)(σ:List Bs)(st':PSt)(a e:Int):Prop:=match r with
 |.inl t=>b=true/\t=(σ,st')
 |.inr x=>b=false/\x=(a,e)
def z7q(g:zb)(bp:Nat):Nat:=match zc g ⟨bp,1,none⟩with
 |some (.slice _ n _)=>n
 |_=>0
theorem PaS.restLen{st:PSt}(H:PaS lo g M bp s st a e O):z7q g bp=st.rest.length:=by
 obtain⟨rs,lf,na,sl,b,cs,W,h1,rfl⟩:=H
 unfold z7q
 rw[W.blk.cell (o:=1) (v:=slV rs) rfl]
 exact(rowLen W.rd).1
theorem PW.nst{rest:List Tk}{last a e:Int}{rs:Sl}{lf:Int}{na na':NA}{sl:Sl}{b:Nat}{cs cs':Array Value}(W:PW lo g M bp s rest last a e rs lf na sl b cs)(N:NSt lo g M na sl b g' na' cs'):PW lo g' M bp s rest last a e rs lf na' sl b cs'/\Stp g (ppO bp na sl b) g' (ppO bp na' sl b):=by
 refine⟨⟨W.blk.keep (N.fr bp W.blk.lt W.nb),W.rd,N.ns,zhb W.ag λj hj hm=>N.fr j hj λh=>hm (W.ns.own h).2.2,W.bl,λh=>?_⟩,N.le,λc h=>?_,λj hj hn=>N.fr j hj λh=>hn (.inr h)⟩
 ·rcases N.sub bp h with h|h
  ·exact W.nb h
  ·have:=W.blk.lt;omega
 ·rcases h with h|h
  ·exact .inl (.inl h)
  ·rcases N.sub c h with h|h
   ·exact .inl (.inr h)
   ·exact .inr h
theorem z7r:ElemT Tp 59 3 (.int .i64 0) (sz (.int .i64)) 8:=⟨by kernel_rfl,⟨Tryz.t3,by kernel_rfl,by kernel_rfl,by kernel_rfl,by kernel_rfl⟩,rfl,by decide⟩
theorem z7s:ElemT Tp 60 58 (.agg #[.int .i64 0,.int .i64 0]) (sz tSp) 16:=⟨by kernel_rfl,⟨Tryz.t58,by kernel_rfl,by kernel_rfl,by kernel_rfl,by kernel_rfl⟩,rfl,by decide⟩
theorem qa6:ql Tp 59=true:=by kernel_rfl
theorem qa7:qy Tp 59=1:=by kernel_rfl
theorem qa8:ql Tp 60=true:=by kernel_rfl
theorem qa9:qy Tp 60=1:=by kernel_rfl
def qba(lo:Nat)(M:Fr)(bp:Nat)(s:Bs)(F:FuncId)(A C:Array Value)(lv:Int)(kid:zmr)(HI:List Bs->zb->Prop)(J D:Nat->Prop):Prop:=
 ∀(σ:List Bs) (g:zb) (st:PSt) (a e:Int) (O:Nat->Prop),PaS lo g M bp s st a e O->HI σ g->Apt D g O->st.nodes.length<=4096->st.T<=200000->(∀t∈st.rest,TkW s t) ->
  ∀K:Value->zb->Prop,(∀b g' st' a' e' O' σ',PaS lo g' M bp s st' a' e' O'->StJ J g O g' O'->st.nodes.length<=st'.nodes.length->(b=true->HI σ' g')->qa5 (kid σ st) b σ' st' a' e'->K (.bool b) g')->XC Tp F (A++#[.int .i64 lv]++C) g K
section
variable {lo : Nat} {g : zb} {M : Fr} {bp : Nat} {s : Bs} {st : PSt} {a e : Int} {O J D : Nat -> Prop} {K : Value -> zb -> Prop} {HI : List Bs -> zb -> Prop} {kid : zmr} {F : FuncId} {A C : Array Value}
set_option maxRecDepth 100000 in
set_option maxHeartbeats 4000000 in
theorem zxo(aS:∀σ g g',HI σ g->(∀j,D j->g'[j]?=g[j]?)->HI σ g'){ar lv:Int}(ba:Aa .i64 (ar+1)=lv)(hk:qba lo M bp s F A C lv kid HI J D)(aM:zo1 kid)(hF:qa Tp F=true)
  {closing:Int} (hc:closing≠0) (H:PaS lo g M bp s st a e O) (h0:HI [] g) (hJ:Apt D g O) (h4:st.nodes.length<=4096) (hT:st.T<=200000) (hw:∀t∈st.rest,TkW s t) {n:Nat} (hn:n<st.nodes.length)
  (hK:∀b g' st' a' e' O',PaS lo g' M bp s st' a' e' O'->StJ J g O g' O'->st.nodes.length<=st'.nodes.length->Ans (Xm s n closing kid st) b st' a' e'->K (.bool b) g'):
  XC Tp 117 #[.pointer (some ⟨bp,0,none⟩),.int .i64 (n:Int),.int .i64 ar,.int .i64 closing,.func (.func F) A C] g K:=by
 apply za3
 refine ze3 H hc (λhy g1 P1 S1=>⟨true,rfl,λ_=>?_,λh=>(by cases h)⟩) (λbo=>⟨false,rfl,λh=>(by cases h),λ_=>?_⟩)
 ·refine hK true g1 st.skip a e O P1 S1.j (by rw[qw];exact Ad _) ?_
  unfold Xm;rw[if_pos hy];exact⟨rfl,rfl⟩
 refine⟨λg'=>∃(f:Nat) (σ:List Bs) (st':PSt) (a' e':Int) (O':Nat->Prop),PaS lo g' M bp s st' a' e' O'/\HI σ g'/\Apt D g' O'/\StJ J g O g' O'/\Okk st st' 0/\st'.rest.length<f/\Xm s n closing kid st=Jw s n closing kid f σ st',λg'=>z7q g' bp,⟨st.rest.length+1,[],st,a,e,O,H,h0,hJ,(Stp.refl g O).j,Okk.refl st,by omega,by unfold Xm;rw[if_neg bo]⟩,?_⟩
 rintro h6 ⟨f,σ,Z,a1,e1,O1,P1,I1,J1,S1,ae,hf,hL⟩
 obtain⟨f,rfl⟩:∃f',f=f'+1:=⟨f-1,by omega⟩
 have bJ:n<Z.nodes.length:=by have:=ae.n;omega
 have bE:Z.nodes.length<=4096:=ae.m h4
 have bu:Z.T<=200000:=by have:=ae.t;omega
 have aU:=P1.restLen
 have bC:=P1
 obtain⟨bV,bG,bS,aO,b1,bU,W1,aV,_⟩:=bC
 have l1:aO.len=Z.nodes.length:=by rw[W1.ns.len,<-aV,AL]
 refine⟨_,rfl,Z.last,by rw[zi,zi];exact W1.blk.cell rfl,_,rfl,aO,by rw[zi];exact W1.blk.cell rfl,hF,?_⟩
 rw[ba,l1]
 refine hk σ h6 Z a1 e1 O1 P1 I1 J1 bE bu (λt ht=>hw t (ae.w t ht)) _ λb g2 aa a2 e2 O2 σ2 P2 S2 n2 I2 A2=>⟨b,rfl,λhb=>?_,λhb=>?_⟩
 ·have hb:b=false:=by simpa using hb
  subst hb
  refine hK false g2 aa a2 e2 O2 P2 (S1.trans S2) (by have:=ae.n;omega) ?_
  rw[hL,Jw]
  cases hr:kid σ Z with
  |inl t=>rw[hr]at A2;exact absurd A2.1 (by simp)
  |inr x=>rw[hr]at A2;exact⟨rfl,A2.2⟩
 have hb:b=true:=by simpa using hb
 subst hb
 have hr:kid σ Z=.inl (σ2,aa):=by
  cases hr:kid σ Z with
  |inl t=>rw[hr]at A2;rw[A2.2]
  |inr x=>rw[hr]at A2;exact absurd A2.1 (by simp)
 have ok2:=aM _ _ _ _ hr
 have I2:=I2 rfl
 have J2:=J1.step S2
 rw[Jw,hr]at hL
 dsimp only at hL
 have bA:=P2
 obtain⟨rs,lf,na,sl,b,cs,W,h1,rfl⟩:=bA
 have bH:na.length=aa.nodes.length:=by rw[<-h1,AL]
 have aB:n<na.length:=by omega
 obtain⟨q1,q2,q3,q4,q5⟩:=W.ns.cell aB
 have bm:ndW na[n].1<=200000:=by
  have h:na[n].1∈aa.nodes:=by rw[<-h1];exact List.mem_map_of_mem (AM aB)
  have:=zwg h;have:=ok2.t;omega
 unfold ndW at bm
 refine⟨_,rfl,sl,by rw[zi];exact W.blk.cell rfl,⟨b,0,none⟩,⟨q1,by omega,by have:=W.ns.len;omega⟩,⟨b,n*7,none⟩,by rw[zi,Ae,AB],na[n].2.ks,?_,?_⟩
 ·rw[zi];exact q5 5 _ (by omega) rfl
 intro ah
 have au:Keep g2.size g2 ah:=Keep.push _ _ (Ad _)
 have bQ:ah.size=g2.size+1:=Al _
 have bF:Blk ah g2.size #[.int .i64 (Z.nodes.length:Int)]:=Blk.new _ _ _
 clear_value ah
 have be:NSt lo g2 M na sl b ah na cs:=⟨W.ns.frame au.size λc hc=>au.get c (W.ns.own hc).2.1,au.size,λc h=>.inl h,λj hj _=>au.get j hj⟩
 obtain⟨ay,bz⟩:=W.nst be
 have aN:lo<=ah.size:=by have:=(ay.own (.inl rfl));omega
 refine NS.addK z7r (by omega) ay.ag aN ay.ns aB bF (by omega) rfl λs' bO an bD bL bM a6=>⟨s',rfl,⟨b,n*7,none⟩,by rw[zi,Ae,AB],?_⟩
 rw[zi]
 refine yy qa6 qa7 bD (by omega) rfl λab u1 u2 u3=>?_
 obtain⟨af,a8⟩:=ay.nst (a6 ab u1 u2 u3)
 have aF:n<(na.modify n (axK (Z.nodes.length:Int) s' an)).length:=by rw[List.length_modify];exact aB
 have aI:(na.modify n (axK (Z.nodes.length:Int) s' an))[n]=axK (Z.nodes.length:Int) s' an na[n]:=by rw[List.getElem_modify,if_pos rfl]
 obtain⟨r1,r2,r3,r4,r5⟩:=af.ns.cell aF
 rw[aI]at r5
 refine⟨⟨b,n*7,none⟩,by rw[zi,Ae,AB],na[n].2.ps,?_,?_⟩
 ·rw[zi];exact r5 6 _ (by omega) rfl
 have bj:PaS lo ab M bp s ⟨aa.rest,aa.last,(na.modify n (axK (Z.nodes.length:Int) s' an)).map (·.1)⟩ a2 e2 _:=⟨_,_,_,_,_,_,af,rfl,rfl⟩
 refine zxl bj ⟨_,rfl,rfl,rfl,?_⟩
 intro ai
 have am:Keep ab.size ab ai:=Keep.push _ _ (Ad _)
 have bI:ai.size=ab.size+1:=Al _
 have bn:Blk ai ab.size #[.int .i64 Z.last,.int .i64 (aa.here s.length)]:=Blk.new _ _ _
 clear_value ai
 have bi:=(af.ns.own (.inl ⟨r3,rfl⟩)).2.1
 refine⟨by rw[zi];exact am.get b bi,?_⟩
 have br:NSt lo ab M _ sl b ai _ _:=⟨af.ns.frame am.size λc hc=>am.get c (af.ns.own hc).2.1,am.size,λc h=>.inl h,λj hj _=>am.get j hj⟩
 obtain⟨ax,aY⟩:=af.nst br
 have aQ:lo<=ai.size:=by have:=(ax.own (.inl rfl));omega
 refine NS.addP z7s (by omega) ax.ag aQ ax.ns aF (k:=(Z.last,aa.here s.length)) bn (by rw[aI];show na[n].1.2.2.2.2.length<=_;omega) (by rw[aI];rfl) λs2 bY a7 bq bT bP aP=>⟨s2,rfl,⟨b,n*7,none⟩,by rw[zi,Ae,AB],?_⟩
 rw[zi]
 refine yy qa8 qa9 bq (by omega) rfl λap v1 v2 v3=>?_
 obtain⟨bg,bB⟩:=ax.nst (aP ap v1 v2 v3)
 have az:((na.modify n (axK (Z.nodes.length:Int) s' an)).modify n (axP (Z.last,aa.here s.length) s2 a7)).map (·.1)=(aa.addKid n (Z.nodes.length:Int) (Z.last,aa.here s.length)).nodes:=by
  rw[xn (f':=λx=>(x.1,x.2.1,x.2.2.1,x.2.2.2.1,x.2.2.2.2++[(Z.last,aa.here s.length)])) (λp=>rfl),xn (f':=λx=>(x.1,x.2.1,x.2.2.1,x.2.2.2.1++[(Z.nodes.length:Int)],x.2.2.2.2)) (λp=>rfl),h1]
  unfold PSt.addKid
  apply Bc
  intro i
  rw[Bn,Bn,Bn]
  cases aa.nodes[i]? with
  |none=>rfl
  |some x=>by_cases e:n=i <;> simp[e,zs9]
 have aH:PaS lo ap M bp s (aa.addKid n (Z.nodes.length:Int) (Z.last,aa.here s.length)) a2 e2 _:=⟨_,_,_,_,_,_,bg,az,rfl⟩
 have aj:=((bz.trans a8).trans aY).trans bB
 have aZ:HI σ2 ap:=aS σ2 g2 ap I2 λj hj=>aj.fr j (J2 j hj).1 (J2 j hj).2
 have aL:=J2.step (aj.j (J:=J))
 have aT:=zdi aa n (Z.nodes.length:Int) (Z.last,aa.here s.length)
 have aA:(aa.addKid n (Z.nodes.length:Int) (Z.last,aa.here s.length)).kind=aa.kind:=rfl
 have bh:(aa.addKid n (Z.nodes.length:Int) (Z.last,aa.here s.length)).here s.length=aa.here s.length:=rfl
 have ak:=(S1.trans S2).trans aj.j
 have aC:st.nodes.length<=(aa.addKid n (Z.nodes.length:Int) (Z.last,aa.here s.length)).nodes.length:=by have:=ae.n;have:=ok2.n;omega
 refine ze3 aH hc (λhy g' P' S'=>⟨true,rfl,λ_=>?_,λh=>(by cases h)⟩) (λaG=>⟨false,rfl,λh=>(by cases h),λ_=>?_⟩)
 ·refine hK true g' _ _ _ _ P' (ak.trans S'.j) (by rw[qw];exact aC) ?_
  rw[aA]at hy
  rw[hL,if_pos hy];exact⟨rfl,rfl⟩
 rw[aA]at aG
 rw[if_neg aG]at hL
 refine ze3 aH (by omega) (λhy g' P' S'=>⟨true,rfl,λh=>(by simp at h),λ_=>?_⟩) (λaE=>⟨false,rfl,λ_=>?_,λh=>(by simp at h)⟩)
 ·rw[aA]at hy
  rw[if_pos hy]at hL
  have aJ:=Xf aM hr (n:=n) (k:=(Z.nodes.length:Int)) (p:=(Z.last,aa.here s.length)) (PSt.ne_kind hy (by omega))
  refine⟨⟨f,σ2,_,_,_,_,P',aS σ2 ap g' aZ (λj hj=>S'.fr j (aL j hj).1 (aL j hj).2),aL.step (S'.j (J:=J)),ak.trans S'.j,(ae.trans aJ).le (by omega),?_,hL⟩,?_⟩
  ·have:=aJ.r;omega
  ·have e1:=P'.restLen
   have:=aJ.r
   show z7q g' bp<z7q h6 bp
   rw[e1,aU];omega
 ·rw[aA]at aE
  rw[if_neg aE]at hL
  refine Jo aH λg' P' S'=>⟨false,rfl,hK false g' _ _ _ _ P' (ak.trans S'.j) aC ?_⟩
  rw[hL];exact⟨rfl,by rw[bh]⟩
end
end
section
variable {k b c:Nat} {ls:Sl} {cs:Array Value} {g':zb}
def rpC(s:Bs)(ls:Sl)(k:Nat)(sl:Sl)(a e:Int):List Value:=[.string (bl s),slV ls,.int .i64 (k:Int),slV sl,.int .i64 a,.int .i64 e]
structure RW (lo:Nat) (g:zb) (M:Fr) (bp:Nat) (s:Bs) (l:List Tk) (k:Nat) (a e:Int) (ls:Sl) (na:NA) (sl:Sl) (b:Nat) (cs:Array Value):Prop where
 blk:Blk g bp (rpC s ls k sl a e).toArray
 rd:Rd M (.row tTk) l [slV ls]
 ns:NS lo g M na sl b cs
 ag:AgM M g
 bl:lo<=bp/\M bp=none
 nb:¬nsO na sl b bp
structure AtK (l:List Tk) (k:Nat) (st:PSt):Prop where
 rest:st.rest=l.drop k
 le:k<=l.length
 last:∀t,0<k->l[k-1]?=some t->st.last=t.2.2
def RS(lo:Nat)(g:zb)(M:Fr)(bp:Nat)(s:Bs)(l:List Tk)(st:PSt)(a e:Int)(O:Nat->Prop):Prop:=
 ∃(ls:Sl) (k:Nat) (na:NA) (sl:Sl) (b:Nat) (cs:Array Value),RW lo g M bp s l k a e ls na sl b cs/\AtK l k st/\na.map (·.1)=st.nodes/\O=ppO bp na sl b
theorem RW.own{lo:Nat}{g:zb}{M:Fr}{bp:Nat}{s:Bs}{l:List Tk}{a e:Int}{na:NA}{sl:Sl}(H:RW lo g M bp s l k a e ls na sl b cs)(h:ppO bp na sl b c):lo<=c/\c<g.size/\M c=none:=by
 rcases h with rfl|h
 ·exact⟨H.bl.1,H.blk.lt,H.bl.2⟩
 ·exact H.ns.own h
section
variable {lo : Nat} {g : zb} {M : Fr} {bp : Nat} {s : Bs} {l : List Tk} {st : PSt} {a e : Int} {O : Nat -> Prop} {K : Value -> zb -> Prop}
theorem RS.own(H:RS lo g M bp s l st a e O)(h:O c):lo<=c/\c<g.size/\M c=none:=by
 obtain⟨ls,k,na,sl,b,cs,W,_,_,rfl⟩:=H
 exact W.own h
theorem RS.frame(H:RS lo g M bp s l st a e O)(hz:g.size<=g'.size)(f:∀c,c<g.size->(O c\/M c≠none)->g'[c]?=g[c]?):RS lo g' M bp s l st a e O:=by
 obtain⟨ls,k,na,sl,b,cs,W,h0,h1,rfl⟩:=H
 refine⟨ls,k,na,sl,b,cs,⟨W.blk.keep (f bp W.blk.lt (.inl (.inl rfl))),W.rd,W.ns.frame hz λc hc=>f c (W.ns.own hc).2.1 (.inl (.inr hc)),zhb W.ag λj hj hm=>f j hj (.inr hm),W.bl,W.nb⟩,h0,h1,rfl⟩
theorem RS.keep(H:RS lo g M bp s l st a e O)(k:Keep g.size g g'):RS lo g' M bp s l st a e O:=H.frame k.size λc hc _=>k.get c hc
theorem RS.ag(H:RS lo g M bp s l st a e O):AgM M g:=by
 obtain⟨ls,k,na,sl,b,cs,W,_,_,_⟩:=H;exact W.ag
theorem RW.put{k k':Nat}{a' e':Int}{na:NA}{sl:Sl}(H:RW lo g M bp s l k a e ls na sl b cs)(B:Blk g' bp (rpC s ls k' sl a' e').toArray)(hz:g'.size=g.size)(f:∀j,j≠bp->g'[j]?=g[j]?):RW lo g' M bp s l k' a' e' ls na sl b cs:=
 ⟨B,H.rd,H.ns.frame (by omega) λc hc=>f c λh=>H.nb (h ▸ hc),zhb H.ag λj _ hm=>f j λh=>hm (h ▸ H.bl.2),H.bl,H.nb⟩
theorem RW.nst{na na':NA}{sl:Sl}{cs cs':Array Value}(W:RW lo g M bp s l k a e ls na sl b cs)(N:NSt lo g M na sl b g' na' cs'):RW lo g' M bp s l k a e ls na' sl b cs'/\Stp g (ppO bp na sl b) g' (ppO bp na' sl b):=by
 refine⟨⟨W.blk.keep (N.fr bp W.blk.lt W.nb),W.rd,N.ns,zhb W.ag λj hj hm=>N.fr j hj λh=>hm (W.ns.own h).2.2,W.bl,λh=>?_⟩,N.le,λc h=>?_,λj hj hn=>N.fr j hj λh=>hn (.inr h)⟩
 ·rcases N.sub bp h with h|h
  ·exact W.nb h
  ·have:=W.blk.lt;omega
 ·rcases h with h|h
  ·exact .inl (.inl h)
  ·rcases N.sub c h with h|h
   ·exact .inl (.inr h)
   ·exact .inr h
theorem AtK.cons(A:AtK l k st){t:Tk}{r:List Tk}(h:st.rest=t::r):∃hk:k<l.length,l[k]=t:=by
 have h1:=A.rest
 rw[h]at h1
 have hk:k<l.length:=by
  rcases AF k l.length with hh|hh
  ·exact hh
  ·rw[AU hh]at h1;cases h1
 refine⟨hk,?_⟩
 rw[Ay hk]at h1
 injection h1 with h1 _;exact h1.symm
theorem AtK.nil(A:AtK l k st)(h:st.rest=[]):k=l.length:=by
 have h1:=A.rest
 rw[h]at h1
 have:=List.drop_eq_nil_iff.1 h1.symm
 have:=A.le;omega
theorem AtK.skip(A:AtK l k st)(h:st.rest≠[]):AtK l (k+1) st.skip:=by
 obtain⟨t,r,er⟩:=AX h
 obtain⟨hk,e⟩:=A.cons er
 have h1:=A.rest
 rw[er,Ay hk]at h1
 injection h1 with _ h2
 have es:st.skip=⟨r,t.2.2,st.nodes⟩:=by unfold PSt.skip;rw[er]
 rw[es]
 refine⟨h2,hk,λu _ hu=>?_⟩
 rw[Nat.add_sub_cancel,Ak hk,e]at hu
 cases hu;rfl
theorem AtK.same(A:AtK l k st){st':PSt}(h1:st'.rest=st.rest)(h2:st'.last=st.last):AtK l k st':=⟨h1.trans A.rest,A.le,λt a b=>h2.trans (A.last t a b)⟩
theorem Jp(H:RS lo g M bp s l st a e O)(hK:K (.int .i64 st.kind) g):XC Tp 124 #[.pointer (some ⟨bp,0,none⟩)] g K:=by
 obtain⟨ls,k,na,sl,b,cs,W,A,h1,rfl⟩:=H
 apply Q1
 have hl:=(rowLen W.rd).1
 refine⟨_,rfl,_,by rw[zi];exact W.blk.cell rfl,_,rfl,ls,by rw[zi];exact W.blk.cell rfl,λhx=>?_,λhx=>⟨_,rfl,ls,by rw[zi];exact W.blk.cell rfl,_,rfl,_,by rw[zi];exact W.blk.cell rfl,?_⟩⟩
 ·have hx:=of_decide_eq_true hx
  have:st.rest=[]:=by rw[A.rest];exact AU (by omega)
  unfold PSt.kind at hK
  rw[this]at hK;exact hK
 ·have hx:=of_decide_eq_false hx
  have hk:k<l.length:=by omega
  obtain⟨tb,o,e1,e2,e3,e4⟩:=ztl W.ag W.rd hk
  have er:=A.rest
  rw[Ay hk]at er
  refine⟨_,⟨e1,by omega,by omega⟩,l[k].1,?_,?_⟩
  ·rw[zi,zi,Ae];exact e2
  ·unfold PSt.kind at hK;rw[er]at hK;exact hK
theorem zpp(H:RS lo g M bp s l st a e O)(hK:K (.int .i64 (st.here s.length)) g):XC Tp 126 #[.pointer (some ⟨bp,0,none⟩)] g K:=by
 obtain⟨ls,k,na,sl,b,cs,W,A,h1,rfl⟩:=H
 apply Q3
 have hl:=(rowLen W.rd).1
 refine⟨_,rfl,_,by rw[zi];exact W.blk.cell rfl,_,rfl,ls,by rw[zi];exact W.blk.cell rfl,λhx=>?_,λhx=>⟨_,rfl,ls,by rw[zi];exact W.blk.cell rfl,_,rfl,_,by rw[zi];exact W.blk.cell rfl,?_⟩⟩
 ·have hx:=of_decide_eq_true hx
  have:st.rest=[]:=by rw[A.rest];exact AU (by omega)
  unfold PSt.here at hK
  rw[this]at hK
  refine⟨_,rfl,Go.X.bl s,by rw[zi];exact W.blk.cell rfl,?_⟩
  rw[zd];exact hK
 ·have hx:=of_decide_eq_false hx
  have hk:k<l.length:=by omega
  obtain⟨tb,o,e1,e2,e3,e4⟩:=ztl W.ag W.rd hk
  have er:=A.rest
  rw[Ay hk]at er
  refine⟨_,⟨e1,by omega,by omega⟩,l[k].2.1,?_,?_⟩
  ·rw[zi,zi,zi,Ae];exact e3
  ·unfold PSt.here at hK;rw[er]at hK;exact hK
theorem Qt(H:RS lo g M bp s l st a e O){x:Int}(hK:∀g',RS lo g' M bp s l st (st.here s.length) x O->Stp g O g' O->K (.bool false) g'):XC Tp 65 #[.pointer (some ⟨bp,0,none⟩),.int .i64 x] g K:=by
 apply Qh
 refine zpp H ⟨_,rfl,_,rfl,?_⟩
 obtain⟨ls,k,na,sl,b,cs,W,A,h1,rfl⟩:=H
 rw[zi]
 refine yy zna znb W.blk (by show 4<6;omega) rfl λg1 u1 u2 u3=>⟨_,rfl,?_⟩
 rw[zi]
 refine yy z7o z7p u1 (by show 5<6;omega) rfl λg2 v1 v2 v3=>?_
 have f:∀j,j≠bp->g2[j]?=g[j]?:=λj hj=>(v3 j hj).trans (u3 j hj)
 have v1:Blk g2 bp (rpC s ls k sl (st.here s.length) x).toArray:=v1
 exact hK g2 ⟨ls,k,na,sl,b,cs,W.put v1 (by omega) f,A,h1,rfl⟩ (Stp.same (by omega) (.inl rfl) f)
theorem zgs(H:RS lo g M bp s l st a e O)(hr:st.rest≠[])(hl:l.length<=1000000):∃k:Nat,zc g ⟨bp,2,none⟩=some (.int .i64 (k:Int))/\AtK l k st/\∀{K:zb->Prop},(∀g',RS lo g' M bp s l st.skip a e O->Stp g O g' O->K g')->XRunU Tp (Aj 3 (.pointer (some ⟨bp,2,none⟩)) (.int .i64 (Aa .i64 ((k:Int)+1)))) g K:=by
 obtain⟨ls,k,na,sl,b,cs,W,A,h1,rfl⟩:=H
 refine⟨k,W.blk.cell rfl,A,λ {K} hK=>?_⟩
 have A':=A.skip hr
 rw[show Aa .i64 ((k:Int)+1)=((k+1:Nat):Int)by rw[w64 (by have:=A.le;omega)];omega]
 refine yy zna znb W.blk (by show 2<6;omega) rfl λg1 u1 u2 u3=>?_
 have u1:Blk g1 bp (rpC s ls (k+1) sl a e).toArray:=u1
 exact hK g1 ⟨ls,k+1,na,sl,b,cs,W.put u1 (by omega) u3,A',by rw[qw];exact h1,rfl⟩ (Stp.same (by omega) (.inl rfl) u3)
theorem z4i(H:RS lo g M bp s l st a e O)(hl:l.length<=1000000){k:Int}(hk:k≠0)(hY:st.kind=k->∀g',RS lo g' M bp s l st.skip a e O->Stp g O g' O->K (.bool true) g')(hN:st.kind≠k->∀g',RS lo g' M bp s l st (st.here s.length) 2 O->Stp g O g' O->K (.bool false) g'):XC Tp 261 #[.pointer (some ⟨bp,0,none⟩),.int .i64 k] g K:=by
 apply Q4
 refine Jp H ⟨_,rfl,λhx=>?_,λhx=>?_⟩
 ·exact Qt H λg' p q=>⟨false,rfl,hN (by simpa using hx) g' p q⟩
 ·have hx:st.kind=k:=by simpa using hx
  obtain⟨n,c1,A,Z⟩:=zgs H (PSt.ne_kind hx hk) hl
  refine⟨_,rfl,_,by rw[zi];exact c1,_,rfl,?_⟩
  rw[zi]
  exact Z λg' p q=>hY hx g' p q
end
end
section
variable {gl:Fr}
theorem znd{k:Int}{R:Int->Prop}(h:R (yb k)):PC Tp gl 114 [Arg.mk (.int .i64) k] [.int .i64] R:=by
 apply zg9
 unfold yb at h
 refine⟨λhx=>?_,λhx K hK=>?_⟩
 ·rw[if_pos (by simpa using hx)]at h;exact h
 have hx:¬k=12:=by simpa using hx
 rw[if_neg hx]at h
 have key:∀b:Bool,b=decide (k=10\/k=11)->K b:=λb hb=>hK b ⟨λh1=>by
   rw[h1]at hb
   rw[if_pos (of_decide_eq_true hb.symm)]at h;exact h,λh1=>by
   rw[h1]at hb
   rw[if_neg (of_decide_eq_false hb.symm)]at h
   refine⟨λh2=>?_,λh2=>⟨λh3=>?_,λh3=>⟨λh4=>?_,λh4=>⟨λh5=>?_,λh5=>?_⟩⟩⟩⟩
   ·rw[if_pos (by simpa using h2)]at h;exact h
   ·rw[if_neg (by simpa using h2),if_pos (by simpa using h3)]at h;exact h
   ·rw[if_neg (by simpa using h2),if_neg (by simpa using h3),if_pos (by simpa using h4)]at h;exact h
   ·rw[if_neg (by simpa using h2),if_neg (by simpa using h3),if_neg (by simpa using h4),if_pos (by simpa using h5)]at h;exact h
   ·rw[if_neg (by simpa using h2),if_neg (by simpa using h3),if_neg (by simpa using h4),if_neg (by simpa using h5)]at h;exact h⟩
 refine⟨λh1=>key _ ?_,λh1=>key _ ?_⟩
 ·have:k=10:=by simpa using h1
  rw[h1,this];rfl
 ·have:¬k=10:=by simpa using h1
  rw[Az,beq_iff_eq,decide_eq_true_eq];omega
def qaq(lo:Nat)(M:Fr)(bp:Nat)(s:Bs)(lv:Int)(val:zkw):Prop:=
 ∀(key:Sp) (g:zb) (st:PSt) (a e:Int) (O:Nat->Prop),PaS lo g M bp s st a e O->st.nodes.length<=4096->st.T<=200000->(∀t∈st.rest,TkW s t) ->
  ∀K:Value->zb->Prop,(∀b g' st' a' e' O',PaS lo g' M bp s st' a' e' O'->Stp g O g' O'->st.nodes.length<=st'.nodes.length->Ans (val key st) b st' a' e'->K (.bool b) g')->XC Tp 61 #[.pointer (some ⟨bp,0,none⟩),.int .i64 lv,.agg #[.int .i64 key.1,.int .i64 key.2]] g K
section
variable {lo : Nat} {g : zb} {M : Fr} {bp : Nat} {s : Bs} {lv : Int} {val : zkw}
theorem z4j(hv:qaq lo M bp s lv val):qba lo M bp s 118 #[.pointer (some ⟨bp,0,none⟩)] #[] lv (zch val) (λ_ _=>True) (λ_=>False) (λ_=>False):=by
 intro σ g st a e O P I J h4 hT hw K hK
 show XC Tp _ #[.pointer (some ⟨bp,0,none⟩),.int .i64 lv] g K
 apply za4
 refine hv (0,0) g st a e O P h4 hT hw _ λb g' st' a' e' O' P' S' n' A'=>⟨b,rfl,hK b g' st' a' e' O' σ P' S'.j n' (λ_=>trivial) ?_⟩
 unfold zch
 cases hr:val (0,0) st with
 |inl t=>rw[hr]at A';exact⟨A'.1,by rw[A'.2]⟩
 |inr x=>rw[hr]at A';exact A'
theorem z02:MapT Tp 154 9 4 (.bool false):=⟨by kernel_rfl,by kernel_rfl,⟨Tryz.t4,by kernel_rfl,by kernel_rfl⟩⟩
def z8v(m:Nat)(σ:List Bs)(g:zb):Prop:=∃l,MapAt g m l/\∀k:Bs,znl l (bl k)=if k∈σ then some (.bool true)else none
theorem zis{M:Fr}{r:Bt×Int×Int}{v:Value}(h:zc1 M [.str,.int .i64,.int .i64] r v):v=.tuple #[.string r.1,.int .i64 r.2.1,.int .i64 r.2.2]:=by
 obtain⟨vs,⟨v1,rest,rfl,hx,v2,Z,rfl,hy,v3,rfl,hz⟩,rfl⟩:=h
 rw[Zo hx,qo hy,qo hz]
 rfl
set_option maxRecDepth 100000 in
set_option maxHeartbeats 2000000 in
theorem z7t(hg:GL gl)(hM:Fr.le gl M)(hs:s.length<=65536)(hv:qaq lo M bp s lv val){m:Nat}{J:Nat->Prop}(hm:J m){σ:List Bs}{st:PSt}{a e:Int}{O:Nat->Prop}(P:PaS lo g M bp s st a e O)(I:z8v m σ g)(hJ:Apt J g O)(h4:st.nodes.length<=4096)(hT:st.T<=200000)(hw:∀t∈st.rest,TkW s t)(aH:∀j,J j->M j=none){K:Value->zb->Prop}
  (hK:∀b g' st' a' e' O' σ',PaS lo g' M bp s st' a' e' O'->StJ (λj=>j=m) g O g' O'->st.nodes.length<=st'.nodes.length->(b=true->z8v m σ' g')->qa5 (znm s val σ st) b σ' st' a' e'->K (.bool b) g'):
  XC Tp 120 #[.pointer (some ⟨bp,0,none⟩),.int .i64 lv,.map (some m)] g K:=by
 have ae:=hJ m hm
 apply Wu
 refine zks P ⟨_,rfl,λhx=>?_,λhx=>?_⟩
 ·have hx:¬st.kind=8:=by simpa using hx
  refine Jo P λg' P' S'=>⟨false,rfl,hK false g' st _ _ O σ P' S'.j (Ad _) (λh=>(by cases h)) ?_⟩
  unfold znm
  cases hr:st.rest with
  |nil=>exact⟨rfl,rfl⟩
  |cons t r=>
   have:¬t.1=8:=by unfold PSt.kind at hx;rw[hr]at hx;exact hx
   dsimp only
   rw[if_neg this];exact⟨rfl,rfl⟩
 have hx:st.kind=8:=by simpa using hx
 have ar:=PSt.ne_kind hx (by omega)
 obtain⟨t,r,er⟩:=AX ar
 have aJ:t.1=8:=by unfold PSt.kind at hx;rw[er]at hx;exact hx
 obtain⟨w1,w2,w3,_⟩:=hw t (by rw[er];simp)
 have aM:=Ws ar
 have P0:=P
 obtain⟨rs,lf,na,sl,b,cs,W,h1,eO⟩:=P0
 have rd:=W.rd
 have hl:=(rowLen W.rd).1
 rw[er]at rd hl
 rw[AI]at hl
 obtain⟨tb,o,e1,e2,e3,e4⟩:=ztl W.ag rd (k:=0) (by simp)
 refine⟨_,rfl,rs,by rw[zi];exact W.blk.cell rfl,_,⟨e1,by omega,by omega⟩,t.2.1,t.2.2,?_,?_⟩
 ·rw[zi,zi]
  exact⟨by rw[zi];exact e3,by rw[zi];exact e4,trivial⟩
 intro aj
 have aL:Keep g.size g aj:=Keep.push _ _ (Ad _)
 have aV:aj.size=g.size+1:=Al _
 have aP:Blk aj g.size #[.int .i64 0,.int .i64 0]:=Blk.new _ _ _
 clear_value aj
 refine X0 (vs:=[.int .i64 t.2.1,.int .i64 t.2.2]) z4d aP rfl z4e (Ad _) (λu hu=>?_) λaC af aU aG=>⟨_,rfl,?_⟩
 ·simp at hu;rcases hu with rfl|rfl <;> rfl
 have af:Blk aC g.size #[.int .i64 t.2.1,.int .i64 t.2.2]:=af
 have ah:Keep g.size g aC:=⟨by omega,λj hj=>(aG j (by omega)).trans (aL.get j hj)⟩
 have aE:=P.keep ah
 have aS:=W.blk.keep (ah.get bp W.blk.lt)
 refine⟨bl s,by rw[zi];exact aS.cell rfl,t.2.1,by rw[zi];exact af.cell rfl,t.2.2,by rw[zi];exact af.cell rfl,⟨w1,by omega,by rw[zd];exact w3⟩,?_⟩
 have ex:(bl s).extract t.2.1.toNat t.2.2.toNat=bl (Wr s t.2):=by rw[zt];rfl
 rw[ex]
 have aY:(Wr s t.2).length<=65536:=by unfold Wr;rw[AN,As];omega
 refine(zdo hg (t:=Wr s t.2) (by omega) (R:=λr=>r=(bl (Qs (Wr s t.2)).1,((Qs (Wr s t.2)).2.1:Int),(Qs (Wr s t.2)).2.2)) rfl).go hM aE.ag (yu (a:=Arg.mk .str _) (rdStr _) j9) λv ax M' rr L aT hr=>?_
 subst hr
 rw[zis aT]
 refine⟨_,_,_,rfl,?_⟩
 have Z:Keep g.size g ax:=ah.trans L.keep ah.size
 have aA:=P.keep Z
 obtain⟨l,ml,mk⟩:=I
 have am:MapAt ax m l:=ml.keep (Z.get m ae.1)
 have aa:=zny z02 am (bl (Qs (Wr s t.2)).1) false
 rw[if_neg (by simp)]at aa
 have aQ:z4r l (bl (Qs (Wr s t.2)).1) (.bool false)=.bool (decide ((Qs (Wr s t.2)).1∈σ)):=by
  unfold z4r
  rw[mk]
  by_cases ak:(Qs (Wr s t.2)).1∈σ
  ·rw[if_pos ak];simp[ak]
  ·rw[if_neg ak];simp[ak]
 rw[aQ]at aa
 have eM:znm s val σ st=if(Qs (Wr s t.2)).1∈σ then st.err s 7
   else if st.skip.kind=7 then match val t.2 st.skip.skip with
    |.inl st'=>.inl (σ++[(Qs (Wr s t.2)).1],st')
    |.inr e=>.inr e
   else st.skip.err s 2:=by
  unfold znm;rw[er];dsimp only;rw[if_pos aJ];rfl
 refine⟨_,aa,λhy=>?_,λhy=>?_⟩
 ·have hy:=of_decide_eq_true hy
  refine Jo aA λg' P' S'=>⟨false,rfl,hK false g' st _ _ O σ P' ((Stp.keep (O:=O) Z).trans S').j (Ad _) (λh=>(by cases h)) ?_⟩
  rw[eM,if_pos hy];exact⟨rfl,rfl⟩
 have hy:=of_decide_eq_false hy
 rw[if_neg hy]at eM
 refine zui z02 am (bl (Qs (Wr s t.2)).1) (.bool true) λai aI a1 an=>?_
 have aO:PaS lo ai M bp s st a e O:=aA.frame (by omega) λc hc ho=>an c λh=>by
  subst h
  rcases ho with ho|ho
  ·exact ae.2 ho
  ·exact ho (aH _ hm)
 have aB:StJ (λj=>j=m) g O ai O:=⟨by have:=Z.size;omega,λc h=>.inl h,λj hj hn hJ=>(an j hJ).trans (Z.get j hj)⟩
 have ap:∀g',g'[m]?=ai[m]?->z8v m (σ++[(Qs (Wr s t.2)).1]) g':=λg' aN=>by
  refine⟨_,aI.keep aN,λk=>?_⟩
  rw[zuh,mk]
  by_cases hk:(Qs (Wr s t.2)).1=k
  ·subst hk;simp
  ·have aF:¬bl (Qs (Wr s t.2)).1=bl k:=λh=>hk (z6k.1 h)
   rw[if_neg aF]
   have:(k∈σ++[(Qs (Wr s t.2)).1])↔k∈σ:=by simp;intro h;exact absurd h.symm hk
   simp only[this]
 have au:m<ai.size:=by have:=ae.1;have:=Z.size;omega
 refine zpo aO ar λg3 P3 S3=>⟨rfl,?_⟩
 refine ze3 P3 (by omega) (λh7 g4 P4 S4=>⟨true,rfl,λh=>(by simp at h),λ_=>?_⟩) (λh7=>⟨false,rfl,λ_=>?_,λh=>(by simp at h)⟩)
 ·rw[if_pos h7]at eM
  have ok2:=Ws (PSt.ne_kind h7 (by omega))
  have ab:=aM.trans ok2
  have ay:¬O g.size:=λh=>by have:=(P.own h).2.1;omega
  have B4:Blk g4 g.size #[.int .i64 t.2.1,.int .i64 t.2.2]:=by
   refine af.keep ?_
   have aZ:=ah.size
   rw[S4.fr _ (by have:=S3.le;have:=Z.size;have:=L.keep.size;omega) ay,S3.fr _ (by have:=Z.size;have:=L.keep.size;omega) ay,an _ (by have:=ae.1;omega)]
   exact L.keep.get _ (by omega)
  refine⟨t.2.1,t.2.2,B4.ld (cs:=[.int .i64 t.2.1,.int .i64 t.2.2]),?_⟩
  refine hv t.2 g4 st.skip.skip a e O P4 (by have:=ab.m h4;exact this) (by have:=ab.t;omega) (λx hx=>hw x (ab.w x hx)) _ λb g' st' a' e' O' P' S' n' A'=>⟨b,rfl,?_⟩
  have az:=(S3.trans S4).trans S'
  refine hK b g' st' a' e' O' _ P' (aB.trans az.j) (by have:=ab.n;omega) (λ_=>ap g' (az.fr m au λh=>ae.2 h)) ?_
  rw[eM]
  cases hr:val t.2 st.skip.skip with
  |inl x=>rw[hr]at A';exact⟨A'.1,by rw[A'.2]⟩
  |inr x=>rw[hr]at A';exact A'
 ·rw[if_neg h7]at eM
  refine Jo P3 λg' P' S'=>⟨false,rfl,hK false g' _ _ _ O σ P' (aB.trans (S3.trans S').j) (by rw[qw];exact Ad _) (λh=>(by cases h)) ?_⟩
  rw[eM];exact⟨rfl,rfl⟩
end
end
section
variable {g g':zb} {b:Nat} {O:Nat -> Prop}
theorem zbd{x y:Value}(B:Blk g b #[x,y]){u v:Int}{K:zb->Prop}(hK:∀g',(∀j,j≠b->g'[j]?=g[j]?)->g'.size=g.size->Blk g' b #[.int .i64 u,.int .i64 v]->K g'):
  XRunU Tp (Aj 58 (.pointer (some ⟨b,0,none⟩)) (.agg #[.int .i64 u,.int .i64 v])) g K:=by
 refine X0 (vs:=[.int .i64 u,.int .i64 v]) z4d B rfl z4e (Ad _) (λw hw=>?_) λg' q1 q2 q3=>hK g' q3 q2 q1
 simp at hw;rcases hw with rfl|rfl <;> rfl
theorem z03{u v:Value}(B:Blk g b #[u,v]):zh g ⟨b,0,none⟩ 0 [u,v]:=B.ld (cs:=[u,v])
theorem RS.off{lo:Nat}{M:Fr}{bp:Nat}{s:Bs}{l:List Tk}{st:PSt}{a e:Int}(H:RS lo g M bp s l st a e O)(hb:¬O b)(hm:M b=none)(hz:g'.size=g.size)(f:∀j,j≠b->g'[j]?=g[j]?):RS lo g' M bp s l st a e O:=
 H.frame (by omega) λc hc ho=>f c λh=>by
  subst h
  rcases ho with ho|ho
  ·exact hb ho
  ·exact ho hm
theorem Stp.loc{g g' g2:zb}{O O':Nat->Prop}(S:Stp g O g' O')(hb:g.size<=b)(hz:g2.size=g'.size)(f:∀j,j≠b->g2[j]?=g'[j]?):Stp g O g2 O':=⟨by have:=S.le;omega,S.sub,λj hj hn=>(f j (by omega)).trans (S.fr j hj hn)⟩
def qbu(r:PR (Bs×Sp×PSt))(b:Bool)(x:Bs)(sp:Sp)(st':PSt)(a e:Int):Prop:=match r with
 |.inl t=>b=true/\t=(x,sp,st')
 |.inr y=>b=false/\y=(a,e)
section
variable {lo : Nat} {g : zb} {M gl : Fr} {bp : Nat} {s : Bs} {l : List Tk} {st : PSt} {a e : Int} {O : Nat -> Prop} {K : Value -> zb -> Prop}
set_option maxRecDepth 100000 in
set_option maxHeartbeats 4000000 in
theorem z7u(hg:GL gl)(hM:Fr.le gl M)(hs:s.length<=65536)(hl:l.length<=1000000)(H:RS lo g M bp s l st a e O)(hw:∀t∈st.rest,TkW s t){σ:List Bs}{hd:Sl}{hb:List Nat}{aV:Nat}(ro:ORow aV g M .str (σ.map Go.X.bl) hd hb)(hσ:σ.length<=1000000)(br:∀c∈hb,¬O c)
  (hK:∀b g' st' a' e' x sp,RS lo g' M bp s l st' a' e' O->Stp g O g' O->st'.nodes=st.nodes->qbu (zwh s σ st) b x sp st' a' e'->K (.tuple #[.string (Go.X.bl x),.agg #[.int .i64 sp.1,.int .i64 sp.2],.bool b]) g'):
  XC Tp 203 #[.pointer (some ⟨bp,0,none⟩),slV hd] g K:=by
 apply Yq
 intro h1
 have k1:Keep g.size g h1:=Keep.push _ _ (Ad _)
 have z1:h1.size=g.size+1:=Al _
 have B1:Blk h1 g.size #[.int .i64 0,.int .i64 0]:=Blk.new _ _ _
 clear_value h1
 have Z:∀c,g.size<=c->¬O c:=λc hc h=>by have:=(H.own h).2.1;omega
 have am:∀c,g.size<=c->M c=none:=λc hc=>by
  cases e:M c with
  |none=>rfl
  |some x=>have:=H.ag.lt e;omega
 refine Jp (H.keep k1) ⟨_,rfl,λhx=>?_,λhx=>?_⟩
 ·have hx:¬st.kind=8:=by simpa using hx
  refine Qt (H.keep k1) λg' P' S'=>⟨false,rfl,?_⟩
  refine zbd (B1.keep (S'.fr g.size (by omega) (Z _ (Ad _)))) λg2 f2 z2 B2=>⟨_,_,z03 B2,?_⟩
  have hz:=S'.le
  refine hK false g2 st _ _ [] (0,0) (P'.off (Z _ (Ad _)) (am _ (Ad _)) z2 f2) (((Stp.keep (O:=O) k1).trans S').loc (Ad _) z2 f2) rfl ?_
  ·unfold zwh
   cases hr:st.rest with
   |nil=>exact⟨rfl,rfl⟩
   |cons t r=>
    have:¬t.1=8:=by unfold PSt.kind at hx;rw[hr]at hx;exact hx
    dsimp only
    rw[if_neg this];exact⟨rfl,rfl⟩
 have hx:st.kind=8:=by simpa using hx
 have aF:=PSt.ne_kind hx (by omega)
 obtain⟨t,r,er⟩:=AX aF
 have aN:t.1=8:=by unfold PSt.kind at hx;rw[er]at hx;exact hx
 obtain⟨w1,w2,w3,_⟩:=hw t (by rw[er];simp)
 have eQ:zwh s σ st=if(Qs (Wr s t.2)).1∈σ then st.err s 7
   else if st.skip.kind=7 then .inl ((Qs (Wr s t.2)).1,t.2,st.skip.skip)else st.skip.err s 2:=by
  unfold zwh;rw[er];dsimp only;rw[if_pos aN]
 have H1:=H.keep k1
 have aY:=H1
 obtain⟨ls,k,na,sl,b,cs,W,A,be,eO⟩:=aY
 obtain⟨hk,ek⟩:=A.cons er
 have bh:=(rowLen W.rd).1
 obtain⟨tb,o,e1,e2,e3,e4⟩:=ztl W.ag W.rd hk
 rw[ek]at e3 e4
 have az:=W.blk.lt
 have aZ:tb<h1.size:=by
  unfold zc at e3
  rcases AF tb h1.size with h|h
  ·exact h
  ·rw[Array.getElem?_eq_none h]at e3;cases e3
 refine⟨_,rfl,ls,by rw[zi];exact W.blk.cell rfl,_,rfl,(k:Int),by rw[zi];exact W.blk.cell rfl,_,⟨e1,by omega,by omega⟩,t.2.1,t.2.2,?_,?_⟩
 ·rw[zi,zi,Ae]
  exact⟨by rw[zi];exact e3,by rw[zi];exact e4,trivial⟩
 intro ak
 have aj:Keep h1.size h1 ak:=Keep.push _ _ (Ad _)
 have bj:ak.size=h1.size+1:=Al _
 have aQ:Blk ak h1.size #[.int .i64 0,.int .i64 0]:=Blk.new _ _ _
 clear_value ak
 refine⟨by rw[zi,zi];exact aj.get tb aZ,by rw[zi];exact aj.get bp az,by rw[zi];exact aj.get bp az,?_⟩
 refine zbd aQ λaJ aI bm aA=>⟨_,rfl,?_⟩
 have ax:Keep h1.size h1 aJ:=⟨by omega,λj hj=>(aI j (by omega)).trans (aj.get j hj)⟩
 have a7:=W.blk.keep (ax.get bp az)
 refine⟨Go.X.bl s,by rw[zi];exact a7.cell rfl,t.2.1,by rw[zi];exact aA.cell rfl,t.2.2,by rw[zi];exact aA.cell rfl,⟨w1,by omega,by rw[zd];exact w3⟩,?_⟩
 have ex:(Go.X.bl s).extract t.2.1.toNat t.2.2.toNat=Go.X.bl (Wr s t.2):=by rw[zt];rfl
 rw[ex]
 have bq:(Wr s t.2).length<=65536:=by unfold Wr;rw[AN,As];omega
 have aP:=H1.keep ax
 refine(za9 (gl:=gl) (t:=Wr s t.2) (by omega) (R:=λr=>r=(Go.X.bl (Qs (Wr s t.2)).1,((Qs (Wr s t.2)).2.1:Int),(Qs (Wr s t.2)).2.2)) rfl).go hM aP.ag (yu (a:=Arg.mk .str _) (rdStr _) j9) λv ab M' rr L a1 hr=>?_
 subst hr
 rw[zis a1]
 refine⟨_,_,_,rfl,?_⟩
 have ah:Keep h1.size h1 ab:=ax.trans (c:=ab) (m:=h1.size) ⟨L.keep.size,λj hj=>L.keep.get j (by omega)⟩ (Ad _)
 have ae:Keep g.size g ab:=k1.trans (c:=ab) (m:=g.size) ⟨ah.size,λj hj=>ah.get j (by omega)⟩ (Ad _)
 have ai:=H1.keep ah
 have bg:=L.keep.size
 have aU:Blk ab h1.size #[.int .i64 t.2.1,.int .i64 t.2.2]:=aA.keep (L.keep.get h1.size (by omega))
 have ar:Blk ab g.size #[.int .i64 0,.int .i64 0]:=B1.keep (ah.get g.size (by omega))
 have aC:=ro.frame (λc hc=>ae.get c (ro.own c hc).2.1) (Fr.le.refl M) λc hc=>(ro.own c hc).2.2
 have aL:=aC.rd ai.ag (all:=hb) (λc hc=>hc) (by rw[AL];exact hσ)
 have a6:=MxL.ag ai.ag hb
 have bo:hd.len=σ.length:=by rw[ro.len,AL]
 generalize ba:(Qs (Wr s t.2)).1=key at eQ
 refine⟨λi h=>h=ab/\∃n:Nat,i=(n:Int)/\n<=σ.length/\∀j (hj:j<σ.length),j<n->σ[j]≠key,λi _=>σ.length-i.toNat,⟨rfl,0,rfl,by omega,λj _ hj=>by omega⟩,?_⟩
 rintro i h ⟨rfl,n,rfl,hn,aB⟩
 refine⟨λan=>?_,λaG=>?_⟩
 ·have an:n<σ.length:=by have:=of_decide_eq_true an;omega
  obtain⟨ad,⟨q1,q2,q3⟩,x,q4,q5⟩:=z6h a6 aL (k:=n) (by rw[AL];exact an) (i:=(n:Int)) rfl (L:=hd.len) rfl (Q:=λx=>x=Go.X.bl σ[n]) (by rw[List.getElem_map])
  subst q5
  refine⟨ad,⟨q1,q2,q3⟩,_,q4,?_⟩
  rw[zcb]
  refine⟨λhy=>?_,λhy=>?_⟩
  ·have hy:σ[n]=key:=of_decide_eq_true hy
   refine Qt ai λg' P' S'=>⟨false,rfl,?_⟩
   have hz:=S'.le
   refine zbd (ar.keep (S'.fr g.size (by omega) (Z _ (Ad _)))) λg2 f2 z2 B2=>⟨_,_,z03 B2,?_⟩
   refine hK false g2 st _ _ [] (0,0) (P'.off (Z _ (Ad _)) (am _ (Ad _)) z2 f2) (((Stp.keep (O:=O) ae).trans S').loc (Ad _) z2 f2) rfl ?_
   rw[eQ,if_pos (by rw[<-hy];exact AM an)];exact⟨rfl,rfl⟩
  ·have hy:¬σ[n]=key:=of_decide_eq_false hy
   rw[w64 (by omega)]
   refine⟨⟨rfl,n+1,by omega,by omega,λj hj bn=>?_⟩,by dsimp only;omega⟩
   rcases AF j n with h|h
   ·exact aB j hj h
   ·have:j=n:=by omega
    subst this;exact hy
 ·have aG:σ.length<=n:=by have:=of_decide_eq_false aG;omega
  have aE:¬key∈σ:=λhm=>by
   obtain⟨j,hj,e⟩:=AY hm
   exact aB j hj (by omega) e
  rw[if_neg aE]at eQ
  obtain⟨kk,c1,A2,aO⟩:=zgs ai aF hl
  refine⟨_,rfl,_,by rw[zi];exact c1,_,rfl,?_⟩
  rw[zi]
  refine aO λbi aT af=>?_
  have a8:=af.le
  have aM:=aU.keep (af.fr h1.size (by omega) (Z _ (by omega)))
  have ap:=ar.keep (af.fr g.size (by omega) (Z _ (by omega)))
  refine⟨t.2.1,t.2.2,z03 aM,?_⟩
  have au:=Stp.keep (O:=O) ae
  refine z4i aT hl (by omega) (λh7 aS ay aa=>⟨true,rfl,?_⟩) (λh7 aS ay aa=>⟨false,rfl,?_⟩)
  ·have aH:=aa.le
   refine⟨aa.fr h1.size (by omega) (Z _ (by omega)),aa.fr h1.size (by omega) (Z _ (by omega)),?_⟩
   refine zbd (ap.keep (aa.fr g.size (by omega) (Z _ (by omega)))) λg2 f2 z2 B2=>⟨_,_,z03 B2,?_⟩
   refine hK true g2 st.skip.skip _ _ key t.2 (ay.off (Z _ (Ad _)) (am _ (Ad _)) z2 f2) (((au.trans af).trans aa).loc (Ad _) z2 f2) (by rw[qw,qw]) ?_
   rw[eQ,if_pos h7];exact⟨rfl,rfl⟩
  ·have aH:=aa.le
   refine⟨aa.fr h1.size (by omega) (Z _ (by omega)),aa.fr h1.size (by omega) (Z _ (by omega)),?_⟩
   refine zbd (ap.keep (aa.fr g.size (by omega) (Z _ (by omega)))) λg2 f2 z2 B2=>⟨_,_,z03 B2,?_⟩
   refine hK false g2 st.skip _ _ key t.2 (ay.off (Z _ (Ad _)) (am _ (Ad _)) z2 f2) (((au.trans af).trans aa).loc (Ad _) z2 f2) (by rw[qw]) ?_
   rw[eQ,if_neg h7];exact⟨rfl,rfl⟩
end
end
section
def zxp(g:zb)(bp:Nat):Nat:=match zc g ⟨bp,1,none⟩,zc g ⟨bp,2,none⟩with
 |some (.slice _ n _),some (.int _ k)=>n-k.toNat
 |_,_=>0
theorem RS.left{lo:Nat}{g:zb}{M:Fr}{bp:Nat}{s:Bs}{l:List Tk}{st:PSt}{a e:Int}{O:Nat->Prop}(H:RS lo g M bp s l st a e O):zxp g bp=st.rest.length:=by
 obtain⟨ls,k,na,sl,b,cs,W,A,h1,rfl⟩:=H
 unfold zxp
 rw[W.blk.cell (o:=1) (v:=slV ls) rfl,W.blk.cell (o:=2) (v:=.int .i64 (k:Int)) rfl]
 show ls.len-(k:Int).toNat=_
 rw[A.rest,As,(rowLen W.rd).1,Ae]
theorem qar:ElemT Tp 23 9 (.string ⟨#[]⟩) (sz .str) 16:=⟨by kernel_rfl,⟨Tryz.t9,by kernel_rfl,by kernel_rfl,by kernel_rfl,by kernel_rfl⟩,rfl,by decide⟩
def z8w(lo:Nat)(M:Fr)(bp:Nat)(s:Bs)(l:List Tk)(lv:Int)(val:zkw):Prop:=
 ∀(key:Sp) (g:zb) (st:PSt) (a e:Int) (O:Nat->Prop),RS lo g M bp s l st a e O->st.nodes.length<=4096->st.T<=200000->(∀t∈st.rest,TkW s t) ->
  ∀K:Value->zb->Prop,(∀b g' st' a' e' O',RS lo g' M bp s l st' a' e' O'->Stp g O g' O'->st.nodes.length<=st'.nodes.length->Ans (val key st) b st' a' e'->K (.bool b) g')->XC Tp 64 #[.pointer (some ⟨bp,0,none⟩),.int .i64 lv,.agg #[.int .i64 key.1,.int .i64 key.2]] g K
section
variable {lo : Nat} {g : zb} {M gl : Fr} {bp : Nat} {s : Bs} {l : List Tk} {st : PSt} {a e : Int} {O : Nat -> Prop} {K : Value -> zb -> Prop} {val : zkw}
set_option maxRecDepth 100000 in
set_option maxHeartbeats 4000000 in
theorem zxq(hg:GL gl)(hM:Fr.le gl M)(hs:s.length<=65536)(hl:l.length<=65536){aQ lv:Int}(c7:Aa .i64 (aQ+1)=lv)(hv:z8w lo M bp s l lv val)(br:zzp val)
  {closing:Int} (cq:closing≠0) (d7:closing≠6) {kid:zmr} (aH:(closing=3/\kid=znm s val)\/(closing≠3/\kid=zch val)) (H:RS lo g M bp s l st a e O) (h4:st.nodes.length<=4096) (hT:st.T<=200000) (hw:∀t∈st.rest,TkW s t) (cV:st.rest.length<l.length) {n:Nat} (hn:n<st.nodes.length)
  (hK:∀b g' st' a' e' O',RS lo g' M bp s l st' a' e' O'->Stp g O g' O'->st.nodes.length<=st'.nodes.length->Ans (Xm s n closing kid st) b st' a' e'->K (.bool b) g'):
  XC Tp 125 #[.pointer (some ⟨bp,0,none⟩),.int .i64 (n:Int),.int .i64 aQ,.int .i64 closing] g K:=by
 have cz:zo1 kid:=by
  rcases aH with⟨_,rfl⟩|⟨_,rfl⟩
  ·exact zq5 br
  ·exact zj8 br
 apply Q2
 have Hc:=H
 obtain⟨ls,k,na,sl,b,cs,W,A,dO,eO⟩:=Hc
 have dP:=(rowLen W.rd).1
 have hk:0<k:=by
  have:=A.rest
  rcases CY k with h|h
  ·rw[h,BC]at this;rw[this]at cV;omega
  ·exact h
 have dT:=A.le
 have bL:k-1<l.length:=by omega
 obtain⟨tb,o,e1,e2,e3,e4⟩:=ztl W.ag W.rd bL
 have bj:=A.last _ hk (Ak bL)
 have cM:Aa .i64 ((k:Int)-1)=((k-1:Nat):Int):=by rw[w64 (by omega)];omega
 have ek:∀c,g.size<=c->¬O c:=λc hc h=>by have:=(H.own h).2.1;omega
 have cE:∀c,g.size<=c->M c=none:=λc hc=>by
  cases e:M c with
  |none=>rfl
  |some x=>have:=H.ag.lt e;omega
 refine⟨_,rfl,ls,by rw[zi];exact W.blk.cell rfl,_,rfl,(k:Int),by rw[zi];exact W.blk.cell rfl,_,⟨e1,by omega,by omega⟩,st.last,?_,?_⟩
 ·rw[zi,zi,zi,cM,Ae,bj];exact e4
 refine Jp H ⟨_,rfl,λhx=>?_,λhx=>?_⟩
 ·have hx:st.kind=closing:=by simpa using hx
  obtain⟨k2,c1,A2,bn⟩:=zgs H (PSt.ne_kind hx cq) (by omega)
  refine⟨_,rfl,_,by rw[zi];exact c1,_,rfl,?_⟩
  rw[zi]
  refine bn λg' P' S'=>hK true g' st.skip a e O P' S' (by rw[qw];exact Ad _) ?_
  unfold Xm;rw[if_pos hx];exact⟨rfl,rfl⟩
 have dv:¬st.kind=closing:=by simpa using hx
 refine⟨λbJ bT h=>∃(f:Nat) (σ:List Bs) (Z:PSt) (a1 e1:Int) (O1:Nat->Prop) (aI:List Nat),RS lo h M bp s l Z a1 e1 O1/\ORow g.size h M .str (σ.map Go.X.bl) bJ aI/\(∀c∈aI,¬O1 c)/\Stp g O h O1/\Okk st Z 0/\Z.rest.length<f/\σ.length+Z.rest.length<=200000/\Xm s n closing kid st=Jw s n closing kid f σ Z/\bT=Z.last,λ_ _ h=>zxp h bp,
  ⟨st.rest.length+1,[],st,a,e,O,[],H,.nil,λc hc=>(by cases hc),Stp.refl g O,Okk.refl st,by omega,by rw[Cv];omega,by unfold Xm;rw[if_neg dv],rfl⟩,?_⟩
 rintro bJ bT h18 ⟨f,σ,Z,a1,e1,O1,aI,P1,ro,aM,S1,az,hf,hσ,hL,rfl⟩
 obtain⟨f,rfl⟩:∃f',f=f'+1:=⟨f-1,by omega⟩
 have d6:n<Z.nodes.length:=by have:=az.n;omega
 have cO:=P1.left
 have eh:=S1.le
 intro ai
 have bi:Keep h18.size h18 ai:=Keep.push _ _ (Ad _)
 have ei:ai.size=h18.size+1:=Al _
 have cJ:Blk ai h18.size #[.int .i64 0,.int .i64 0]:=Blk.new _ _ _
 clear_value ai
 have cu:=P1.keep bi
 have bC:Stp g O ai O1:=S1.trans (Stp.keep bi)
 have ak:=ro.frame (λc hc=>bi.get c (ro.own c hc).2.1) (Fr.le.refl M) λc hc=>(ro.own c hc).2.2
 have bG:∀c,O1 c->c<h18.size:=λc h=>(P1.own h).2.1
 intro dm cH
 have cj:∀(aC:Sl) (am:zb) (σ':List Bs) (aE:List Nat) (key:Sp) (ab:PSt) (a2 e2:Int),RS lo am M bp s l ab a2 e2 O1->ORow g.size am M .str (σ'.map Go.X.bl) aC aE->(∀c∈aE,¬O1 c)->Blk am h18.size #[.int .i64 key.1,.int .i64 key.2]->Stp g O am O1->Okk Z ab 0->ab.nodes=Z.nodes->σ'.length+ab.rest.length<=200000->kid σ Z=(match val key ab with | .inl st'=>.inl (σ',st') | .inr e=>.inr e)->dm aC am:=by
  intro aC am σ' aE key ab a2 e2 bP aB aP dF bS cb aU dV ae
  refine cH aC am ?_
  have ah:=az.trans cb
  have Pc:=bP
  obtain⟨d0,k1,ej,cB,b1,em,W1,A1,bH,dY⟩:=Pc
  have l1:cB.len=Z.nodes.length:=by rw[W1.ns.len,<-aU,<-bH,AL]
  refine⟨_,rfl,cB,by rw[zi];exact W1.blk.cell rfl,key.1,key.2,z03 dF,?_⟩
  rw[c7,l1]
  refine hv key am ab a2 e2 O1 bP (ah.m h4) (by have:=ah.t;omega) (λt ht=>hw t (ah.w t ht)) _ λbb g2 aa a3 e3 O2 P2 S2 n2 A2=>⟨bb,rfl,λhb=>?_,λhb=>?_⟩
  ·have hb:bb=false:=by simpa using hb
   subst hb
   refine hK false g2 aa a3 e3 O2 P2 (bS.trans S2) (by have:=ah.n;omega) ?_
   rw[hL,Jw,ae]
   cases hr:val key ab with
   |inl t=>rw[hr]at A2;exact absurd A2.1 (by simp)
   |inr x=>rw[hr]at A2;exact⟨rfl,A2.2⟩
  have hb:bb=true:=by simpa using hb
  subst hb
  have a8:val key ab=.inl aa:=by
   cases hr:val key ab with
   |inl t=>rw[hr]at A2;rw[A2.2]
   |inr x=>rw[hr]at A2;exact absurd A2.1 (by simp)
  rw[a8]at ae
  have ae:kid σ Z=.inl (σ',aa):=ae
  have ok2:=br _ _ _ a8
  have aJ:=cz _ _ _ _ ae
  rw[Jw,ae]at hL
  dsimp only at hL
  have bg:=bS.trans S2
  refine Jp P2 ⟨_,rfl,λv h=>h=g2/\∃x:Int,v=.int .i64 x/\(¬aa.kind=6->x=aa.kind),λh6=>Jp P2 ⟨_,rfl,rfl,_,rfl,λ_=>rfl⟩,λh6=>⟨0,rfl,0,rfl,λhh=>absurd (by simpa using h6) hh⟩,λ_ v h ⟨_,x,hx,_⟩=>⟨x,hx⟩,?_⟩
  rintro x h34 ⟨rfl,x',dy,dI⟩
  cases dy
  have bq:(bif (aa.kind != 6)then(x != closing)else false)=!decide (aa.kind=6\/aa.kind=closing):=by
   by_cases h6:aa.kind=6
   ·simp[h6]
   ·rw[dI h6]
    by_cases af:aa.kind=closing
    ·simp[af]
    ·simp[h6,af]
  rw[bq]
  refine⟨λhy=>?_,λhy=>?_⟩
  ·have hy:¬(aa.kind=6\/aa.kind=closing):=by simpa using hy
   rw[if_neg (λh=>hy (.inr h)),if_neg (λh=>hy (.inl h))]at hL
   refine Qt P2 λg' P' S'=>⟨false,rfl,hK false g' _ _ _ _ P' (bg.trans S') (by have:=ah.n;omega) ?_⟩
   rw[hL];exact⟨rfl,rfl⟩
  have hy:aa.kind=6\/aa.kind=closing:=of_decide_eq_true (by rwa[Bool.not_eq_false']at hy)
  have an:aa.rest≠[]:=by
   rcases hy with h|h
   ·exact PSt.ne_kind h (by omega)
   ·exact PSt.ne_kind h cq
  have dt:=P2
  obtain⟨dZ,k2,na,sl,b,cs,W,bY,h1,dH⟩:=dt
  have dS:na.length=aa.nodes.length:=by rw[<-h1,AL]
  have a7:n<na.length:=by have:=aJ.n;omega
  obtain⟨q1,q2,q3,q4,q5⟩:=W.ns.cell a7
  have dq:ndW na[n].1<=200000:=by
   have h:na[n].1∈aa.nodes:=by rw[<-h1];exact List.mem_map_of_mem (AM a7)
   have:=zwg h;have:=aJ.t;have:=az.t;omega
  unfold ndW at dq
  have ee:sl.len=na.length:=W.ns.len
  have bo:bp<h34.size:=W.blk.lt
  have df:b<h34.size:=(W.ns.own (.inl ⟨q3,rfl⟩)).2.1
  refine⟨_,rfl,sl,by rw[zi];exact W.blk.cell rfl,_,rfl,sl,by rw[zi];exact W.blk.cell rfl,⟨b,0,none⟩,⟨q1,by omega,by omega⟩,na[n].2.ks,?_,?_⟩
  ·rw[zi,zi,Ae,AB];exact q5 5 _ (by omega) rfl
  intro aG
  have aj:Keep h34.size h34 aG:=Keep.push _ _ (Ad _)
  have d9:aG.size=h34.size+1:=Al _
  have dr:Blk aG h34.size #[.int .i64 (Z.nodes.length:Int)]:=Blk.new _ _ _
  clear_value aG
  have da:NSt lo h34 M na sl b aG na cs:=⟨W.ns.frame aj.size λc hc=>aj.get c (W.ns.own hc).2.1,aj.size,λc h=>.inl h,λj hj _=>aj.get j hj⟩
  obtain⟨aV,dB⟩:=W.nst da
  have cd:lo<=aG.size:=by have:=(aV.own (.inl rfl));omega
  refine⟨by rw[zi,zi];exact aj.get b df,by rw[zi];exact aj.get bp bo,by rw[zi];exact aj.get bp bo,?_⟩
  refine NS.addK z7r (by omega) aV.ag cd aV.ns a7 dr (by omega) rfl λs' eu aO c8 ea dx bn=>⟨s',rfl,⟨b,0,none⟩,⟨q1,by omega,by omega⟩,?_⟩
  refine⟨by rw[zi];exact(dx bp (by omega) W.nb).trans (aj.get bp bo),?_⟩
  rw[zi,zi,Ae,AB]
  refine yy qa6 qa7 c8 (by omega) rfl λay u1 u2 u3=>?_
  obtain⟨aA,cG⟩:=aV.nst (bn ay u1 u2 u3)
  have be:n<(na.modify n (axK (Z.nodes.length:Int) s' aO)).length:=by rw[List.length_modify];exact a7
  have bz:(na.modify n (axK (Z.nodes.length:Int) s' aO))[n]=axK (Z.nodes.length:Int) s' aO na[n]:=by rw[List.getElem_modify,if_pos rfl]
  obtain⟨r1,r2,r3,r4,r5⟩:=aA.ns.cell be
  rw[bz]at r5
  have ep:=cG.le
  refine⟨_,rfl,sl,by rw[zi];exact aA.blk.cell rfl,_,rfl,sl,by rw[zi];exact aA.blk.cell rfl,⟨b,0,none⟩,⟨q1,by omega,by omega⟩,na[n].2.ps,?_,?_⟩
  ·rw[zi,zi,AB];exact r5 6 _ (by omega) rfl
  have dC:RS lo ay M bp s l ⟨aa.rest,aa.last,(na.modify n (axK (Z.nodes.length:Int) s' aO)).map (·.1)⟩ a3 e3 _:=⟨_,_,_,_,_,_,aA,bY.same rfl rfl,rfl,rfl⟩
  refine zpp dC ⟨_,rfl,rfl,rfl,rfl,rfl,rfl,rfl,?_⟩
  intro aF
  have ap:Keep ay.size ay aF:=Keep.push _ _ (Ad _)
  have eb:aF.size=ay.size+1:=Al _
  have cL:Blk aF ay.size #[.int .i64 Z.last,.int .i64 (aa.here s.length)]:=Blk.new _ _ _
  clear_value aF
  refine⟨by rw[zi,zi];exact ap.get b (by omega),by rw[zi];exact ap.get bp (by omega),by rw[zi];exact ap.get bp (by omega),?_⟩
  have dw:NSt lo ay M _ sl b aF _ _:=⟨aA.ns.frame ap.size λc hc=>ap.get c (aA.ns.own hc).2.1,ap.size,λc h=>.inl h,λj hj _=>ap.get j hj⟩
  obtain⟨aN,dJ⟩:=aA.nst dw
  have bM:lo<=aF.size:=by have:=(aN.own (.inl rfl));omega
  refine NS.addP z7s (by omega) aN.ag bM aN.ns be (k:=(Z.last,aa.here s.length)) cL (by rw[bz];show na[n].1.2.2.2.2.length<=_;omega) (by rw[bz];rfl) λs2 d8 cZ db dU cY cC=>⟨s2,rfl,⟨b,0,none⟩,⟨q1,by omega,by omega⟩,?_⟩
  refine⟨by rw[zi];exact(cY bp (by omega) aN.nb).trans (ap.get bp (by omega)),?_⟩
  rw[zi,zi,AB]
  refine yy qa8 qa9 db (by omega) rfl λcy v1 v2 v3=>?_
  obtain⟨du,dL⟩:=aN.nst (cC cy v1 v2 v3)
  have aZ:((na.modify n (axK (Z.nodes.length:Int) s' aO)).modify n (axP (Z.last,aa.here s.length) s2 cZ)).map (·.1)=(aa.addKid n (Z.nodes.length:Int) (Z.last,aa.here s.length)).nodes:=by
   rw[xn (f':=λx=>(x.1,x.2.1,x.2.2.1,x.2.2.2.1,x.2.2.2.2++[(Z.last,aa.here s.length)])) (λp=>rfl),xn (f':=λx=>(x.1,x.2.1,x.2.2.1,x.2.2.2.1++[(Z.nodes.length:Int)],x.2.2.2.2)) (λp=>rfl),h1]
   unfold PSt.addKid
   apply Bc
   intro i
   rw[Bn,Bn,Bn]
   cases aa.nodes[i]? with
   |none=>rfl
   |some x=>by_cases e:n=i <;> simp[e,zs9]
  have bu:RS lo cy M bp s l (aa.addKid n (Z.nodes.length:Int) (Z.last,aa.here s.length)) a3 e3 _:=⟨_,_,_,_,_,_,du,bY.same rfl rfl,aZ,rfl⟩
  have aL:=((dB.trans cG).trans dJ).trans dL
  rw[<-dH]at aL
  have ba:=bg.trans aL
  have b8:(aa.addKid n (Z.nodes.length:Int) (Z.last,aa.here s.length)).kind=aa.kind:=rfl
  have bZ:(aa.addKid n (Z.nodes.length:Int) (Z.last,aa.here s.length)).here s.length=aa.here s.length:=rfl
  have dz:=zdi aa n (Z.nodes.length:Int) (Z.last,aa.here s.length)
  refine Jp bu ⟨_,rfl,zpp bu ⟨_,rfl,?_⟩⟩
  rw[b8,bZ]
  obtain⟨kk,c1,A3,cF⟩:=zgs bu (show(aa.addKid n (Z.nodes.length:Int) (Z.last,aa.here s.length)).rest≠[]from an) (by omega)
  refine⟨_,rfl,_,by rw[zi];exact c1,_,rfl,?_⟩
  rw[zi]
  refine cF λco bE bB=>⟨λaf=>?_,λaf=>?_⟩
  ·have af:aa.kind=closing:=by simpa using af
   rw[if_pos af]at hL
   refine hK true co _ _ _ _ bE (ba.trans bB) (by rw[qw];have:=ah.n;omega) ?_
   rw[hL];exact⟨rfl,rfl⟩
  ·have af:¬aa.kind=closing:=by simpa using af
   have h6:aa.kind=6:=by
    rcases hy with h|h
    ·exact h
    ·exact absurd h af
   rw[if_neg af,if_pos h6]at hL
   have bA:=Xf cz ae (n:=n) (k:=(Z.nodes.length:Int)) (p:=(Z.last,aa.here s.length)) an
   have ck:=aL.trans bB
   have bh:=S2.trans ck
   refine⟨⟨f,σ',_,_,_,_,aE,bE,?_,?_,ba.trans bB,(az.trans bA).le (by omega),by have:=bA.r;omega,?_,hL,?_⟩,?_⟩
   ·exact aB.frame (λc hc=>bh.fr c (aB.own c hc).2.1 (aP c hc)) (Fr.le.refl M) λc hc=>(aB.own c hc).2.2
   ·intro c hc ho
    rcases bh.sub c ho with h|h
    ·exact aP c hc h
    ·have:=(aB.own c hc).2.1;omega
   ·have:=ok2.r
    obtain⟨t,r,er⟩:=AX an
    have e1:(aa.addKid n (Z.nodes.length:Int) (Z.last,aa.here s.length)).skip.rest.length+1=aa.rest.length:=z0v (st:=aa.addKid n (Z.nodes.length:Int) (Z.last,aa.here s.length)) an
    omega
   ·obtain⟨t,r,er⟩:=AX an
    have dQ:t.1=6:=by unfold PSt.kind at h6;rw[er]at h6;exact h6
    obtain⟨w1,w2,w3,w4⟩:=hw t (az.w t (aJ.w t (by rw[er];simp)))
    have w5:=w4 (by omega)
    have e1:aa.here s.length=t.2.1:=by unfold PSt.here;rw[er]
    have e2:(aa.addKid n (Z.nodes.length:Int) (Z.last,aa.here s.length)).skip.last=t.2.2:=by
     unfold PSt.skip PSt.addKid;dsimp only;rw[er]
    rw[e1,e2]at *
    rw[w64 (by omega)];omega
   ·have e1:=bE.left
    have:=bA.r
    show zxp co bp<zxp h18 bp
    rw[e1,cO];omega
 have cA:Okk Z Z 0:=Okk.refl Z
 refine⟨λh3=>?_,λh3=>?_⟩
 ·have h3:closing=3:=by simpa using h3
  have ae:kid=znm s val:=by
   rcases aH with⟨_,h⟩|⟨h,_⟩
   ·exact h
   ·exact absurd h3 h
  have eo:∀c,g.size<=c->M c=none:=cE
  refine z7u hg hM hs (by omega) cu (λt ht=>hw t (az.w t ht)) ak (by omega) aM λbb au ab a2 e2 x sp dD cn aU AQ=>⟨_,_,_,_,rfl,?_⟩
  intro aS
  have dA:Keep au.size au aS:=Keep.push _ _ (Ad _)
  have ec:aS.size=au.size+1:=Al _
  have cT:Blk aS au.size #[.int .i64 0,.int .i64 0]:=Blk.new _ _ _
  clear_value aS
  have ed:=cn.le
  refine zbd cT λar dE en cQ=>?_
  have cg:Keep au.size au ar:=⟨by omega,λj hj=>(dE j (by omega)).trans (dA.get j hj)⟩
  have cp:=dD.keep cg
  have bU:Stp ai O1 ar O1:=cn.trans (Stp.keep cg)
  refine⟨λhb=>?_,λhb=>?_⟩
  ·have hb:bb=false:=by simpa using hb
   subst hb
   refine hK false ar ab a2 e2 O1 cp (bC.trans bU) (by rw[aU];exact az.n) ?_
   rw[hL,Jw,ae,zj9]
   cases hr:zwh s σ Z with
   |inl t=>rw[hr]at AQ;exact absurd AQ.1 (by simp)
   |inr y=>rw[hr]at AQ;exact⟨rfl,AQ.2⟩
  have hb:bb=true:=by simpa using hb
  subst hb
  have b9:zwh s σ Z=.inl (x,sp,ab):=by
   cases hr:zwh s σ Z with
   |inl t=>rw[hr]at AQ;rw[AQ.2]
   |inr y=>rw[hr]at AQ;exact absurd AQ.1 (by simp)
  obtain⟨aY,_⟩:=z0w b9
  have aY:Okk Z ab 4:=aY
  intro ax
  have bm:Keep ar.size ar ax:=Keep.push _ _ (Ad _)
  have d5:ax.size=ar.size+1:=Al _
  have de:Blk ax ar.size #[.string (Go.X.bl x)]:=Blk.new _ _ _
  clear_value ax
  have cc:=cp.keep bm
  have a6:Stp ai O1 ax O1:=bU.trans (Stp.keep bm)
  have ca:=ak.frame (λc hc=>a6.fr c (ak.own c hc).2.1 (aM c hc)) (Fr.le.refl M) λc hc=>(ak.own c hc).2.2
  have dN:=a6.le
  have nh:∀c∈aI,c<h18.size:=λc hc=>(ro.own c hc).2.1
  refine ORow.app qar (by omega) cc.ag ca (by omega) de (x:=Go.X.bl x) rfl (by rw[AL];omega) λs' bD dl cm cP bO aT=>⟨s',rfl,sp.1,sp.2,?_,?_⟩
  ·refine z03 (cQ.keep ?_)
   rw[aT au.size (by omega) λhm=>by have:=nh _ hm;omega]
   exact bm.get _ (by omega)
  have bQ:∀j,j<ax.size->(O1 j\/M j≠none)->bD[j]?=ax[j]?:=λj hj ho=>aT j hj λhm=>by
   rcases ho with ho|ho
   ·exact aM j hm ho
   ·exact ho (ro.own j hm).2.2
  have dh:=cc.frame cP λc hc ho=>bQ c hc ho
  have di:Blk bD h18.size #[.int .i64 0,.int .i64 0]:=by
   refine cJ.keep ?_
   rw[aT h18.size (by omega) λhm=>by have:=nh _ hm;omega]
   exact a6.fr _ (by omega) λho=>by have:=bG _ ho;omega
  refine zbd di λdM bI bV dG=>?_
  have bF:¬O1 h18.size:=λho=>by have:=bG _ ho;omega
  refine cj s' dM (σ++[x]) dl sp ab a2 e2 (dh.off bF (cE _ (by omega)) bV bI) ?_ ?_ dG ?_ (aY.le (by omega)) aU ?_ ?_
  ·rw[CP]
   refine cm.frame (λc hc=>bI c λe=>?_) (Fr.le.refl M) λc hc=>(cm.own c hc).2.2
   rcases bO c hc with h|h
   ·have:=nh c h;omega
   ·omega
  ·intro c hc ho
   rcases bO c hc with h|h
   ·exact aM c h ho
   ·have:=bG c ho;omega
  ·have Sg:Stp g O bD O1:=by
    have A0:=bC.trans a6
    refine⟨by have:=A0.le;omega,A0.sub,λj hj hn=>?_⟩
    rw[aT j (by have:=A0.le;omega) λhm=>by have:=(ro.own j hm).1;omega]
    exact A0.fr j hj hn
   exact Sg.loc (by omega) bV bI
  ·rw[Ar]
   have:=aY.r
   show σ.length+1+ab.rest.length<=_
   omega
  ·rw[ae,zj9,b9];rfl
 ·have h3:¬closing=3:=by simpa using h3
  have ae:kid=zch val:=by
   rcases aH with⟨h,_⟩|⟨_,h⟩
   ·exact absurd h h3
   ·exact h
  exact cj bJ ai σ aI (0,0) Z a1 e1 cu ak aM cJ bC cA rfl hσ (by rw[ae];unfold zch;rfl)
end
end
section
theorem z7v:ElemT Tp 34 62 (.agg #[.int .i64 0,.int .i64 0,.int .i64 0,.int .i64 0,.int .i64 0,.slice none 0 0,.slice none 0 0]) 7 88:=⟨by kernel_rfl,⟨Tryz.t62,by kernel_rfl,by kernel_rfl,by kernel_rfl,by kernel_rfl⟩,rfl,by decide⟩
theorem qbb:ql Tp 34=true:=by kernel_rfl
theorem qbc:qy Tp 34=1:=by kernel_rfl
theorem qbv:ql Tp 154=true:=by kernel_rfl
theorem qbw:qy Tp 154=1:=by kernel_rfl
section
variable {lo : Nat} {M gl : Fr} {bp : Nat} {s : Bs}
set_option maxRecDepth 100000 in
set_option maxHeartbeats 4000000 in
theorem zz5(hg:GL gl)(hM:Fr.le gl M)(hs:s.length<=65536):∀d:Nat,d<=32->qaq lo M bp s (33-(d:Int)) (Qc s d):=by
 intro d
 induction d with
 |zero=>
  intro hd key g st a e O P h4 hT hw K hK
  apply Zj
  intro h1 h2
  have k1:Keep g.size g h1:=Keep.push _ _ (Ad _)
  have k2:Keep h1.size h1 h2:=Keep.push _ _ (Ad _)
  have z1:h1.size=g.size+1:=Al _
  have B1:Blk h1 g.size #[.pointer (some ⟨bp,0,none⟩)]:=Blk.new _ _ _
  clear_value h1 h2
  have ab:Keep g.size g h2:=k1.trans k2 (by omega)
  have B2:=B1.keep (k2.get g.size (by omega))
  refine⟨_,B2.cell rfl,zks (P.keep ab) ⟨_,rfl,?_⟩⟩
  refine(znd (k:=st.kind) (R:=λr=>r=yb st.kind) rfl).go hM (P.keep ab).ag (yu (a:=Arg.mk (.int .i64) _) (Jt _ _) j9) λv h8 M' r L hv hr=>⟨r,z8q hv,?_⟩
  subst hr
  have ai:=L.keep
  have k8:Keep g.size g h8:=ab.trans ai ab.size
  have B8:=B2.keep (ai.get g.size (by have:=ab.size;have:=k2.size;omega))
  refine⟨λhx=>⟨_,B8.cell rfl,?_⟩,λhx=>⟨λhy=>⟨_,B8.cell rfl,?_⟩,λhy=>?_⟩⟩
  ·refine Jo (P.keep k8) λg' P' S'=>⟨false,rfl,hK false g' st _ _ O P' ((Stp.keep (O:=O) k8).trans S') (Ad _) ?_⟩
   rw[Qc,if_pos (by simpa using hx)];exact⟨rfl,rfl⟩
  ·refine Jo (P.keep k8) λg' P' S'=>⟨false,rfl,hK false g' st _ _ O P' ((Stp.keep (O:=O) k8).trans S') (Ad _) ?_⟩
   rw[Qc,if_neg (by simpa using hx)];exact⟨rfl,rfl⟩
  ·exact absurd (of_decide_eq_false hy) (by omega)
 |succ d ih=>
  intro hd key g st a e O P h4 hT hw K hK
  have ih:=ih (by omega)
  have aO:=zgj s d
  apply Zj
  intro h1 h2
  have k1:Keep g.size g h1:=Keep.push _ _ (Ad _)
  have k2:Keep h1.size h1 h2:=Keep.push _ _ (Ad _)
  have z1:h1.size=g.size+1:=Al _
  have z2:h2.size=h1.size+1:=Al _
  have B1:Blk h1 g.size #[.pointer (some ⟨bp,0,none⟩)]:=Blk.new _ _ _
  have Bk2:Blk h2 h1.size #[.int .i64 key.1,.int .i64 key.2]:=Blk.new _ _ _
  clear_value h1 h2
  have ab:Keep g.size g h2:=k1.trans k2 (by omega)
  have B2:=B1.keep (k2.get g.size (by omega))
  refine⟨_,B2.cell rfl,zks (P.keep ab) ⟨_,rfl,?_⟩⟩
  refine(znd (k:=st.kind) (R:=λr=>r=yb st.kind) rfl).go hM (P.keep ab).ag (yu (a:=Arg.mk (.int .i64) _) (Jt _ _) j9) λv h8 M' r L hv hr=>⟨r,z8q hv,?_⟩
  subst hr
  have ai:=L.keep
  have k8:Keep g.size g h8:=ab.trans ai ab.size
  have z8:h2.size<=h8.size:=ai.size
  have B8:=B2.keep (ai.get g.size (by omega))
  have bQ:=Bk2.keep (ai.get h1.size (by omega))
  have P8:=P.keep k8
  have S8:Stp g O h8 O:=Stp.keep k8
  refine⟨λhx=>⟨_,B8.cell rfl,?_⟩,λhx=>⟨λhy=>?_,λhy=>?_⟩⟩
  ·refine Jo P8 λg' P' S'=>⟨false,rfl,hK false g' st _ _ O P' (S8.trans S') (Ad _) ?_⟩
   rw[Qc,if_pos (by simpa using hx)];exact⟨rfl,rfl⟩
  ·have:=of_decide_eq_true hy;omega
  have hx:¬yb st.kind=0:=by simpa using hx
  have az:=zey hx
  obtain⟨t,r,er⟩:=AX az
  have bM:=P8
  obtain⟨rs,lf,na,sl,b,cs,W,aF,eO⟩:=bM
  have bG:na.length=st.nodes.length:=by rw[<-aF,AL]
  have aC:sl.len=st.nodes.length:=by rw[W.ns.len,bG]
  refine⟨_,B8.cell rfl,_,rfl,sl,by rw[zi];exact W.blk.cell rfl,?_⟩
  rw[aC]
  refine⟨λhz=>⟨_,B8.cell rfl,?_⟩,λhz=>?_⟩
  ·refine Jo P8 λg' P' S'=>⟨false,rfl,hK false g' st _ _ O P' (S8.trans S') (Ad _) ?_⟩
   have hz:st.nodes.length=4096:=by have:=of_decide_eq_true hz;omega
   rw[Qc,if_neg hx,if_pos hz];exact⟨rfl,rfl⟩
  have hz:¬st.nodes.length=4096:=λh=>by have:=of_decide_eq_false hz;omega
  have eV:Qc s (d+1) key st=match zj7 s (Qc s d) st.nodes.length (yb st.kind) (st.open key)with
   |.inl st'=>.inl (st'.setTo st.nodes.length)
   |.inr e=>.inr e:=by rw[Qc,if_neg hx,if_neg hz];rfl
  have rd:=W.rd
  have hl:=(rowLen W.rd).1
  rw[er]at rd hl
  rw[AI]at hl
  obtain⟨tb,o,e1,e2,e3,e4⟩:=ztl W.ag rd (k:=0) (by simp)
  have bn:st.kind=t.1:=by unfold PSt.kind;rw[er]
  have be:bp<h8.size:=W.blk.lt
  have aS:∀c,O c->c<g.size:=λc h=>(P.own h).2.1
  refine⟨_,B8.cell rfl,_,rfl,sl,by rw[zi];exact W.blk.cell rfl,_,B8.cell rfl,_,B8.cell rfl,_,rfl,sl,by rw[zi];exact W.blk.cell rfl,_,B8.cell rfl,_,rfl,rs,by rw[zi];exact W.blk.cell rfl,_,⟨e1,by omega,by omega⟩,t.2.1,t.2.2,?_,key.1,key.2,bQ.ld (cs:=[.int .i64 key.1,.int .i64 key.2]),rfl,rfl,rfl,?_⟩
  ·rw[zi,zi]
   exact⟨by rw[zi];exact e3,by rw[zi];exact e4,trivial⟩
  intro ah
  have af:Keep h8.size h8 ah:=Keep.push _ _ (Ad _)
  have bT:ah.size=h8.size+1:=Al _
  have bL:Blk ah h8.size (ndC ((yb st.kind,t.2,key,[],[]),ax0)).toArray:=Blk.new _ _ _
  clear_value ah
  refine⟨by rw[zi];exact af.get bp be,af.get g.size (by omega),af.get g.size (by omega),?_⟩
  have bJ:NSt lo h8 M na sl b ah na cs:=⟨W.ns.frame af.size λc hc=>af.get c (W.ns.own hc).2.1,af.size,λc h=>.inl h,λj hj _=>af.get j hj⟩
  obtain⟨aj,a8⟩:=W.nst bJ
  have aQ:lo<=ah.size:=by have:=(aj.own (.inl rfl));omega
  refine NS.push z7v (by omega) aj.ag aQ aj.ns (x:=(yb st.kind,t.2,key,[],[])) rfl rfl bL (by omega) λs' bS b' cs' bg bV aN aA=>⟨s',rfl,_,rfl,?_⟩
  have bA:¬nsO na sl b g.size:=λh=>by have:=aS g.size (by rw[eO];exact .inr h);omega
  refine⟨(aA g.size (by omega) bA).trans (af.get g.size (by omega)),?_⟩
  rw[zi]
  have aG:¬nsO (na++[((yb st.kind,t.2,key,[],[]),ax0)]) s' b' bp:=λh=>by
   rcases aN bp h with h|h
   ·exact W.nb h
   ·omega
  have aL:=aj.blk.keep (aA bp (by omega) aj.nb)
  refine yy qbb qbc aL (by show 4<7;omega) rfl λay u1 u2 u3=>?_
  have bP:PW lo ay M bp s st.rest st.last a e rs lf (na++[((yb st.kind,t.2,key,[],[]),ax0)]) s' b' cs':=by
   refine⟨u1,W.rd,bg.frame (by omega) λc hc=>u3 c λh=>aG (h ▸ hc),zhb aj.ag λj hj hm=>?_,W.bl,aG⟩
   rw[u3 j λh=>hm (h ▸ W.bl.2)]
   exact aA j hj λh=>hm (aj.ns.own h).2.2
  have bE:Stp ah (ppO bp na sl b) ay (ppO bp (na++[((yb st.kind,t.2,key,[],[]),ax0)]) s' b'):=by
   refine⟨by omega,λc h=>?_,λj hj hn=>?_⟩
   ·rcases h with h|h
    ·exact .inl (.inl h)
    ·rcases aN c h with h|h
     ·exact .inl (.inr h)
     ·exact .inr h
   ·rw[u3 j λh=>hn (.inl h)]
    exact aA j hj λh=>hn (.inr h)
  have aP:PaS lo ay M bp s ⟨st.rest,st.last,st.nodes++[(yb st.kind,t.2,key,[],[])]⟩ a e (ppO bp (na++[((yb st.kind,t.2,key,[],[]),ax0)]) s' b'):=⟨rs,lf,_,_,_,_,bP,by rw[CP,aF];rfl,rfl⟩
  have ak:Stp h8 O ay (ppO bp (na++[((yb st.kind,t.2,key,[],[]),ax0)]) s' b'):=by rw[eO];exact a8.trans bE
  generalize ppO bp (na++[((yb st.kind,t.2,key,[],[]),ax0)]) s' b'=O45 at aP ak
  have an:¬O g.size:=λh=>by have:=aS _ h;omega
  have bH:=B8.keep (ak.fr g.size (by omega) an)
  refine⟨_,bH.cell rfl,zpo aP az λZ ap bO=>⟨rfl,?_⟩⟩
  have br:(⟨st.rest,st.last,st.nodes++[(yb st.kind,t.2,key,[],[])]⟩:PSt).skip=st.open key:=by
   unfold PSt.skip PSt.open
   rw[bn]
   dsimp only
   rw[er]
  rw[br]at ap
  have ae:=ak.trans bO
  have bq:=ae.le
  have au:∀c,c<h8.size->¬O c->¬O45 c:=λc hc hn h=>by
   rcases ak.sub c h with h|h
   ·exact hn h
   ·omega
  have aE:=B8.keep (ae.fr g.size (by omega) an)
  have ax:=zo2 (key:=key) az hz
  have bu:(st.open key).nodes.length=st.nodes.length+1:=zez az
  intro bi aU
  have aI:∀(bb:Bool) (g':zb) (st':PSt) (a' e':Int) (O':Nat->Prop),PaS lo g' M bp s st' a' e' O'->Stp g O g' O'->(st.open key).nodes.length<=st'.nodes.length->g'[g.size]?=Z[g.size]?->Ans (zj7 s (Qc s d) st.nodes.length (yb st.kind) (st.open key)) bb st' a' e'->bi bb g':=by
   intro bb g' st' a' e' O' P' S' n' bj A'
   refine aU bb g' ?_
   have B':=aE.keep bj
   obtain⟨bY,bZ,aY,bB,b1,ca,W1,am,ba⟩:=P'
   have aZ:st.nodes.length<aY.length:=by
    have:aY.length=st'.nodes.length:=by rw[<-am,AL]
    omega
   obtain⟨q1,q2,q3,q4,q5⟩:=W1.ns.cell aZ
   refine⟨_,B'.cell rfl,_,rfl,bB,by rw[zi];exact W1.blk.cell rfl,_,B'.cell rfl,_,rfl,st'.last,by rw[zi,zi];exact W1.blk.cell rfl,⟨b1,0,none⟩,⟨q1,by omega,by have:=W1.ns.len;omega⟩,?_⟩
   rw[zi,zi,zi,Ae,AB,aC]
   refine yy zna znb q2 (by omega) rfl λg2 u1 u2 u3=>?_
   obtain⟨W2,S2⟩:=W1.nst (W1.ns.toB aZ u1 u2 u3)
   refine hK bb g2 (st'.setTo st.nodes.length) a' e' _ ⟨_,_,_,_,_,_,W2,?_,rfl⟩ (S'.trans (by rw[ba];exact S2)) (by rw[zci];omega) ?_
   ·rw[xn (f':=z4y st'.last) (λp=>rfl),am];rfl
   ·rw[eV]
    cases hr:zj7 s (Qc s d) st.nodes.length (yb st.kind) (st.open key)with
    |inl x=>rw[hr]at A';exact⟨A'.1,by rw[A'.2]⟩
    |inr x=>rw[hr]at A';exact A'
  have aT:Aa .i64 (33-((d+1:Nat):Int)+1)=33-(d:Int):=by rw[w64 (by omega)];omega
  have bU:=ax.t
  refine⟨λh5=>⟨_,aE.cell rfl,_,aE.cell rfl,?_⟩,λh5=>⟨λh6=>?_,λh6=>?_⟩⟩
  ·have h5:yb st.kind=5:=by simpa using h5
   refine zxo (J:=λ_=>False) (D:=λ_=>False) (HI:=λ_ _=>True) (kid:=zch (Qc s d)) (λ_ _ _ _ _=>trivial) aT (z4j ih) (zj8 aO) (by kernel_rfl) (by omega) ap trivial (λj hj=>hj.elim) (ax.m h4) (by omega) (λx hx=>hw x (ax.w x hx)) (by omega) λbb g' st' a' e' O' P' S' n' A'=>⟨bb,rfl,aI bb g' st' a' e' O' P' ?_ n' ?_ ?_⟩
   ·exact(S8.trans ae).trans ⟨S'.le,S'.sub,λj hj hn=>S'.fr j hj hn (λh=>h)⟩
   ·exact S'.fr g.size (by omega) (au _ (by omega) an) (λh=>h)
   ·rw[aC]at A';unfold zj7;rw[if_pos h5];exact A'
  ·have h5:¬yb st.kind=5:=by simpa using h5
   have h6:yb st.kind=6:=by simpa using h6
   intro aa aB
   have bm:Keep Z.size Z aa:=Keep.push _ _ (Ad _)
   have aV:Keep aa.size aa aB:=Keep.push _ _ (Ad _)
   have b8:aa.size=Z.size+1:=Al _
   have cb:aB.size=aa.size+1:=Al _
   have bI:MapAt aa Z.size []:=MapAt.new _
   have bh:Blk aB aa.size #[.map none]:=Blk.new _ _ _
   clear_value aa aB
   refine yy qbv qbw bh (by show 0<1;omega) rfl λaH u1 u2 u3=>?_
   have ar:Keep Z.size Z aH:=⟨by omega,λj hj=>by rw[u3 j (by omega),aV.get j (by omega),bm.get j hj]⟩
   have a7:MapAt aH Z.size []:=(bI.keep (aV.get _ (by omega))).keep (u3 _ (by omega))
   have bF:=ap.keep ar
   have aJ:=aE.keep (ar.get g.size (by omega))
   have cc:Stp Z O45 aH O45:=Stp.keep ar
   have aM:∀c,O45 c->c<Z.size:=λc h=>(ap.own h).2.1
   have bD:∀c,g.size<=c->M c=none:=λc hc=>by
    cases e:M c with
    |none=>rfl
    |some x=>have:=P.ag.lt e;omega
   refine⟨_,aJ.cell rfl,?_⟩
   refine zxo (J:=λj=>j=Z.size) (D:=λj=>j=g.size\/j=aa.size\/j=Z.size) (HI:=λσ g'=>Blk g' g.size #[.pointer (some ⟨bp,0,none⟩)]/\Blk g' aa.size #[.map (some Z.size)]/\z8v Z.size σ g') (kid:=znm s (Qc s d)) (λσ x y hx hf=>⟨hx.1.keep (hf _ (.inl rfl)),hx.2.1.keep (hf _ (.inr (.inl rfl))),?_⟩) aT ?_ (zq5 aO) (by kernel_rfl) (by omega) bF ⟨aJ,u1,[],a7,λk=>rfl⟩ (λj hj=>?_) (ax.m h4) (by omega) (λx hx=>hw x (ax.w x hx)) (by omega) λbb g' st' a' e' O' P' S' n' A'=>⟨bb,rfl,aI bb g' st' a' e' O' P' ?_ n' ?_ ?_⟩
   ·obtain⟨l,ml,mk⟩:=hx.2.2
    exact⟨l,ml.keep (hf _ (.inr (.inr rfl))),mk⟩
   ·intro σ x b9 a1 e1 O1 P1 I1 J1 bC bz bo K1 a6
    show XC Tp _ #[.int .i64 (33-(d:Int)),.pointer (some ⟨g.size,0,none⟩),.pointer (some ⟨aa.size,0,none⟩)] x K1
    apply Jy
    refine⟨_,I1.1.cell rfl,_,I1.2.1.cell rfl,?_⟩
    refine z7t hg hM hs ih (J:=λj=>j=g.size\/j=aa.size\/j=Z.size) (.inr (.inr rfl)) P1 I1.2.2 J1 bC bz bo (λj hj=>bD j (by omega)) λbb g' st' a' e' O' σ' P' S' n' H' A'=>⟨bb,rfl,a6 bb g' st' a' e' O' σ' P' S' n' (λhb=>⟨I1.1.keep ?_,I1.2.1.keep ?_,H' hb⟩) A'⟩
    ·have:=J1 g.size (.inl rfl)
     exact S'.fr _ this.1 this.2 (by omega)
    ·have:=J1 aa.size (.inr (.inl rfl))
     exact S'.fr _ this.1 this.2 (by omega)
   ·refine⟨by omega,λh=>?_⟩
    have:=aM j h
    rcases hj with rfl|rfl|rfl
    ·exact au _ (by omega) an h
    ·omega
    ·omega
   ·refine(S8.trans ae).trans ⟨by have:=S'.le;omega,λc h=>?_,λj hj hn=>?_⟩
    ·rcases S'.sub c h with h|h
     ·exact .inl h
     ·exact .inr (by omega)
    ·rw[S'.fr j (by omega) hn (by omega)];exact ar.get j hj
   ·rw[S'.fr g.size (by omega) (au _ (by omega) an) (by omega)];exact ar.get _ (by omega)
   ·rw[aC]at A';unfold zj7;rw[if_neg h5,if_pos h6];exact A'
  ·have h5:¬yb st.kind=5:=by simpa using h5
   have h6:¬yb st.kind=6:=by simpa using h6
   refine aI true Z (st.open key) a e O45 ap (S8.trans ae) (Ad _) rfl ?_
   unfold zj7;rw[if_neg h5,if_neg h6];exact⟨rfl,rfl⟩
end
end
section
def ztn(k:Int):Int:=if k=12 then 1 else if k=10\/k=11 then 2 else if k=9 then 3 else if k=8 then 4 else 0
theorem zxr{gl:Fr}{k:Int}{R:Int->Prop}(h:R (ztn k)):PC Tp gl 123 [Arg.mk (.int .i64) k] [.int .i64] R:=by
 apply Xr
 unfold ztn at h
 refine⟨λhx=>?_,λhx K hK=>?_⟩
 ·rw[if_pos (by simpa using hx)]at h;exact h
 have hx:¬k=12:=by simpa using hx
 rw[if_neg hx]at h
 have key:∀b:Bool,b=decide (k=10\/k=11)->K b:=λb hb=>hK b ⟨λh1=>by
   rw[h1]at hb
   rw[if_pos (of_decide_eq_true hb.symm)]at h;exact h,λh1=>by
   rw[h1]at hb
   rw[if_neg (of_decide_eq_false hb.symm)]at h
   refine⟨λh2=>?_,λh2=>⟨λh3=>?_,λh3=>?_⟩⟩
   ·rw[if_pos (by simpa using h2)]at h;exact h
   ·rw[if_neg (by simpa using h2),if_pos (by simpa using h3)]at h;exact h
   ·rw[if_neg (by simpa using h2),if_neg (by simpa using h3)]at h;exact h⟩
 refine⟨λh1=>key _ ?_,λh1=>key _ ?_⟩
 ·have:k=10:=by simpa using h1
  rw[h1,this];rfl
 ·have:¬k=10:=by simpa using h1
  rw[Az,beq_iff_eq,decide_eq_true_eq];omega
theorem zxs(k:Int):yb k=if k=2 then 6 else if k=4 then 5 else ztn k:=by
 unfold yb ztn
 by_cases h2:k=2
 ·subst h2;rfl
 ·by_cases h4:k=4
  ·subst h4;rfl
  ·simp only[h2,h4,if_false]
section
variable {lo : Nat} {M gl : Fr} {bp : Nat} {s : Bs} {l : List Tk}
set_option maxRecDepth 100000 in
set_option maxHeartbeats 4000000 in
theorem zgt(hg:GL gl)(hM:Fr.le gl M)(hs:s.length<=65536)(hl:l.length<=65536){d:Nat}(hd:d<=32)(a6:∀d',d=d'+1->z8w lo M bp s l (33-(d':Int)) (Qc s d')):z8w lo M bp s l (33-(d:Int)) (Qc s d):=by
 intro key g st a e O P h4 hT hw K hK
 apply Qg
 intro h1
 have k1:Keep g.size g h1:=Keep.push _ _ (Ad _)
 have z1:h1.size=g.size+1:=Al _
 have bP:Blk h1 g.size #[.int .i64 key.1,.int .i64 key.2]:=Blk.new _ _ _
 clear_value h1
 refine Jp (P.keep k1) ⟨_,rfl,?_⟩
 refine(zxr (k:=st.kind) (R:=λr=>r=ztn st.kind) rfl).go hM (P.keep k1).ag (yu (a:=Arg.mk (.int .i64) _) (Jt _ _) j9) λv h6 M' r L hv hr=>⟨r,z8q hv,?_⟩
 have k6:Keep g.size g h6:=k1.trans (c:=h6) (m:=g.size) ⟨L.keep.size,λj hj=>L.keep.get j (by omega)⟩ (Ad _)
 have br:=bP.keep (L.keep.get g.size (by omega))
 have P6:=P.keep k6
 have S6:Stp g O h6 O:=Stp.keep k6
 have z6:=L.keep.size
 intro bE bh
 refine Jp P6 ⟨_,rfl,?_⟩
 have a8:∀x,x=(if st.kind=4 then 5 else ztn st.kind)->bE x h6:=λx hx=>bh x h6 λbU bg=>by
  have au:bU (yb st.kind) h6:=by
   refine bg _ _ ⟨λhx=>?_,λhx=>⟨λhy=>?_,λhy=>?_⟩⟩
   ·refine Qt P6 λg' P' S'=>⟨false,rfl,hK false g' st _ _ O P' (S6.trans S') (Ad _) ?_⟩
    have hx:yb st.kind=0:=by simpa using hx
    cases d <;> (rw[Qc,if_pos hx];exact⟨rfl,rfl⟩)
   ·have hx:¬yb st.kind=0:=by simpa using hx
    refine Qt P6 λg' P' S'=>⟨false,rfl,hK false g' st _ _ O P' (S6.trans S') (Ad _) ?_⟩
    have hy:=of_decide_eq_true hy
    cases d with
    |zero=>rw[Qc,if_neg hx];exact⟨rfl,rfl⟩
    |succ d=>omega
   obtain⟨d,rfl⟩:∃d',d=d'+1:=⟨d-1,by have:=of_decide_eq_false hy;omega⟩
   have ih:=a6 d rfl
   have az:=zgj s d
   have hx:¬yb st.kind=0:=by simpa using hx
   have aA:=zey hx
   obtain⟨t,r,er⟩:=AX aA
   have bO:=P6
   obtain⟨ls,k,na,sl,b,cs,W,A,aI,eO⟩:=bO
   have bH:na.length=st.nodes.length:=by rw[<-aI,AL]
   have aP:sl.len=st.nodes.length:=by rw[W.ns.len,bH]
   refine⟨_,rfl,sl,by rw[zi];exact W.blk.cell rfl,λhz=>?_,λhz=>?_⟩
   ·refine Qt P6 λg' P' S'=>⟨false,rfl,hK false g' st _ _ O P' (S6.trans S') (Ad _) ?_⟩
    have hz:st.nodes.length=4096:=by have:=of_decide_eq_true hz;omega
    rw[Qc,if_neg hx,if_pos hz];exact⟨rfl,rfl⟩
   have hz:¬st.nodes.length=4096:=λh=>by have:=of_decide_eq_false hz;omega
   have eV:Qc s (d+1) key st=match zj7 s (Qc s d) st.nodes.length (yb st.kind) (st.open key)with
    |.inl st'=>.inl (st'.setTo st.nodes.length)
    |.inr e=>.inr e:=by rw[Qc,if_neg hx,if_neg hz];rfl
   obtain⟨hk,ek⟩:=A.cons er
   have cc:=(rowLen W.rd).1
   obtain⟨tb,o,e1,e2,e3,e4⟩:=ztl W.ag W.rd hk
   rw[ek]at e2 e3 e4
   have bA:st.kind=t.1:=by unfold PSt.kind;rw[er]
   have bu:bp<h6.size:=W.blk.lt
   have cb:∀c,O c->c<g.size:=λc h=>(P.own h).2.1
   refine⟨_,rfl,sl,by rw[zi];exact W.blk.cell rfl,_,rfl,sl,by rw[zi];exact W.blk.cell rfl,_,rfl,ls,by rw[zi];exact W.blk.cell rfl,_,rfl,(k:Int),by rw[zi];exact W.blk.cell rfl,_,⟨e1,by omega,by omega⟩,t.2.1,t.2.2,?_,key.1,key.2,z03 br,rfl,?_⟩
   ·rw[zi,zi,Ae]
    exact⟨by rw[zi];exact e3,by rw[zi];exact e4,trivial⟩
   intro af
   have ax:Keep h6.size h6 af:=Keep.push _ _ (Ad _)
   have b8:af.size=h6.size+1:=Al _
   have bM:Blk af h6.size (ndC ((yb st.kind,t.2,key,[],[]),ax0)).toArray:=Blk.new _ _ _
   clear_value af
   refine⟨by rw[zi];exact ax.get bp bu,?_⟩
   have bJ:NSt lo h6 M na sl b af na cs:=⟨W.ns.frame ax.size λc hc=>ax.get c (W.ns.own hc).2.1,ax.size,λc h=>.inl h,λj hj _=>ax.get j hj⟩
   obtain⟨ai,bn⟩:=W.nst bJ
   have a1:lo<=af.size:=by have:=(ai.own (.inl rfl));omega
   refine NS.push z7v (by omega) ai.ag a1 ai.ns (x:=(yb st.kind,t.2,key,[],[])) rfl rfl bM (by omega) λs' bY b' cs' bz ca aU aO=>⟨s',rfl,_,rfl,?_⟩
   rw[zi]
   have aJ:¬nsO (na++[((yb st.kind,t.2,key,[],[]),ax0)]) s' b' bp:=λh=>by
    rcases aU bp h with h|h
    ·exact W.nb h
    ·omega
   have aT:=ai.blk.keep (aO bp (by omega) ai.nb)
   refine yy qbb qbc aT (by show 3<6;omega) rfl λay u1 u2 u3=>?_
   have u1:Blk ay bp (rpC s ls k s' a e).toArray:=u1
   have bT:RW lo ay M bp s l k a e ls (na++[((yb st.kind,t.2,key,[],[]),ax0)]) s' b' cs':=by
    refine⟨u1,W.rd,bz.frame (by omega) λc hc=>u3 c λh=>aJ (h ▸ hc),zhb ai.ag λj hj hm=>?_,W.bl,aJ⟩
    rw[u3 j λh=>hm (h ▸ W.bl.2)]
    exact aO j hj λh=>hm (ai.ns.own h).2.2
   have bG:Stp af (ppO bp na sl b) ay (ppO bp (na++[((yb st.kind,t.2,key,[],[]),ax0)]) s' b'):=by
    refine⟨by omega,λc h=>?_,λj hj hn=>?_⟩
    ·rcases h with h|h
     ·exact .inl (.inl h)
     ·rcases aU c h with h|h
      ·exact .inl (.inr h)
      ·exact .inr h
    ·rw[u3 j λh=>hn (.inl h)]
     exact aO j hj λh=>hn (.inr h)
   have aZ:RS lo ay M bp s l ⟨st.rest,st.last,st.nodes++[(yb st.kind,t.2,key,[],[])]⟩ a e (ppO bp (na++[((yb st.kind,t.2,key,[],[]),ax0)]) s' b'):=⟨ls,k,_,_,_,_,bT,A.same rfl rfl,by rw[CP,aI];rfl,rfl⟩
   have an:=bn.trans bG
   rw[<-eO]at an
   generalize ppO bp (na++[((yb st.kind,t.2,key,[],[]),ax0)]) s' b'=O45 at aZ an
   obtain⟨kk,c1,A2,bq⟩:=zgs aZ aA (by omega)
   refine⟨_,rfl,_,by rw[zi];exact c1,_,rfl,?_⟩
   rw[zi]
   refine bq λaN aB bS=>?_
   have bB:(⟨st.rest,st.last,st.nodes++[(yb st.kind,t.2,key,[],[])]⟩:PSt).skip=st.open key:=by
    unfold PSt.skip PSt.open
    rw[bA]
    dsimp only
    rw[er]
   rw[bB]at aB
   have aY:=an.trans bS
   have am:=zo2 (key:=key) aA hz
   have bC:(st.open key).nodes.length=st.nodes.length+1:=zez aA
   have aS:(st.open key).rest.length<l.length:=by
    have h1:=am.r
    have h2:=A.rest
    have h3:st.rest.length=l.length-k:=by rw[h2,As]
    omega
   have ap:=S6.trans aY
   intro cg aL
   have aQ:∀(bb:Bool) (g':zb) (st':PSt) (a' e':Int) (O':Nat->Prop),RS lo g' M bp s l st' a' e' O'->Stp g O g' O'->(st.open key).nodes.length<=st'.nodes.length->Ans (zj7 s (Qc s d) st.nodes.length (yb st.kind) (st.open key)) bb st' a' e' ->
     (bb=true->∃aC:Addr,some (⟨bp,0,none⟩:Addr)=some aC/\∃aa:Sl,zc g' (Af aC 3)=some (.slice aa.a aa.len aa.cap)/\∃aG:Addr,some (⟨bp,0,none⟩:Addr)=some aG/\∃Z:Sl,zc g' (Af aG 1)=some (.slice Z.a Z.len Z.cap)/\∃aE:Addr,some (⟨bp,0,none⟩:Addr)=some aE/\∃ab:Int,zc g' (Af aE 2)=some (.int .i64 ab) /\
      ∃aH:Addr,(Z.a=some aH/\0<=(Aa .i64 (ab-1):Int)/\(Aa .i64 (ab-1):Int)<((Z.len:Nat):Int))/\∃ae:Int,zc g' (Af (Af (aH.add ((Aa .i64 (ab-1):Int).toNat*3)) 1) 1)=some (.int .i64 ae) /\
      ∃aF:Addr,(aa.a=some aF/\0<=((sl.len:Nat):Int)/\((sl.len:Nat):Int)<((aa.len:Nat):Int))/\XRunU Tp (Aj 3 (.pointer (some (Af (Af (aF.add ((((sl.len:Nat):Int)).toNat*7)) 1) 1))) (.int .i64 ae)) g' (λba=>K (.bool bb) ba))/\(bb=false->K (.bool bb) g'):=by
    intro bb g' st' a' e' O' P' S' n' A'
    refine⟨λhb=>?_,λhb=>?_⟩
    ·subst hb
     have ah:zj7 s (Qc s d) st.nodes.length (yb st.kind) (st.open key)=.inl st':=by
      cases hr:zj7 s (Qc s d) st.nodes.length (yb st.kind) (st.open key)with
      |inl x=>rw[hr]at A';rw[A'.2]
      |inr x=>rw[hr]at A';exact absurd A'.1 (by simp)
     have bQ:Okk (st.open key) st' 0:=by
      unfold zj7 at ah
      split at ah
      ·exact ze0 (by omega) (zj8 az) ah
      ·split at ah
       ·exact ze0 (by omega) (zq5 az) ah
       ·cases ah;exact Okk.refl _
     obtain⟨bL,ak,be,bF,b1,cj,W1,A1,ar,bo⟩:=P'
     have bi:st.nodes.length<be.length:=by
      have:be.length=st'.nodes.length:=by rw[<-ar,AL]
      omega
     obtain⟨q1,q2,q3,q4,q5⟩:=W1.ns.cell bi
     have bV:=(rowLen W1.rd).1
     have bI:st'.rest.length<l.length:=by have:=bQ.r;omega
     have bj:0<ak:=by
      have:=A1.rest
      rcases CY ak with h|h
      ·rw[h,BC]at this;rw[this]at bI;omega
      ·exact h
     have cd:=A1.le
     have aV:ak-1<l.length:=by omega
     obtain⟨bZ,o1,f1,f2,f3,f4⟩:=ztl W1.ag W1.rd aV
     have aM:=A1.last _ bj (Ak aV)
     have bm:Aa .i64 ((ak:Int)-1)=((ak-1:Nat):Int):=by rw[w64 (by omega)];omega
     refine⟨_,rfl,bF,by rw[zi];exact W1.blk.cell rfl,_,rfl,bL,by rw[zi];exact W1.blk.cell rfl,_,rfl,(ak:Int),by rw[zi];exact W1.blk.cell rfl,_,⟨f1,by omega,by omega⟩,st'.last,?_,⟨b1,0,none⟩,⟨q1,by omega,by have:=W1.ns.len;omega⟩,?_⟩
     ·rw[zi,zi,zi,bm,Ae,aM];exact f4
     rw[zi,zi,zi,Ae,AB,aP]
     refine yy zna znb q2 (by omega) rfl λg2 u1 u2 u3=>?_
     obtain⟨W2,S2⟩:=W1.nst (W1.ns.toB bi u1 u2 u3)
     rw[<-bo]at S2
     refine hK true g2 (st'.setTo st.nodes.length) a' e' _ ⟨_,_,_,_,_,_,W2,A1.same rfl rfl,?_,rfl⟩ (S'.trans S2) (by rw[zci];omega) ?_
     ·rw[xn (f':=z4y st'.last) (λp=>rfl),ar];rfl
     ·rw[eV,ah];exact⟨rfl,rfl⟩
    ·subst hb
     refine hK false g' st' a' e' O' P' S' (by omega) ?_
     rw[eV]
     cases hr:zj7 s (Qc s d) st.nodes.length (yb st.kind) (st.open key)with
     |inl x=>rw[hr]at A';exact absurd A'.1 (by simp)
     |inr x=>rw[hr]at A';exact A'
   have a7:Aa .i64 (33-((d+1:Nat):Int)+1)=33-(d:Int):=by rw[w64 (by omega)];omega
   have b9:=am.t
   refine⟨λh5=>?_,λh5=>?_⟩
   ·have h5:yb st.kind=5:=by simpa using h5
    refine zxq (kid:=zch (Qc s d)) hg hM hs hl a7 ih az (by omega) (by omega) (.inr ⟨by omega,rfl⟩) aB (am.m h4) (by omega) (λx hx=>hw x (am.w x hx)) aS (by omega) λbb g' st' a' e' O' P' S' n' A'=>⟨bb,rfl,aL bb g' λbD aj=>⟨λh6=>?_,λh6=>aj bb g' (aQ bb g' st' a' e' O' P' (ap.trans S') n' ?_)⟩⟩
    ·rw[h5]at h6;simp at h6
    ·rw[aP]at A';unfold zj7;rw[if_pos h5];exact A'
   ·have h5:¬yb st.kind=5:=by simpa using h5
    refine aL true aN λbD aj=>⟨λh6=>?_,λh6=>aj true aN (aQ true aN (st.open key) a e O45 aB ap (Ad _) ?_)⟩
    ·have h6:yb st.kind=6:=by simpa using h6
     refine zxq (kid:=znm s (Qc s d)) hg hM hs hl a7 ih az (by omega) (by omega) (.inl ⟨rfl,rfl⟩) aB (am.m h4) (by omega) (λx hx=>hw x (am.w x hx)) aS (by omega) λbb g' st' a' e' O' P' S' n' A'=>⟨bb,rfl,aj bb g' (aQ bb g' st' a' e' O' P' (ap.trans S') n' ?_)⟩
     rw[aP]at A';unfold zj7;rw[if_neg h5,if_pos h6];exact A'
    ·have h6:¬yb st.kind=6:=by simpa using h6
     unfold zj7;rw[if_neg h5,if_neg h6];exact⟨rfl,rfl⟩
  rw[zxs]at au
  refine Jp P6 ⟨_,rfl,λh2=>?_,λh2=>?_⟩
  ·have h2:st.kind=2:=by simpa using h2
   rw[if_pos h2]at au;exact au
  ·have h2:¬st.kind=2:=by simpa using h2
   rw[if_neg h2]at au
   rw[hx];exact au
 refine⟨λh4=>a8 _ ?_,λh4=>a8 _ ?_⟩
 ·rw[if_pos (by simpa using h4)]
 ·rw[if_neg (by simpa using h4)];exact hr
theorem zrl(hg:GL gl)(hM:Fr.le gl M)(hs:s.length<=65536)(hl:l.length<=65536):∀d:Nat,d<=32->z8w lo M bp s l (33-(d:Int)) (Qc s d)
 |0,h=>zgt hg hM hs hl h λd' e=>(by omega)
 |d+1,h=>zgt hg hM hs hl h λd' e=>by
  have:d'=d:=by omega
  subst this
  exact zrl hg hM hs hl d' (by omega)
end
end
section
variable {s:Bs} {f a t:Nat} {k:Int}
theorem TkS.frame{h:zb}{M:Fr}{b2 b3 b4 b5 bc D l:Nat}{rec:ztu}{out:List Tk}{sl:Sl}{bs:List Nat}{g g':zb}(S:TkS h M b2 b3 b4 b5 bc D l rec s out sl bs g)(A:Apart h b2 b3 b4 b5 bc D l)(hz:g.size<=g'.size)(f:∀j,j<g.size->g'[j]?=g[j]?):TkS h M b2 b3 b4 b5 bc D l rec s out sl bs g':=by
 have ll:=lt_of_some S.rc
 have:=A.lo;have:=A.a3;have:=A.a4;have:=A.a5;have:=A.ac;have:=A.aD;have:=A.al
 have kz:=S.keep.size
 exact⟨⟨by omega,λj hj=>(f j (by omega)).trans (S.keep.get j hj)⟩,S.c.keep (f _ (by omega)),(f _ (by omega)).trans S.d,(f _ ll).trans S.rc,S.r2.keep (f _ (by omega)),S.r3.keep (f _ (by omega)),S.r4.keep (f _ (by omega)),S.r5.keep (f _ (by omega)),S.o.frame (λc hc=>f c (S.o.own c hc).2.1) (Fr.le.refl _) λc hc=>(S.o.own c hc).2.2⟩
theorem zz6{o:List Tk}(ha:a<s.length)(h:Jv s a=(k,t,0)):Q0 (f+1) s a o=Q0 f s t (o++[(k,((a:Int),(t:Int)))]):=by
 rw[Q0,if_pos ha,h];rfl
theorem zz7{k e:Int}{o:List Tk}(ha:a<s.length)(h:Jv s a=(k,t,e))(he:¬e=0):Q0 (f+1) s a o=([],t,e):=by
 rw[Q0,if_pos ha,h];simp only;rw[if_neg he]
theorem zxt{o:List Tk}(ha:¬a<s.length):Q0 f s a o=(o,a,0):=by
 cases f with
 |zero=>rfl
 |succ f=>rw[Q0,if_neg ha]
section
variable {h : zb} {M gl : Fr} {b2 b3 b4 b5 bc D l : Nat} {rec : ztu} {s : Bs} {sl : Sl} {bs : List Nat} {g : zb}
abbrev qas(b2 b3 b4 b5:Nat)(x9 x8 x0:Value):Env:=[(9,[],x9),(8,[],x8),(5,[],.pointer (some ⟨b5,0,none⟩)),(4,[],.pointer (some ⟨b4,0,none⟩)),(3,[],.pointer (some ⟨b3,0,none⟩)),(2,[],.pointer (some ⟨b2,0,none⟩)),(0,[],x0)]
set_option maxRecDepth 100000 in
set_option maxHeartbeats 4000000 in
theorem qat(A:Apart h b2 b3 b4 b5 bc D l)(hg:GL gl)(hM:Fr.le gl M)(ag:AgM M h)(S:TkS h M b2 b3 b4 b5 bc D l rec s [] sl bs g){x9 x8 x0:Value}
  (af:∀{v1 v2:Value} {h2:zb} {K:Value->zb->Prop},h2[l]?=some (.loop (rec .ready none))->zgr Tp 25 (rfA (codeOf Tryz.f60)) (rfB (codeOf Tryz.f60)) rec l K (putO (putO (qas b2 b3 b4 b5 x9 x8 x0) (some 10) [] v1) (some 11) [] v2) h2->YX Tp l #[v1,v2] h2 K)
  {Q:zb->Prop} (hN:∀g out sl bs,TkS h M b2 b3 b4 b5 bc D l rec s out sl bs g->yk s=(out,s.length,0)->out.length<=100000->Q g)
  (hE:∀(g:zb) (t:Nat) (e:Int),¬e=0->yk s=([],t,e)->Keep h.size h g->g[D]?=some (.deferred (some []))->g[l]?=some (.loop (rec .done (some .ret)))->Blk g b2 #[.slice none 0 0]->Blk g b3 #[.int .i64 (t:Int)]->Blk g b4 #[.int .i64 e]->Q g):
  XCI Tp 197 #[.func (.yield l) #[] #[],.pointer (some ⟨bc,0,none⟩)] g (λ_ g'=>Q g'):=by
 have:=A.lo;have:=A.a3;have:=A.a4;have:=A.a5;have:=A.ac;have:=A.aD;have:=A.al
 apply zm9
 refine⟨bl s,S.c.cell rfl,λab=>?_,λah=>?_⟩
 ·have ae:65536<s.length:=by rw[zd]at ab;simp at ab;omega
  refine af S.rc (TkS.err A S (by omega) λg' q1 q2 q3 q4 q5 q6=>⟨false,rfl,?_⟩)
  refine hE g' 0 3 (by omega) ?_ q1 q2 q3 q4 q5 q6
  unfold yk;rw[if_pos ae]
 ·have ai:s.length<=65536:=by rw[zd]at ah;simp at ah;omega
  have hR:yk s=Q0 s.length s 0 []:=by unfold yk;rw[if_neg (by omega)]
  refine⟨λk g'=>∃(a f:Nat) (out:List Tk) (ap:Sl) (az:List Nat),k=(a:Int)/\a<=s.length/\s.length-a<=f/\out.length<=a/\yk s=Q0 f s a out/\TkS h M b2 b3 b4 b5 bc D l rec s out ap az g',λk _=>s.length-k.toNat,⟨0,s.length,[],sl,bs,rfl,by omega,by omega,Ad _,hR,S⟩,?_⟩
  rintro k g1 ⟨a,f,out,aA,aB,rfl,ha,hf,ho,hT,S1⟩
  refine⟨bl s,S1.c.cell rfl,λam=>⟨bl s,S1.c.cell rfl,?_⟩,λaj=>?_⟩
  ·have aa:a<s.length:=by rw[zd]at am;simp at am;omega
   obtain⟨f,rfl⟩:∃f',f=f'+1:=⟨f-1,by omega⟩
   have ax:AgM M g1:=ag.keep S1.keep
   refine z7g hg hM ax ai aa λg2 k2=>?_
   obtain⟨tk,t,e,Z⟩:∃k t e,Jv s a=(k,t,e):=⟨_,_,_,rfl⟩
   have z2:=k2.size
   by_cases he:e=0
   ·subst he
    have hp:=zgi aa (by rw[Z])
    rw[Z]at hp
    have aC:a<t:=hp.1
    have ar:t<=s.length:=hp.2
    have ev:zm5 s a=.tuple #[.agg #[.int .i64 tk,.int .i64 (a:Int),.int .i64 (t:Int)],.int .i64 0]:=by unfold zm5;rw[Z,if_pos rfl]
    refine⟨tk,a,t,0,ev,?_⟩
    intro g3
    have k3:Keep g2.size g2 g3:=Keep.push _ _ (Ad _)
    have z3:g3.size=g2.size+1:=Al _
    have B3:Blk g3 g2.size (zky 0 0 0).toArray:=Blk.new _ _ _
    clear_value g3
    refine zxd B3 λg4 q1 q2 q3=>⟨tk,a,t,q3.ld,?_⟩
    have f4:∀j,j<g1.size->g4[j]?=g1[j]?:=λj hj=>by rw[q1 j (by omega),k3.get j (by omega),k2.get j hj]
    have S4:=S1.frame A (by omega) f4
    have ll:=lt_of_some S1.rc
    refine af S4.rc (TkS.round A ag S4 (by omega) λg5 an au S5 z5 f5=>⟨true,rfl,λhx=>by simp at hx,λ_=>?_⟩)
    refine⟨t,?_,⟨t,f,_,an,au,rfl,ar,by omega,?_,?_,S5⟩,?_⟩
    ·rw[zi,zi]
     refine(q3.keep (f5 g2.size (by omega) (by omega) (by omega) λhm=>?_)).cell rfl
     have:=(S1.o.own g2.size hm).2.1
     omega
    ·rw[Ar];show out.length+1<=t;omega
    ·rw[hT,zz6 aa Z]
    ·show s.length-(t:Int).toNat<s.length-(a:Int).toNat
     rw[Ae,Ae];omega
   ·have ev:=ze2 Z he
    refine⟨0,t,t,e,ev,?_⟩
    intro g3
    have k3:Keep g2.size g2 g3:=Keep.push _ _ (Ad _)
    have z3:g3.size=g2.size+1:=Al _
    have B3:Blk g3 g2.size (zky 0 0 0).toArray:=Blk.new _ _ _
    clear_value g3
    refine zxd B3 λg4 q1 q2 q3=>⟨0,t,t,q3.ld,?_⟩
    have f4:∀j,j<g1.size->g4[j]?=g1[j]?:=λj hj=>by rw[q1 j (by omega),k3.get j (by omega),k2.get j hj]
    have S4:=S1.frame A (by omega) f4
    refine af S4.rc (TkS.err A S4 he λg5 w1 w2 w3 w4 w5 w6=>⟨false,rfl,λ_=>?_,λhx=>by simp at hx⟩)
    exact hE g5 t e he (by rw[hT,zz7 aa Z he]) w1 w2 w3 w4 w5 w6
  ·have ak:¬a<s.length:=by rw[zd]at aj;simp at aj;omega
   have ay:a=s.length:=by omega
   exact hN g1 out aA aB S1 (by rw[hT,zxt ak,ay]) (by omega)
end
end
end Go.X
end
section
namespace Go.X
open Go Go.X Go.Proofs Go.RowKit
set_option maxRecDepth 100000 in
set_option maxHeartbeats 4000000 in
section
theorem zz8{gl M:Fr}(hg:GL gl)(hM:Fr.le gl M){h:zb}(ag:AgM M h){s:Bs}{K:Value->zb->Prop}
  (hK:∀(h':zb) (M':Fr) (t:Sl),Later h M h' M'->Rd M' (.row tTk) (yk s).1 [slV t]->K (.tuple #[slV t,.int .i64 ((yk s).2.1:Nat),.int .i64 (yk s).2.2]) h'):
  XC Tp 60 #[.string (bl s)] h K:=by
 apply zkr
 intro h1 h2 h3 h4
 have k1:Keep h.size h h1:=Keep.push _ _ (Ad _)
 have k2:Keep h1.size h1 h2:=Keep.push _ _ (Ad _)
 have k3:Keep h2.size h2 h3:=Keep.push _ _ (Ad _)
 have k4:Keep h3.size h3 h4:=Keep.push _ _ (Ad _)
 have z1:h1.size=h.size+1:=Al _
 have z2:h2.size=h1.size+1:=Al _
 have z3:h3.size=h2.size+1:=Al _
 have z4:h4.size=h3.size+1:=Al _
 have B1:Blk h1 h.size #[.slice none 0 0]:=Blk.new _ _ _
 have B2:Blk h2 h1.size #[.int .i64 0]:=Blk.new _ _ _
 have B3:Blk h3 h2.size #[.int .i64 0]:=Blk.new _ _ _
 have B4:Blk h4 h3.size #[.slice none 0 0]:=Blk.new _ _ _
 clear_value h4 h3 h2 h1
 apply ztf
 intro h5
 have k5:Keep h4.size h4 h5:=Keep.push _ _ (Ad _)
 have z5:h5.size=h4.size+1:=Al _
 have B5:Blk h5 h4.size #[.string (bl s)]:=Blk.new _ _ _
 clear_value h5
 refine⟨_,rfl,_,_,rfl,by kernel_rfl,λrec ae=>?_⟩
 have e5:∀j,j<h.size->h5[j]?=h[j]?:=λj hj=>by rw[k5.get j (by omega),k4.get j (by omega),k3.get j (by omega),k2.get j (by omega),k1.get j hj]
 have A:Apart h h.size h1.size h2.size h3.size h4.size h5.size (h5.size+1):=⟨by omega,by omega,by omega,by omega,by omega,by omega,rfl⟩
 obtain⟨g0,aa⟩:∃g0,g0=(h5.push (.deferred (some []))).push (.loop (rec .ready none)):=⟨_,rfl⟩
 have gz:g0.size=h5.size+2:=by rw[aa,Al,Al]
 have ge:∀j,j<h5.size->g0[j]?=h5[j]?:=λj hj=>by rw[aa,Array.getElem?_push_lt (by rw[Al];omega)];rw[Array.getElem_push_lt hj,AJ hj]
 have gD:g0[h5.size]?=some (.deferred (some [])):=by rw[aa,Array.getElem?_push_lt (by rw[Al];omega),Array.getElem_push_eq]
 have ab:g0[h5.size+1]?=some (.loop (rec .ready none)):=by
  rw[aa]
  have:h5.size+1=(h5.push (.deferred (some []))).size:=by rw[Al]
  rw[this,Array.getElem?_push_size]
 rw[<-aa]
 clear aa
 have S:TkS h M h.size h1.size h2.size h3.size h4.size h5.size (h5.size+1) rec s [] ⟨none,0,0⟩ [] g0:=
  ⟨⟨by omega,λj hj=>(ge j (by omega)).trans (e5 j hj)⟩,B5.keep (ge _ (by omega)),gD,ab,
   B1.keep (by rw[ge _ (by omega),k5.get _ (by omega),k4.get _ (by omega),k3.get _ (by omega),k2.get _ (by omega)]),
   B2.keep (by rw[ge _ (by omega),k5.get _ (by omega),k4.get _ (by omega),k3.get _ (by omega)]),
   B3.keep (by rw[ge _ (by omega),k5.get _ (by omega),k4.get _ (by omega)]),
   B4.keep (by rw[ge _ (by omega),k5.get _ (by omega)]),.nil⟩
 refine qat A hg hM ag S (x9:=_) (x8:=_) (x0:=_) ae ?_ ?_
 ·intro g out sl bs S' hT ho
  have ll:=lt_of_some S'.rc
  refine .inl ⟨S'.rc,?_⟩
  obtain⟨g6,Z⟩:∃g6,g6=g.setIfInBounds (h5.size+1) (.loop (rec .exhausted none)):=⟨_,rfl⟩
  have z6:g6.size=g.size:=by rw[Z,A7]
  have f6:∀j,j≠h5.size+1->g6[j]?=g[j]?:=λj hj=>by rw[Z];exact yl hj
  rw[<-Z]
  clear Z
  refine⟨sl,(S'.r5.keep (f6 _ (by omega))).cell rfl,?_⟩
  refine yy z4a z4b (S'.r2.keep (f6 _ (by omega))) (by show 0<1;omega) rfl λg7 u1 u3 u2=>?_
  refine yy z7k z7l (S'.r3.keep ((u2 _ (by omega)).trans (f6 _ (by omega)))) (by show 0<1;omega) rfl λg8 v1 v3 v2=>?_
  refine yy z7m z7n (S'.r4.keep ((v2 _ (by omega)).trans ((u2 _ (by omega)).trans (f6 _ (by omega))))) (by show 0<1;omega) rfl λg9 w1 w3 w2=>?_
  have f9:∀j,j≠h5.size+1->j≠h.size->j≠h1.size->j≠h2.size->g9[j]?=g[j]?:=λj a1 a2 a3 a4=>by rw[w2 j a4,v2 j a3,u2 j a2,f6 j a1]
  refine⟨(f9 _ (by omega) (by omega) (by omega) (by omega)).trans S'.d,?_⟩
  have fx:∀j,j≠h5.size->(g9.setIfInBounds h5.size (.deferred none))[j]?=g9[j]?:=λj hj=>yl hj
  have Bx:Blk (g9.setIfInBounds h5.size (.deferred none)) h.size #[slV sl]:=u1.keep (by rw[fx _ (by omega),w2 _ (by omega),v2 _ (by omega)])
  have By:Blk (g9.setIfInBounds h5.size (.deferred none)) h1.size #[.int .i64 (((bl s).size:Nat):Int)]:=v1.keep (by rw[fx _ (by omega),w2 _ (by omega)])
  have Bz:Blk (g9.setIfInBounds h5.size (.deferred none)) h2.size #[.int .i64 0]:=w1.keep (fx _ (by omega))
  refine⟨sl,Bx.cell rfl,_,By.cell rfl,0,Bz.cell rfl,?_⟩
  have kx:Keep h.size h (g9.setIfInBounds h5.size (.deferred none)):=by
   have:=S'.keep.size
   refine⟨by rw[A7];omega,λj hj=>?_⟩
   rw[fx j (by omega),f9 j (by omega) (by omega) (by omega) (by omega)];exact S'.keep.get j hj
  have ow:=S'.o.own
  have ox:=S'.o.frame (h':=g9.setIfInBounds h5.size (.deferred none)) (λc hc=>by have:=ow c hc;rw[fx c (by omega),f9 c (by omega) (by omega) (by omega) (by omega)]) (Fr.le.refl M) λc hc=>(ow c hc).2.2
  have:=hK _ (MxL M (g9.setIfInBounds h5.size (.deferred none)) bs) sl (MxL.later ag kx λc hc=>by have:=ow c hc;omega) (by rw[hT];exact ox.rd (ag.keep kx) (λc hc=>hc) (by omega))
  rw[hT]at this
  rw[zd]
  exact this
 ·intro g t e he hT kg gd gr q2 q3 q4
  refine .inr ⟨gr,?_⟩
  obtain⟨g6,Z⟩:∃g6,g6=g.setIfInBounds (h5.size+1) (.loop (rec .exhausted (some .ret))):=⟨_,rfl⟩
  have z6:g6.size=g.size:=by rw[Z,A7]
  have f6:∀j,j≠h5.size+1->g6[j]?=g[j]?:=λj hj=>by rw[Z];exact yl hj
  rw[<-Z]
  clear Z
  refine⟨(f6 _ (by omega)).trans gd,?_⟩
  have fx:∀j,j≠h5.size->(g6.setIfInBounds h5.size (.deferred none))[j]?=g6[j]?:=λj hj=>yl hj
  have Bx:Blk (g6.setIfInBounds h5.size (.deferred none)) h.size #[.slice none 0 0]:=q2.keep (by rw[fx _ (by omega),f6 _ (by omega)])
  have By:Blk (g6.setIfInBounds h5.size (.deferred none)) h1.size #[.int .i64 (t:Int)]:=q3.keep (by rw[fx _ (by omega),f6 _ (by omega)])
  have Bz:Blk (g6.setIfInBounds h5.size (.deferred none)) h2.size #[.int .i64 e]:=q4.keep (by rw[fx _ (by omega),f6 _ (by omega)])
  refine⟨⟨none,0,0⟩,Bx.cell rfl,_,By.cell rfl,e,Bz.cell rfl,?_⟩
  have kx:Keep h.size h (g6.setIfInBounds h5.size (.deferred none)):=by
   have:=kg.size
   refine⟨by rw[A7];omega,λj hj=>?_⟩
   rw[fx j (by omega),f6 j (by omega)];exact kg.get j hj
  have:=hK _ M ⟨none,0,0⟩ (Later.same ag kx) (by rw[hT];exact⟨_,rfl,none,0,rfl,⟨by simp,by simp⟩,.inl rfl⟩)
  rw[hT]at this
  exact this
end
end Go.X
end
section
namespace Go.X
open Go Go.X Go.Proofs Go.RowKit
section
variable {l s:Bs} {gl:Fr} {a:Nat}
theorem u8e(c d:UInt8):(((d.toNat:Int))==((c.toNat:Int)))=decide (d=c):=by
 rw[Az,beq_iff_eq,decide_eq_true_eq]
 constructor
 ·intro h;exact CB.1 (by omega)
 ·intro h;rw[h]
theorem zto{k:Nat}(hk:k<l.length):za (bl l) k=(l[k].toNat:Int):=by rw[zo,Ak hk];rfl
theorem zkt(hl:l.length<=1000){c:UInt8}{R:Bool->Prop}(h:R (jk l c)):PC Tp gl 200 [Arg.mk (.int .u8) (c.toNat:Int),Arg.mk .str (bl l)] [.bool] R:=by
 apply za7
 rw[zd]
 refine⟨λi=>∃k:Nat,i=(k:Int)/\k<=l.length/\∀j (hj:j<l.length),j<k->l[j]≠c,λi=>l.length-i.toNat,⟨0,rfl,by omega,λj _ hj=>by omega⟩,?_⟩
 rintro i ⟨k,rfl,hk,hn⟩
 refine⟨λhx=>⟨⟨by omega,of_decide_eq_true hx⟩,λhy=>?_,λhy=>?_⟩,λhx=>?_⟩
 ·have hx:=of_decide_eq_true hx
  have Z:k<l.length:=by omega
  rw[Ae,zto Z,u8e]at hy
  have hy:=of_decide_eq_true hy
  have e:jk l c=true:=by unfold jk;exact decide_eq_true (by rw[<-hy];exact AM Z)
  rw[e]at h;exact h
 ·have hx:=of_decide_eq_true hx
  have Z:k<l.length:=by omega
  rw[Ae,zto Z,u8e]at hy
  have hy:=of_decide_eq_false hy
  rw[w64 (by omega)]
  refine⟨⟨k+1,by omega,by omega,λj hj aa=>?_⟩,by dsimp only;omega⟩
  rcases AF j k with h1|h1
  ·exact hn j hj h1
  ·have:j=k:=by omega
   subst this;exact hy
 ·have hx:=of_decide_eq_false hx
  have e:jk l c=false:=by
   unfold jk
   refine decide_eq_false λhm=>?_
   obtain⟨j,hj,e⟩:=AY hm
   exact hn j hj (by omega) e
  rw[e]at h;exact h
theorem zxu(hl:l.length<=1000)(hs:s.length<=65536)(ha:a<=s.length){R:Int->Prop}(h:R ((a+Zi (jk l) (s.drop a):Nat):Int)):PC Tp gl 201 [Arg.mk .str (bl s),Arg.mk (.int .i64) (a:Int),Arg.mk .str (bl l)] [.int .i64] R:=by
 apply zdk
 rw[zd]
 have af:(s.drop a).length=s.length-a:=As
 refine⟨λi=>∃k:Nat,i=((a+k:Nat):Int)/\k<=(s.drop a).length/\∀j (hj:j<(s.drop a).length),j<k->jk l (s.drop a)[j]=true,λi=>s.length-i.toNat,⟨0,rfl,by omega,λj _ hj=>by omega⟩,?_⟩
 rintro i ⟨k,rfl,hk,hn⟩
 refine⟨λhx=>?_,λhx=>?_⟩
 ·have hx:=of_decide_eq_true hx
  have Z:a+k<s.length:=by omega
  have aa:k<(s.drop a).length:=by omega
  have eg:s[a+k]=(s.drop a)[k]:=by rw[Dp]
  refine⟨⟨by omega,hx⟩,?_⟩
  rw[Ae,zto Z,eg]
  refine zkt hl ⟨λhy=>?_,λhy=>?_⟩
  ·have hy:jk l (s.drop a)[k]=false:=by simpa using hy
   have:=zgh (p:=jk l) hk (λj hj=>hn j (by omega) hj) (λ_=>hy)
   rw[this]at h;exact h
  ·have hy:jk l (s.drop a)[k]=true:=by simpa using hy
   rw[w64 (by omega)]
   refine⟨⟨k+1,by omega,by omega,λj hj ab=>?_⟩,by dsimp only;omega⟩
   rcases AF j k with h1|h1
   ·exact hn j hj h1
   ·have:j=k:=by omega
    subst this;exact hy
 ·have hx:=of_decide_eq_false hx
  have ae:k=(s.drop a).length:=by omega
  have:=zgh (p:=jk l) hk (λj hj=>hn j (by omega) hj) (λhh=>by omega)
  rw[this]at h;exact h
def z04(s:Bs)(a:Nat)(r:Int×Int×Int):Prop:=r.2.1=((Jv s a).2.1:Int)/\r.2.2=(Jv s a).2.2/\((Jv s a).2.2=0->r.1=(Jv s a).1)
theorem z7w:∀k:Nat,k<6->∀c:UInt8,signB[k]?=some c->Lib.indexByte signB c=(k:Int)/\c∈signB:=by decide
set_option maxHeartbeats 2000000 in
theorem z7x(hs:s.length<=65536)(ha:a<s.length){R:Int×Int×Int->Prop}(h:∀r,z04 s a r->R r):PC Tp gl 122 [Arg.mk .str (bl s),Arg.mk (.int .i64) (a:Int)] [.int .i64,.int .i64,.int .i64] R:=by
 apply zdj
 have hd:s.drop a=s[a]::s.drop (a+1):=Ay ha
 have af:(s.drop a).length=s.length-a:=As
 have eV:=zm6 hd
 have b0:za (bl s) (a:Int).toNat=(s[a].toNat:Int):=by rw[Ae];exact zto ha
 have ab:=λp=>zoz p (s.drop a)
 have bs:(⟨#[123,125,91,93,44,58]⟩:Bt)=bl signB:=rfl
 have bb:(⟨#[32,9,10,13]⟩:Bt)=bl Wq:=rfl
 have bh:(⟨#[45,48,49,50,51,52,53,54,55,56,57]⟩:Bt)=bl zmq:=rfl
 have bn:(⟨#[45,43,46,48,49,50,51,52,53,54,55,56,57,101,69]⟩:Bt)=bl zd8:=rfl
 have bm:(⟨#[97,98,99,100,101,102,103,104,105,106,107,108,109,110,111,112,113,114,115,116,117,118,119,120,121,122]⟩:Bt)=bl y7:=rfl
 rw[b0,bs,bb,bh,bn,bm,zd,zd]
 generalize s[a]=c at eV hd
 refine⟨⟨by omega,by omega⟩,λi=>∃k:Nat,i=(k:Int)/\k<=6/\∀j (hj:j<signB.length),j<k->signB[j]≠c,λi=>6-i.toNat,⟨0,rfl,by omega,λj _ hj=>by omega⟩,?_⟩
 rintro i ⟨k,rfl,hk,hn⟩
 have s6:signB.length=6:=rfl
 refine⟨λhx=>⟨⟨by omega,of_decide_eq_true hx⟩,λhy=>?_,λhy=>?_⟩,λhx=>?_⟩
 ·have hx:=of_decide_eq_true hx
  have Z:k<signB.length:=by omega
  rw[Ae,zto Z,u8e]at hy
  have hy:=of_decide_eq_true hy
  obtain⟨e1,e2⟩:=z7w k (by omega) c (by rw[Ak Z,hy])
  rw[if_pos e2]at eV
  refine h _ ?_
  unfold z04
  rw[eV,e1,w64 (by omega),w64 (by omega)]
  exact⟨by show(a:Int)+1=((a+1:Nat):Int);omega,rfl,λ_=>rfl⟩
 ·have hx:=of_decide_eq_true hx
  have Z:k<signB.length:=by omega
  rw[Ae,zto Z,u8e]at hy
  have hy:=of_decide_eq_false hy
  rw[w64 (by omega)]
  refine⟨⟨k+1,by omega,by omega,λj hj ah=>?_⟩,by dsimp only;omega⟩
  rcases AF j k with h1|h1
  ·exact hn j hj h1
  ·have:j=k:=by omega
   subst this;exact λhh=>hy hh.symm
 ·have hx:=of_decide_eq_false hx
  have ae:¬c∈signB:=λhm=>by
   obtain⟨j,hj,e⟩:=AY hm
   exact hn j hj (by omega) e
  rw[if_neg ae]at eV
  refine zkt (by decide) ⟨λhy=>?_,λhy=>?_⟩
  ·have hy:c∈Wq:=of_decide_eq_true hy
   rw[if_pos hy]at eV
   refine zxu (by decide) hs (by omega) (h _ ?_)
   unfold z04;rw[eV];exact⟨rfl,rfl,λ_=>rfl⟩
  have hy:¬c∈Wq:=of_decide_eq_false hy
  rw[if_neg hy]at eV
  rw[show((c.toNat:Int)==34)=decide (c=34)from u8i (n:=34) (by omega)]
  refine⟨λhz=>?_,λhz=>?_⟩
  ·have hz:=of_decide_eq_true hz
   rw[if_pos hz]at eV
   refine z3p (by omega) (h _ ?_)
   have he:zzx s (a:Int)=(((ya s a).2.1:Int),(ya s a).2.2):=by
    unfold zzx;rw[if_neg (by omega),Ae]
   rw[he]
   unfold z04
   rw[eV]
   by_cases h0:(ya s a).2.2=0
   ·rw[if_pos h0];exact⟨rfl,h0,λ_=>rfl⟩
   ·rw[if_neg h0];exact⟨rfl,rfl,λhh=>absurd hh h0⟩
  have hz:=of_decide_eq_false hz
  rw[if_neg hz]at eV
  refine zkt (by decide) ⟨λhw=>?_,λhw=>?_⟩
  ·have hw:c∈zmq:=of_decide_eq_true hw
   rw[if_pos hw]at eV
   refine zxu (by decide) hs (by omega) ?_
   have:=ab (jk zd8)
   refine⟨⟨by omega,by omega,by omega⟩,?_⟩
   have ex:(bl s).extract (a:Int).toNat ((a+Zi (jk zd8) (s.drop a):Nat):Int).toNat=bl ((s.drop a).take (Zi (jk zd8) (s.drop a))):=by
    rw[Ae,Ae,zt];congr 1;rw[C7]
   rw[ex]
   refine zgg (by rw[AN];omega) ⟨λhe=>?_,λhe=>?_⟩
   ·have he:¬(zp ((s.drop a).take (Zi (jk zd8) (s.drop a)))).2=0:=by simpa using he
    rw[if_neg he]at eV
    refine h _ ?_
    unfold z04;rw[eV];exact⟨rfl,rfl,λhh=>absurd hh he⟩
   ·have he:(zp ((s.drop a).take (Zi (jk zd8) (s.drop a)))).2=0:=by simpa using he
    rw[if_pos he]at eV
    refine h _ ?_
    unfold z04;rw[eV];exact⟨rfl,rfl,λ_=>rfl⟩
  have hw:¬c∈zmq:=of_decide_eq_false hw
  rw[if_neg hw]at eV
  refine zxu (by decide) hs (by omega) ?_
  have:=ab (jk y7)
  refine⟨⟨by omega,by omega,by omega⟩,?_⟩
  have ex:(bl s).extract (a:Int).toNat ((a+Zi (jk y7) (s.drop a):Nat):Int).toNat=bl ((s.drop a).take (Zi (jk y7) (s.drop a))):=by
   rw[Ae,Ae,zt];congr 1;rw[C7]
  rw[ex]
  have e:=λl:Bs=>(zcb ((s.drop a).take (Zi (jk y7) (s.drop a))) l:((bl _:Bt).toList==((⟨l.toArray⟩:Bt):Bt).toList)=_)
  have e1:=e [116,114,117,101];have e2:=e [102,97,108,115,101];have e3:=e [110,117,108,108]
  rw[e1,e2,e3]
  have aa:∀k:Int,Yo ((s.drop a).take (Zi (jk y7) (s.drop a)))=k->¬k=0->R (k,((a+Zi (jk y7) (s.drop a):Nat):Int),0):=λk hk h0=>by
   rw[hk,if_neg h0]at eV
   refine h _ ?_
   unfold z04;rw[eV];exact⟨rfl,rfl,λ_=>rfl⟩
  refine⟨λhx=>aa 10 ?_ (by omega),λhx=>⟨λhy=>aa 11 ?_ (by omega),λhy=>⟨λhz=>aa 12 ?_ (by omega),λhz=>?_⟩⟩⟩
  ·unfold Yo;rw[if_pos (of_decide_eq_true hx)]
  ·unfold Yo;rw[if_neg (of_decide_eq_false hx),if_pos (of_decide_eq_true hy)]
  ·unfold Yo;rw[if_neg (of_decide_eq_false hx),if_neg (of_decide_eq_false hy),if_pos (of_decide_eq_true hz)]
  ·have:Yo ((s.drop a).take (Zi (jk y7) (s.drop a)))=0:=by unfold Yo;rw[if_neg (of_decide_eq_false hx),if_neg (of_decide_eq_false hy),if_neg (of_decide_eq_false hz)]
   rw[if_pos this]at eV
   refine h _ ?_
   unfold z04;rw[eV];exact⟨rfl,rfl,λhh=>by simp at hh⟩
theorem zne:∀(f:Nat) (s:Bs) (a:Nat) (o:List Tk),(Q0 f s a o).1.length<=o.length+f
 |0,s,a,o=>Nat.le_add_right _ _
 |f+1,s,a,o=>by
  rw[Q0]
  split
  ·split
   ·have:=zne f s (Jv s a).2.1 (o++[((Jv s a).1,((a:Int),((Jv s a).2.1:Int)))])
    rw[Ar,List.length_singleton]at this;omega
   ·simp
  ·simp
theorem ztp{R:List Tk×Int×Int->Prop}(h:R ((yk s).1,((yk s).2.1:Int),(yk s).2.2)):PC Tp gl 63 [Arg.mk .str (bl s)] [.row (.pair (.int .i64) (.pair (.int .i64) (.int .i64))),.int .i64,.int .i64] R:=by
 apply Xq
 rw[zd]
 refine⟨λhx=>?_,λhx=>?_⟩
 ·have hx:=of_decide_eq_true hx
  unfold yk at h;rw[if_pos (by omega)]at h;exact h
 have hx:=of_decide_eq_false hx
 have hR:yk s=Q0 s.length s 0 []:=by unfold yk;rw[if_neg (by omega)]
 refine⟨λout i=>∃(a f:Nat),i=(a:Int)/\a<=s.length/\s.length-a<=f/\out.length<=a/\yk s=Q0 f s a out,λ_ i=>s.length-i.toNat,⟨0,s.length,rfl,by omega,by omega,by simp,hR⟩,?_⟩
 rintro out i ⟨a,f,rfl,ha,hf,ho,hT⟩
 refine⟨λhy=>?_,λhy=>?_⟩
 ·have hy:=of_decide_eq_true hy
  have Z:a<s.length:=by omega
  obtain⟨f,rfl⟩:∃f',f=f'+1:=⟨f-1,by omega⟩
  refine z7x (by omega) Z λr hr=>?_
  obtain⟨k,t,e⟩:=r
  obtain⟨r1,r2,r3⟩:=hr
  dsimp only at r1 r2 r3
  refine⟨λhe=>?_,λhe=>?_⟩
  ·have he:¬e=0:=by simpa using he
   rw[hT,Q0,if_pos Z,if_neg (by rw[<-r2];exact he)]at h
   rw[<-r1,<-r2]at h
   exact h
  ·have he:e=0:=by simpa using he
   have h0:(Jv s a).2.2=0:=by rw[<-r2];exact he
   have hp:=zgi Z h0
   have hk:=r3 h0
   subst hk r1
   refine⟨by simp;omega,⟨(Jv s a).2.1,f,rfl,hp.2,by omega,?_,?_⟩,?_⟩
   ·rw[Ar];show out.length+1<=_;omega
   ·rw[hT,Q0,if_pos Z,if_pos h0]
   ·show s.length-((Jv s a).2.1:Int).toNat<s.length-(a:Int).toNat
    rw[Ae,Ae];omega
 ·have hy:=of_decide_eq_false hy
  have e:Q0 f s a out=(out,a,0):=by cases f with
   |zero=>rfl
   |succ f=>rw[Q0,if_neg (by omega)]
  rw[hT,e]at h
  exact h
end
section
variable {lo b:Nat} {g:zb} {M:Fr} {cs:Array Value}
def ztq(na:NA)(b:Nat):List Nat:=if na.length=0 then []else b::na.flatMap λp=>p.2.kb++p.2.pb
theorem zrm{na:NA}{sl:Sl}(H:NS lo g M na sl b cs){c:Nat}(h:c∈ztq na b):lo<=c:=by
 unfold ztq at h
 split at h
 ·cases h
 rename_i h0
 rcases Ai.1 h with rfl|h
 ·exact(H.lb (H.cell (n:=0) (by omega)).2.2.1).1
 ·obtain⟨p,hp,hc⟩:=Bo.1 h
  exact((H.nd p hp).own (Aw.1 hc)).1
theorem zpq{na:NA}(h:0<na.length):ztq na b=b::na.flatMap λp=>p.2.kb++p.2.pb:=by unfold ztq;rw[if_neg (by omega)]
theorem NS.rd{na:NA}{sl:Sl}(H:NS lo g M na sl b cs)(ag:AgM M g)(hn:na.length<=4096)(hk:∀p∈na,ndW p.1<=1000000):Rd (MxL M g (ztq na b)) (.row tNd) (na.map (·.1)) [slV sl]:=by
 have hl:=H.len
 have hc:=H.cr.ro.le
 refine⟨_,rfl,sl.a,sl.cap,?_,⟨by rw[AL];omega,by rw[AL];omega⟩,?_⟩
 ·show slV _=_
  unfold slV;rw[AL,hl]
 ·by_cases h0:na=[]
  ·left;rw[h0];rfl
  ·have hp:0<na.length:=Bj.2 h0
   obtain⟨h1,h2,h3,h4,h5⟩:=H.cell hp
   refine .inr ⟨b,0,cs,h1,MxL.at (by rw[zpq hp];exact Am) h2,λi hi=>?_⟩
   rw[AL]at hi
   have hm:=AM hi
   obtain⟨q1,q2⟩:=H.cr.el i (ndC na[i]) (by rw[Cc,Ak hi];rfl)
   rw[AB,show sz tNd=7 from rfl,q2,List.getElem_map]
   have I:=H.nd _ hm
   have hw:=hk _ hm
   unfold ndW at hw
   have r1:=I.kk.rd ag (all:=ztq na b) (λc hc=>by rw[zpq hp];exact Ag _ (Bo.2 ⟨_,hm,Aw.2 (.inl hc)⟩)) (by omega)
   have r2:=I.pp.rd ag (all:=ztq na b) (λc hc=>by rw[zpq hp];exact Ag _ (Bo.2 ⟨_,hm,Aw.2 (.inr hc)⟩)) (by omega)
   refine⟨[.int .i64 na[i].1.1],[.int .i64 na[i].1.2.1.1,.int .i64 na[i].1.2.1.2,.int .i64 na[i].1.2.2.1.1,.int .i64 na[i].1.2.2.1.2,slV na[i].2.ks,slV na[i].2.ps],rfl,rfl,?_⟩
   refine⟨[.int .i64 na[i].1.2.1.1,.int .i64 na[i].1.2.1.2],[.int .i64 na[i].1.2.2.1.1,.int .i64 na[i].1.2.2.1.2,slV na[i].2.ks,slV na[i].2.ps],rfl,⟨_,_,rfl,rfl,rfl⟩,?_⟩
   refine⟨[.int .i64 na[i].1.2.2.1.1,.int .i64 na[i].1.2.2.1.2],[slV na[i].2.ks,slV na[i].2.ps],rfl,⟨_,_,rfl,rfl,rfl⟩,?_⟩
   exact⟨[slV na[i].2.ks],[slV na[i].2.ps],rfl,r1,r2⟩
theorem zit{x:Bs}{l:List Nd}{sl:Sl}(i j:Int)(h:Rd M (.row tNd) l [slV sl]):zc1 M [.pair .str (.row tNd),.int .i64,.int .i64] ((bl x,l),i,j) (.tuple #[.agg #[.string (bl x),slV sl],.int .i64 i,.int .i64 j]):=by
 refine⟨[.agg #[.string (bl x),slV sl],.int .i64 i,.int .i64 j],⟨_,_,rfl,?_,_,_,rfl,Jt _ i,_,rfl,Jt _ j⟩,rfl⟩
 exact⟨[.string (bl x),slV sl],rfl,[.string (bl x)],[slV sl],rfl,rfl,h⟩
theorem zz9{T:Ty}:Rd M (.row T) [] [slV ⟨none,0,0⟩]:=⟨_,rfl,none,0,rfl,⟨by simp,by simp⟩,.inl rfl⟩
theorem qau:ql Tp 36=true:=by kernel_rfl
theorem qav:qy Tp 36=2:=by kernel_rfl
theorem Qu{x y:Value}(B:Blk g b #[x,y]){u:Bt}{v:Sl}{K:zb->Prop}(hK:∀g',(∀j,j≠b->g'[j]?=g[j]?)->g'.size=g.size->Blk g' b #[.string u,slV v]->K g'):
  XRunU Tp (Aj 36 (.pointer (some ⟨b,0,none⟩)) (.agg #[.string u,slV v])) g K:=by
 refine X0 (vs:=[.string u,slV v]) qau B rfl qav (Ad _) (λw hw=>?_) λg' q1 q2 q3=>hK g' q3 q2 q1
 simp at hw;rcases hw with rfl|rfl <;> rfl
theorem zd9{l:List Tk}{k:Nat}(hk:k<l.length):qc (l.take (k+1))=qc (l.take k)++(if l[k].1≠1 then [l[k]]else []):=by
 unfold qc
 rw[AH hk,List.filter_append]
 congr 1
 by_cases h:l[k].1=1
 ·simp[h]
 ·simp[h]
end
section
variable {s:Bs}
theorem zku(h:(yk s).2.2=0):s.length<=65536/\(yk s).1.length<=s.length:=by
 unfold yk at h ⊢
 split at h
 ·simp at h
 ·rename_i hh
  rw[if_neg hh]
  have:=zne s.length s 0 []
  rw[Cv,AB]at this
  exact⟨by omega,this⟩
set_option maxRecDepth 100000 in
set_option maxHeartbeats 4000000 in
theorem zgu{gl:Fr}(hg:GL gl){R:(Bt×List Nd)×Int×Int->Prop}(hR:R ((bl (Za s).1.1,(Za s).1.2),(Za s).2.1,(Za s).2.2)):
  PC Tp gl 19 [Arg.mk .str (bl s)] [.pair .str (.row tNd),.int .i64,.int .i64] R:=by
 intro h M vs hM ag ha
 match vs,ha with
 |[u1],⟨a1,_⟩=>
  obtain rfl:=Zo (s:=bl s) a1
  apply PX.of
  apply zkd
  intro h1
  have k1:Keep h.size h h1:=Keep.push _ _ (Ad _)
  have z1:h1.size=h.size+1:=Al _
  have B1:Blk h1 h.size #[.string ⟨#[]⟩,.slice none 0 0]:=Blk.new _ _ _
  clear_value h1
  have bo:AgM M h1:=ag.keep k1
  refine zz8 hg hM bo λh3 M1 t L1 rt=>⟨t,_,_,rfl,?_⟩
  have B3:=B1.keep (L1.keep.get h.size (by omega))
  have z3:=L1.keep.size
  have k3:Keep h.size h h3:=k1.trans (c:=h3) (m:=h.size) ⟨z3,λj hj=>L1.keep.get j (by omega)⟩ (Ad _)
  have bu:∀b,b<h.size->M1 b=M b:=λb hb=>L1.old b (by omega)
  have bj:M h.size=none:=by
   cases e:M h.size with
   |none=>rfl
   |some x=>have:=ag.lt e;omega
  have aP:M1 h.size=none:=by rw[L1.old _ (by omega)];exact bj
  refine⟨λhx=>?_,λhx=>?_⟩
  ·have hx:¬(yk s).2.2=0:=by simpa using hx
   have eD:Za s=(([],[]),((yk s).2.1:Int),(yk s).2.2):=by unfold Za;rw[if_neg hx]
   rw[eD]at hR
   refine Qu (u:=⟨#[]⟩) (v:=⟨none,0,0⟩) B3 λh7 f7 z7 B7=>⟨_,_,B7.ld (cs:=[.string ⟨#[]⟩,slV ⟨none,0,0⟩]),?_⟩
   exact⟨M,_,Later.same ag ⟨by omega,λj hj=>by rw[f7 j (by omega)];exact k3.get j hj⟩,zit (x:=[]) (l:=[]) _ _ zz9,hR⟩
  have hx:(yk s).2.2=0:=by simpa using hx
  obtain⟨hs,bP⟩:=zku hx
  have eD:Za s=match Qc s 32 (0,0) ⟨qc (yk s).1,0,[]⟩with
   |.inl st=>if st.rest=[]then((s,st.nodes),(s.length:Int),0)else(([],[]),st.here s.length,2)
   |.inr e=>(([],[]),e.1,e.2):=by unfold Za;rw[if_pos hx];rfl
  have aV:=zik (zq3 s)
  generalize (yk s).1=tl at rt bP eD aV
  have rl:=(rowLen rt).1
  intro ar
  have bD:Keep h3.size h3 ar:=Keep.push _ _ (Ad _)
  have bZ:ar.size=h3.size+1:=Al _
  have bB:Blk ar h3.size (ppC s ⟨none,0,0⟩ 0 0 ⟨none,0,0⟩ 0 0).toArray:=Blk.new _ _ _
  clear_value ar
  have aQ:∀c,h3.size<=c->M1 c=none:=λc hc=>by
   cases e:M1 c with
   |none=>rfl
   |some x=>have:=L1.ag.lt e;omega
  refine⟨λk g=>∃(n:Nat) (rs:Sl) (bs:List Nat),k=(n:Int)/\n<=tl.length/\ORow (h3.size+1) g M1 tTk (qc (tl.take n)) rs bs/\Blk g h3.size (ppC s rs 0 0 ⟨none,0,0⟩ 0 0).toArray/\Keep h3.size h3 g,λk _=>tl.length-k.toNat,⟨0,⟨none,0,0⟩,[],rfl,by omega,.nil,bB,bD⟩,?_⟩
  rintro k g ⟨n,rs,bs,rfl,hn,ro,Bp,kg⟩
  have agg:AgM M1 g:=L1.ag.keep kg
  have zg:h3.size+1<=g.size:=by have:=Bp.lt;omega
  refine⟨λay=>?_,λbG=>?_⟩
  ·have ay:n<tl.length:=by have:=of_decide_eq_true ay;omega
   obtain⟨tb,o,e1,e2,e3,e4⟩:=ztl agg rt ay
   have ap:=zd9 ay
   refine⟨_,⟨e1,by omega,by omega⟩,tl[n].1,tl[n].2.1,tl[n].2.2,?_,?_⟩
   ·rw[zi,Ae]
    exact⟨by rw[zi];exact e2,by rw[zi];exact e3,by rw[zi];exact e4,trivial⟩
   intro au
   have a8:Keep g.size g au:=Keep.push _ _ (Ad _)
   have cg:au.size=g.size+1:=Al _
   have bz:Blk au g.size (zky 0 0 0).toArray:=Blk.new _ _ _
   clear_value au
   refine zxd bz λab q1 q2 q3=>⟨tl[n].1,by rw[zi];exact q3.cell rfl,?_⟩
   have aI:Keep g.size g ab:=⟨by omega,λj hj=>(q1 j (by omega)).trans (a8.get j hj)⟩
   have ae:=ro.frame (λc hc=>aI.get c (ro.own c hc).2.1) (Fr.le.refl M1) λc hc=>(ro.own c hc).2.2
   have an:=Bp.keep (aI.get _ (by omega))
   have aA:Keep h3.size h3 ab:=kg.trans (c:=ab) (m:=h3.size) ⟨by omega,λj hj=>aI.get j (by omega)⟩ (Ad _)
   have aL:Aa .i64 ((n:Int)+1)=((n+1:Nat):Int):=by rw[w64 (by omega)];omega
   rw[aL]
   refine⟨λhb=>⟨_,rfl,rs,by rw[zi];exact an.cell rfl,tl[n].1,tl[n].2.1,tl[n].2.2,q3.ld,?_⟩,λhb=>?_⟩
   ·have hb:tl[n].1≠1:=by simpa using hb
    rw[if_pos hb]at ap
    intro ah
    have az:Keep ab.size ab ah:=Keep.push _ _ (Ad _)
    have ck:ah.size=ab.size+1:=Al _
    have bQ:Blk ah ab.size (zky tl[n].1 tl[n].2.1 tl[n].2.2).toArray:=Blk.new _ _ _
    clear_value ah
    refine⟨by rw[zi];exact az.get h3.size (by omega),?_⟩
    have aT:=ae.frame (λc hc=>az.get c (ae.own c hc).2.1) (Fr.le.refl M1) λc hc=>(ae.own c hc).2.2
    have aN:=an.keep (az.get _ (by omega))
    have aB:Keep h3.size h3 ah:=aA.trans (c:=ah) (m:=h3.size) ⟨by omega,λj hj=>az.get j (by omega)⟩ (Ad _)
    have bn:(qc (tl.take n)).length<=n:=by
     have:(qc (tl.take n)).length<=(tl.take n).length:=List.length_filter_le _ _
     rw[AN]at this;omega
    refine ORow.app zxj (by omega) (L1.ag.keep aB) aT (by omega) bQ (zxk _ _ _) (by omega) λs' bT bM aG cj c29 aY=>⟨s',rfl,_,rfl,?_⟩
    rw[zi]
    have bg:h3.size∉bs:=λhm=>by have:=(ro.own _ hm).1;omega
    refine yy z4f z4g (aN.keep (aY _ (by omega) bg)) (by show 1<7;omega) rfl λbS u1 u2 u3=>⟨⟨n+1,s',bM,rfl,by omega,?_,u1,?_⟩,?_⟩
    ·rw[ap]
     exact aG.frame (λc hc=>u3 c λe=>by have:=(aG.own c hc).1;omega) (Fr.le.refl M1) λc hc=>(aG.own c hc).2.2
    ·refine aB.trans (c:=bS) (m:=h3.size) ⟨by omega,λj hj=>?_⟩ (Ad _)
     rw[u3 j (by omega),aY j (by omega) λhm=>by have:=(ro.own j hm).1;omega]
    ·show tl.length-((n+1:Nat):Int).toNat<tl.length-(n:Int).toNat
     omega
   ·have hb:¬tl[n].1≠1:=by simpa using hb
    rw[if_neg hb,A8]at ap
    refine⟨⟨n+1,rs,bs,rfl,by omega,by rw[ap];exact ae,an,aA⟩,?_⟩
    show tl.length-((n+1:Nat):Int).toNat<tl.length-(n:Int).toNat
    omega
  ·have bq:n=tl.length:=by have:=of_decide_eq_false bG;omega
   subst bq
   rw[A5]at ro
   have bn:(qc tl).length<=tl.length:=List.length_filter_le _ _
   have br:=ro.rd agg (all:=bs) (λc hc=>hc) (by omega)
   have bO:AgM (MxL M1 g bs) g:=MxL.ag agg bs
   have aJ:∀c∈bs,h3.size+1<=c:=λc hc=>(ro.own c hc).1
   have aM:∀c,c∉bs->MxL M1 g bs c=M1 c:=λc hc=>by unfold MxL;rw[if_neg hc]
   have bE:Fr.le gl (MxL M1 g bs):=hM.trans (L1.le.trans (zgm agg bs))
   have P:PaS h3.size g (MxL M1 g bs) h3.size s ⟨qc tl,0,[]⟩ 0 0 (ppO h3.size [] ⟨none,0,0⟩ 0):=by
    refine⟨rs,0,[],⟨none,0,0⟩,0,#[],⟨Bp,br,.nil,bO,⟨Ad _,?_⟩,?_⟩,rfl,rfl⟩
    ·rw[aM _ λhm=>by have:=aJ _ hm;omega];exact aQ _ (Ad _)
    ·rintro(⟨h1,_⟩|⟨p,hp,_⟩)
     ·exact h1 rfl
     ·cases hp
   have hT:(⟨qc tl,0,[]⟩:PSt).T<=200000:=by unfold PSt.T;simp;omega
   have bh:=zz5 (lo:=h3.size) (M:=MxL M1 g bs) (bp:=h3.size) (s:=s) hg bE hs 32 (Ad _) (0,0) g _ 0 0 _ P (by simp) hT aV
   refine bh _ λb bF st' a' e' O' P' S' n' A'=>⟨b,rfl,?_⟩
   intro bJ aO
   have aZ:∀(ok:Bool) (af:zb) (aa:PSt) (a1 e1:Int) (O1:Nat->Prop),PaS h3.size af (MxL M1 g bs) h3.size s aa a1 e1 O1->Stp g (ppO h3.size [] ⟨none,0,0⟩ 0) af O1->(ok=false->Za s=(([],[]),a1,e1))->(ok=true->Za s=((s,aa.nodes),(s.length:Int),0)/\aa.nodes.length<=4096/\aa.T<=200000)->bJ ok af:=by
    intro ok af aa a1 e1 O1 P1 S1 hf ht
    refine aO ok af ?_
    have bA:∀c,c<h3.size->¬ppO h3.size [] ⟨none,0,0⟩ 0 c:=λc hc=>by
     rintro(h1|⟨h1,_⟩|⟨p,hp,_⟩)
     ·omega
     ·exact h1 rfl
     ·cases hp
    have aE:∀j,j<h3.size->af[j]?=h3[j]?:=λj hj=>(S1.fr j (by omega) (bA j hj)).trans (kg.get j hj)
    have ca:=S1.le
    have Bd:=B3.keep (aE h.size (by omega))
    have bi:=P1
    obtain⟨aH,bC,ai,aj,b1,a6,W1,Z,be⟩:=bi
    have bU:=W1.blk.lt
    refine⟨λho=>⟨_,rfl,a1,by rw[zi];exact W1.blk.cell rfl,_,rfl,e1,by rw[zi];exact W1.blk.cell rfl,rfl,rfl,?_⟩,λho=>⟨_,rfl,aj,by rw[zi];exact W1.blk.cell rfl,?_⟩⟩
    ·have ho:ok=false:=by simpa using ho
     refine Qu (u:=⟨#[]⟩) (v:=⟨none,0,0⟩) Bd λcb aS cd ba=>?_
     have ak:=aS h3.size (by omega)
     refine⟨by rw[zi];exact ak,by rw[zi];exact ak,by rw[zi];exact ak,_,_,ba.ld (cs:=[.string ⟨#[]⟩,slV ⟨none,0,0⟩]),?_⟩
     rw[hf ho]at hR
     exact⟨M,_,Later.same ag ⟨by omega,λj hj=>by rw[aS j (by omega),aE j (by omega)];exact k3.get j hj⟩,zit (x:=[]) (l:=[]) _ _ zz9,hR⟩
    ·have ho:ok=true:=by simpa using ho
     obtain⟨bI,cc,bV⟩:=ht ho
     refine Qu (u:=bl s) (v:=aj) Bd λax aC bY bL=>⟨_,_,bL.ld (cs:=[.string (bl s),slV aj]),?_⟩
     rw[bI]at hR
     rw[zd]
     have bm:MxL M1 g bs h.size=none:=by rw[aM _ λhm=>by have:=aJ _ hm;omega];exact aP
     have aU:NS h3.size ax (MxL M1 g bs) ai aj b1 a6:=W1.ns.frame (by omega) λc hc=>aC c λe=>by have:=(W1.ns.own hc).1;omega
     have am:AgM (MxL M1 g bs) ax:=zhb W1.ag λj hj hm=>aC j λe=>hm (e ▸ bm)
     have b8:ai.length=aa.nodes.length:=by rw[<-Z,AL]
     have a7:=aU.rd am (by omega) λp hp=>by
      have:p.1∈aa.nodes:=by rw[<-Z];exact List.mem_map_of_mem hp
      have:=zwg this;omega
     rw[Z]at a7
     refine⟨MxL (MxL M1 g bs) ax (ztq ai b1),_,⟨⟨by omega,λj hj=>by rw[aC j (by omega),aE j (by omega)];exact k3.get j hj⟩,?_,λc hc=>?_,MxL.ag am _⟩,zit _ _ a7,hR⟩
     ·exact L1.le.trans ((zgm agg bs).trans (zgm am _))
     ·have h1:c∉ztq ai b1:=λhm=>by have:=zrm aU hm;omega
      have e1:MxL (MxL M1 g bs) ax (ztq ai b1) c=MxL M1 g bs c:=by unfold MxL;rw[if_neg h1]
      rw[e1,aM c λhm=>by have:=aJ c hm;omega]
      exact bu c hc
   have bH:=P'
   obtain⟨aH,bC,ai,aj,b1,a6,W1,Z,be⟩:=bH
   have b9:=(rowLen W1.rd).1
   refine⟨_,λ_=>rfl,aH,λ_=>by rw[zi];exact W1.blk.cell rfl,λhc=>?_,λhc=>?_⟩
   ·have hb:b=true/\0<st'.rest.length:=by
     cases b with
     |false=>simp at hc
     |true=>simp at hc;exact⟨rfl,by omega⟩
    refine Jo P' λg' P2 S2=>⟨false,rfl,aZ false g' st' _ _ O' P2 (S'.trans S2) (λ_=>?_) (λh=>(by cases h))⟩
    rw[eD]
    cases hr:Qc s 32 (0,0) ⟨qc tl,0,[]⟩with
    |inl x=>
     rw[hr]at A'
     rw[A'.2]at hb ⊢
     dsimp only
     rw[if_neg λe=>by rw[e]at hb;simp at hb]
    |inr x=>rw[hr]at A';rw[A'.1]at hb;exact absurd hb.1 (by simp)
   ·refine aZ b bF st' a' e' O' P' S' (λhb=>?_) (λhb=>?_)
    ·rw[eD]
     cases hr:Qc s 32 (0,0) ⟨qc tl,0,[]⟩with
     |inl x=>rw[hr]at A';rw[A'.1]at hb;cases hb
     |inr x=>rw[hr]at A';rw[A'.2]
    ·subst hb
     have hz:st'.rest=[]:=by
      have:¬0<aH.len:=by simpa using hc
      exact AW.1 (by omega)
     cases hr:Qc s 32 (0,0) ⟨qc tl,0,[]⟩with
     |inl x=>
      rw[hr]at A' eD
      have aF:=zgj s 32 _ _ _ hr
      rw[<-A'.2]at aF eD
      dsimp only at eD
      rw[if_pos hz]at eD
      exact⟨eD,aF.m (by simp),by have:=aF.t;omega⟩
     |inr x=>rw[hr]at A';exact absurd A'.1 (by simp)
end
end Go.X
end
section
namespace Go.X
open Go Go.X Go.Proofs Go.RowKit
set_option maxRecDepth 100000 in
set_option maxHeartbeats 4000000 in
section
theorem zpr{gl:Fr}(hg:GL gl){s:Bs}{R:(Bt×List Nd)×Int×Int->Prop}(hR:R ((bl (Za s).1.1,(Za s).1.2),(Za s).2.1,(Za s).2.2)):
  PC Tp gl 20 [Arg.mk .str (bl s)] [.pair .str (.row tNd),.int .i64,.int .i64] R:=by
 intro h M vs hM ag ha
 match vs,ha with
 |[u1],⟨a1,_⟩=>
  obtain rfl:=Zo (s:=bl s) a1
  apply PX.of
  apply zaz
  intro h1
  have k1:Keep h.size h h1:=Keep.push _ _ (Ad _)
  have z1:h1.size=h.size+1:=Al _
  have B1:Blk h1 h.size #[.string ⟨#[]⟩,.slice none 0 0]:=Blk.new _ _ _
  clear_value h1
  have bh:AgM M h1:=ag.keep k1
  refine(ztp (gl:=gl) (s:=s) (R:=λr=>r=((yk s).1,((yk s).2.1:Int),(yk s).2.2)) rfl).go hM bh (yu (a:=Arg.mk .str _) (rdStr _) j9) λv h3 M1 rr L1 hv hr=>?_
  subst hr
  obtain⟨vs,⟨v1,rest,rfl,a7,v2,bz,rfl,bE,v3,rfl,ba⟩,rfl⟩:=hv
  rw[qo bE,qo ba]
  obtain⟨t,rfl,rt⟩:=z6g a7
  refine⟨t,_,_,rfl,?_⟩
  have B3:=B1.keep (L1.keep.get h.size (by omega))
  have z3:=L1.keep.size
  have k3:Keep h.size h h3:=k1.trans (c:=h3) (m:=h.size) ⟨z3,λj hj=>L1.keep.get j (by omega)⟩ (Ad _)
  have bm:∀b,b<h.size->M1 b=M b:=λb hb=>L1.old b (by omega)
  have a8:M h.size=none:=by
   cases e:M h.size with
   |none=>rfl
   |some x=>have:=ag.lt e;omega
  have aI:M1 h.size=none:=by rw[L1.old _ (by omega)];exact a8
  refine⟨λhx=>?_,λhx=>?_⟩
  ·have hx:¬(yk s).2.2=0:=by simpa using hx
   have eD:Za s=(([],[]),((yk s).2.1:Int),(yk s).2.2):=by unfold Za;rw[if_neg hx]
   rw[eD]at hR
   refine Qu (u:=⟨#[]⟩) (v:=⟨none,0,0⟩) B3 λh7 f7 z7 B7=>⟨_,_,B7.ld (cs:=[.string ⟨#[]⟩,slV ⟨none,0,0⟩]),?_⟩
   exact⟨M,_,Later.same ag ⟨by omega,λj hj=>by rw[f7 j (by omega)];exact k3.get j hj⟩,zit (x:=[]) (l:=[]) _ _ zz9,hR⟩
  have hx:(yk s).2.2=0:=by simpa using hx
  obtain⟨hs,bI⟩:=zku hx
  have eD:Za s=match Qc s 32 (0,0) ⟨qc (yk s).1,0,[]⟩with
   |.inl st=>if st.rest=[]then((s,st.nodes),(s.length:Int),0)else(([],[]),st.here s.length,2)
   |.inr e=>(([],[]),e.1,e.2):=by unfold Za;rw[if_pos hx];rfl
  have aO:=zik (zq3 s)
  generalize (yk s).1=tl at rt bI eD aO
  have rl:=(rowLen rt).1
  intro am
  have bq:Keep h3.size h3 am:=Keep.push _ _ (Ad _)
  have bT:am.size=h3.size+1:=Al _
  have bo:Blk am h3.size (rpC s ⟨none,0,0⟩ 0 ⟨none,0,0⟩ 0 0).toArray:=Blk.new _ _ _
  clear_value am
  have aJ:∀c,h3.size<=c->M1 c=none:=λc hc=>by
   cases e:M1 c with
   |none=>rfl
   |some x=>have:=L1.ag.lt e;omega
  refine⟨λk g=>∃(n:Nat) (rs:Sl) (bs:List Nat),k=(n:Int)/\n<=tl.length/\ORow (h3.size+1) g M1 tTk (qc (tl.take n)) rs bs/\Blk g h3.size (rpC s rs 0 ⟨none,0,0⟩ 0 0).toArray/\Keep h3.size h3 g,λk _=>tl.length-k.toNat,⟨0,⟨none,0,0⟩,[],rfl,by omega,.nil,bo,bq⟩,?_⟩
  rintro k g ⟨n,rs,bs,rfl,hn,ro,Bp,kg⟩
  have agg:AgM M1 g:=L1.ag.keep kg
  have zg:h3.size+1<=g.size:=by have:=Bp.lt;omega
  refine⟨λap=>?_,λbA=>?_⟩
  ·have ap:n<tl.length:=by have:=of_decide_eq_true ap;omega
   obtain⟨tb,o,e1,e2,e3,e4⟩:=ztl agg rt ap
   have ak:=zd9 ap
   have aE:Aa .i64 ((n:Int)+1)=((n+1:Nat):Int):=by rw[w64 (by omega)];omega
   rw[aE]
   refine⟨_,⟨e1,by omega,by omega⟩,tl[n].1,by rw[zi,zi,Ae];exact e2,λhb=>?_,λhb=>?_⟩
   ·have hb:tl[n].1≠1:=by simpa using hb
    refine⟨_,rfl,rs,by rw[zi];exact Bp.cell rfl,_,⟨e1,by omega,by omega⟩,tl[n].1,tl[n].2.1,tl[n].2.2,?_,?_⟩
    ·rw[zi,Ae]
     exact⟨by rw[zi];exact e2,by rw[zi];exact e3,by rw[zi];exact e4,trivial⟩
    rw[if_pos hb]at ak
    intro ae
    have ar:Keep g.size g ae:=Keep.push _ _ (Ad _)
    have cc:ae.size=g.size+1:=Al _
    have bJ:Blk ae g.size (zky tl[n].1 tl[n].2.1 tl[n].2.2).toArray:=Blk.new _ _ _
    clear_value ae
    refine⟨by rw[zi];exact ar.get h3.size (by omega),?_⟩
    have aM:=ro.frame (λc hc=>ar.get c (ro.own c hc).2.1) (Fr.le.refl M1) λc hc=>(ro.own c hc).2.2
    have aG:=Bp.keep (ar.get _ (by omega))
    have au:Keep h3.size h3 ae:=kg.trans (c:=ae) (m:=h3.size) ⟨by omega,λj hj=>ar.get j (by omega)⟩ (Ad _)
    have bg:(qc (tl.take n)).length<=n:=by
     have:(qc (tl.take n)).length<=(tl.take n).length:=List.length_filter_le _ _
     rw[AN]at this;omega
    refine ORow.app zxj (by omega) (L1.ag.keep au) aM (by omega) bJ (zxk _ _ _) (by omega) λs' bO bG aA cb c29 aP=>⟨s',rfl,_,rfl,?_⟩
    rw[zi]
    have aY:h3.size∉bs:=λhm=>by have:=(ro.own _ hm).1;omega
    refine yy z4f z4g (aG.keep (aP _ (by omega) aY)) (by show 1<6;omega) rfl λbL u1 u2 u3=>⟨⟨n+1,s',bG,rfl,by omega,?_,u1,?_⟩,?_⟩
    ·rw[ak]
     exact aA.frame (λc hc=>u3 c λe=>by have:=(aA.own c hc).1;omega) (Fr.le.refl M1) λc hc=>(aA.own c hc).2.2
    ·refine au.trans (c:=bL) (m:=h3.size) ⟨by omega,λj hj=>?_⟩ (Ad _)
     rw[u3 j (by omega),aP j (by omega) λhm=>by have:=(ro.own j hm).1;omega]
    ·show tl.length-((n+1:Nat):Int).toNat<tl.length-(n:Int).toNat
     omega
   ·have hb:¬tl[n].1≠1:=by simpa using hb
    rw[if_neg hb,A8]at ak
    refine⟨⟨n+1,rs,bs,rfl,by omega,by rw[ak];exact ro,Bp,kg⟩,?_⟩
    show tl.length-((n+1:Nat):Int).toNat<tl.length-(n:Int).toNat
    omega
  ·have bi:n=tl.length:=by have:=of_decide_eq_false bA;omega
   subst bi
   rw[A5]at ro
   have bg:(qc tl).length<=tl.length:=List.length_filter_le _ _
   have bj:=ro.rd agg (all:=bs) (λc hc=>hc) (by omega)
   have bH:AgM (MxL M1 g bs) g:=MxL.ag agg bs
   have aC:∀c∈bs,h3.size+1<=c:=λc hc=>(ro.own c hc).1
   have aF:∀c,c∉bs->MxL M1 g bs c=M1 c:=λc hc=>by unfold MxL;rw[if_neg hc]
   have br:Fr.le gl (MxL M1 g bs):=hM.trans (L1.le.trans (zgm agg bs))
   have P:RS h3.size g (MxL M1 g bs) h3.size s (qc tl) ⟨qc tl,0,[]⟩ 0 0 (ppO h3.size [] ⟨none,0,0⟩ 0):=by
    refine⟨rs,0,[],⟨none,0,0⟩,0,#[],⟨Bp,bj,.nil,bH,⟨Ad _,?_⟩,?_⟩,⟨rfl,CK _,λt h=>absurd h (by omega)⟩,rfl,rfl⟩
    ·rw[aF _ λhm=>by have:=aC _ hm;omega];exact aJ _ (Ad _)
    ·rintro(⟨h1,_⟩|⟨p,hp,_⟩)
     ·exact h1 rfl
     ·cases hp
   have hT:(⟨qc tl,0,[]⟩:PSt).T<=200000:=by unfold PSt.T;simp;omega
   have aZ:=zrl (lo:=h3.size) (M:=MxL M1 g bs) (bp:=h3.size) (s:=s) (l:=qc tl) hg br hs (by omega) 32 (Ad _) (0,0) g _ 0 0 _ P (by simp) hT aO
   refine aZ _ λb bu st' a' e' O' P' S' n' A'=>⟨b,rfl,?_⟩
   intro bD aH
   have aQ:∀(ok:Bool) (ab:zb) (aa:PSt) (a1 e1:Int) (O1:Nat->Prop),RS h3.size ab (MxL M1 g bs) h3.size s (qc tl) aa a1 e1 O1->Stp g (ppO h3.size [] ⟨none,0,0⟩ 0) ab O1->(ok=false->Za s=(([],[]),a1,e1))->(ok=true->Za s=((s,aa.nodes),(s.length:Int),0)/\aa.nodes.length<=4096/\aa.T<=200000)->bD ok ab:=by
    intro ok ab aa a1 e1 O1 P1 S1 hf ht
    refine aH ok ab ?_
    have bn:∀c,c<h3.size->¬ppO h3.size [] ⟨none,0,0⟩ 0 c:=λc hc=>by
     rintro(h1|⟨h1,_⟩|⟨p,hp,_⟩)
     ·omega
     ·exact h1 rfl
     ·cases hp
    have ay:∀j,j<h3.size->ab[j]?=h3[j]?:=λj hj=>(S1.fr j (by omega) (bn j hj)).trans (kg.get j hj)
    have bY:=S1.le
    have Bd:=B3.keep (ay h.size (by omega))
    have a6:=P1
    obtain⟨aB,k1,af,ah,b1,aS,W1,A1,Z,aV⟩:=a6
    have bP:=W1.blk.lt
    refine⟨λho=>⟨_,rfl,a1,by rw[zi];exact W1.blk.cell rfl,_,rfl,e1,by rw[zi];exact W1.blk.cell rfl,rfl,rfl,?_⟩,λho=>⟨_,rfl,ah,by rw[zi];exact W1.blk.cell rfl,?_⟩⟩
    ·have ho:ok=false:=by simpa using ho
     refine Qu (u:=⟨#[]⟩) (v:=⟨none,0,0⟩) Bd λbZ aL ca aU=>?_
     have ai:=aL h3.size (by omega)
     refine⟨by rw[zi];exact ai,by rw[zi];exact ai,by rw[zi];exact ai,_,_,aU.ld (cs:=[.string ⟨#[]⟩,slV ⟨none,0,0⟩]),?_⟩
     rw[hf ho]at hR
     exact⟨M,_,Later.same ag ⟨by omega,λj hj=>by rw[aL j (by omega),ay j (by omega)];exact k3.get j hj⟩,zit (x:=[]) (l:=[]) _ _ zz9,hR⟩
    ·have ho:ok=true:=by simpa using ho
     obtain⟨bC,b8,bQ⟩:=ht ho
     refine Qu (u:=bl s) (v:=ah) Bd λan ax bS bF=>⟨_,_,bF.ld (cs:=[.string (bl s),slV ah]),?_⟩
     rw[bC]at hR
     rw[zd]
     have be:MxL M1 g bs h.size=none:=by rw[aF _ λhm=>by have:=aC _ hm;omega];exact aI
     have aN:NS h3.size an (MxL M1 g bs) af ah b1 aS:=W1.ns.frame (by omega) λc hc=>ax c λe=>by have:=(W1.ns.own hc).1;omega
     have aj:AgM (MxL M1 g bs) an:=zhb W1.ag λj hj hm=>ax j λe=>hm (e ▸ be)
     have bU:af.length=aa.nodes.length:=by rw[<-Z,AL]
     have aT:=aN.rd aj (by omega) λp hp=>by
      have:p.1∈aa.nodes:=by rw[<-Z];exact List.mem_map_of_mem hp
      have:=zwg this;omega
     rw[Z]at aT
     refine⟨MxL (MxL M1 g bs) an (ztq af b1),_,⟨⟨by omega,λj hj=>by rw[ax j (by omega),ay j (by omega)];exact k3.get j hj⟩,?_,λc hc=>?_,MxL.ag aj _⟩,zit _ _ aT,hR⟩
     ·exact L1.le.trans ((zgm agg bs).trans (zgm aj _))
     ·have h1:c∉ztq af b1:=λhm=>by have:=zrm aN hm;omega
      have e1:MxL (MxL M1 g bs) an (ztq af b1) c=MxL M1 g bs c:=by unfold MxL;rw[if_neg h1]
      rw[e1,aF c λhm=>by have:=aC c hm;omega]
      exact bm c hc
   have bB:=P'
   obtain⟨aB,k1,af,ah,b1,aS,W1,A1,Z,aV⟩:=bB
   have bV:=(rowLen W1.rd).1
   have b9:st'.rest.length=(qc tl).length-k1:=by rw[A1.rest,As]
   have bM:=A1.le
   refine⟨_,λ_=>rfl,(k1:Int),λ_=>by rw[zi];exact W1.blk.cell rfl,_,λ_=>rfl,aB,λ_=>by rw[zi];exact W1.blk.cell rfl,λhc=>?_,λhc=>?_⟩
   ·have hb:b=true/\0<st'.rest.length:=by
     cases b with
     |false=>simp at hc
     |true=>simp at hc;exact⟨rfl,by omega⟩
    refine Qt P' λg' P2 S2=>⟨false,rfl,aQ false g' st' _ _ O' P2 (S'.trans S2) (λ_=>?_) (λh=>(by cases h))⟩
    rw[eD]
    cases hr:Qc s 32 (0,0) ⟨qc tl,0,[]⟩with
    |inl x=>
     rw[hr]at A'
     rw[A'.2]at hb ⊢
     dsimp only
     rw[if_neg λe=>by rw[e]at hb;simp at hb]
    |inr x=>rw[hr]at A';rw[A'.1]at hb;exact absurd hb.1 (by simp)
   ·refine aQ b bu st' a' e' O' P' S' (λhb=>?_) (λhb=>?_)
    ·rw[eD]
     cases hr:Qc s 32 (0,0) ⟨qc tl,0,[]⟩with
     |inl x=>rw[hr]at A';rw[A'.1]at hb;cases hb
     |inr x=>rw[hr]at A';rw[A'.2]
    ·subst hb
     have hz:st'.rest=[]:=by
      have:¬(k1:Int)<(aB.len:Int):=by simpa using hc
      exact AW.1 (by omega)
     cases hr:Qc s 32 (0,0) ⟨qc tl,0,[]⟩with
     |inl x=>
      rw[hr]at A' eD
      have az:=zgj s 32 _ _ _ hr
      rw[<-A'.2]at az eD
      dsimp only at eD
      rw[if_pos hz]at eD
      exact⟨eD,az.m (by simp),by have:=az.t;omega⟩
     |inr x=>rw[hr]at A';exact absurd A'.1 (by simp)
end
end Go.X
end
section
namespace Go.X
section
theorem znf(s0:Bt)(h:zb)(R:Value->zb->Prop)
  (H:let b:=h.push (.cells #[.int .i64 0,.string (⟨#[]⟩:Bt),.slice none 0 0,.slice none 0 0] 26);XC Tp 19 #[.string s0] b (λc d=>∃e f g i,c=.tuple #[.agg #[.string e,slV f],.int .i64 g,.int .i64 i]/\let j:=d.push (.cells #[.string (⟨#[]⟩:Bt),.slice none 0 0] 36);XRunU Tp (Aj 36 (.pointer (some ⟨d.size,0,none⟩)) (.agg #[.string e,slV f])) j (λk=>((i != 0)=true->XRunU Tp (Aj 26 (.pointer (some ⟨h.size,0,none⟩)) (.agg #[.int .i64 0,.string (⟨#[]⟩:Bt),.slice none 0 0,.slice none 0 0])) k (λl=>∃m n o p,zh l ⟨h.size,0,none⟩ 0 [.int .i64 m,.string n,slV o,slV p]/\R (.tuple #[.agg #[.int .i64 m,.string n,slV o,slV p],.int .i64 g,.int .i64 i]) l))/\((i != 0)=false->∃q r,zh k ⟨d.size,0,none⟩ 0 [.string q,slV r]/\XC Tp 59 #[.agg #[.string q,slV r],.int .i64 0,.int .i64 1] k (λs t=>∃u v w x,s=.agg #[.int .i64 u,.string v,slV w,slV x]/\XRunU Tp (Aj 26 (.pointer (some ⟨h.size,0,none⟩)) (.agg #[.int .i64 u,.string v,slV w,slV x])) t (λy=>∃z A B C,zh y ⟨h.size,0,none⟩ 0 [.int .i64 z,.string A,slV B,slV C]/\R (.tuple #[.agg #[.int .i64 z,.string A,slV B,slV C],.int .i64 g,.int .i64 0]) y)))))):
  XC Tp 15 #[.string s0] h R:=
 XF ⟨[],[],[]⟩ [.cell 2 26,.tmp 3,.tmp 4] 22 Tryz.func15 H
end
end Go.X
end
section
namespace Go.X
open Go Go.X Go.Proofs Go.RowKit
section
variable {s:Bs} {M:Fr}
theorem zng(h:(Za s).2.2=0):(yk s).2.2=0:=by
 unfold Za at h
 split at h
 ·assumption
 ·exact h
theorem z7y{x:Bs×List Nd}{i j:Int}{v:Value}(h:zc1 M [.pair .str (.row tNd),.int .i64,.int .i64] ((bl x.1,x.2),i,j) v):∃sl:Sl,v=.tuple #[.agg #[.string (bl x.1),slV sl],.int .i64 i,.int .i64 j]/\Rd M (.row tNd) x.2 [slV sl]:=by
 obtain⟨vs,⟨v1,rest,rfl,hx,v2,Z,rfl,hy,v3,rfl,hz⟩,rfl⟩:=h
 rw[qo hy,qo hz]
 obtain⟨cs,rfl,c1,c2,rfl,e1,e2⟩:=hx
 have e1:c1=[.string (bl x.1)]:=e1
 subst e1
 obtain⟨sl,rfl⟩:∃sl:Sl,c2=[slV sl]:=by
  obtain⟨w,e,a,c,q,_⟩:=e2
  exact⟨⟨a,_,c⟩,by rw[e,q];rfl⟩
 exact⟨sl,rfl,e2⟩
set_option maxRecDepth 100000 in
set_option maxHeartbeats 2000000 in
theorem z7z{gl:Fr}(hg:GL gl){h:zb}(hM:Fr.le gl M)(ag:AgM M h){K:Value->zb->Prop}
  (hK:∀(h':zb) (bs:List Nat) (sk si:Sl),Keep h.size h h'->OT h' (zej s).1 bs (wm (zej s).1 sk si)->(∀b∈bs,h.size<=b)->K (.tuple #[.agg #[.int .i64 (zej s).1.kind,.string (zej s).1.text,slV sk,slV si],.int .i64 (zej s).2.1,.int .i64 (zej s).2.2]) h'):
  XC Tp 15 #[.string (bl s)] h K:=by
 apply znf
 intro h1
 have k1:Keep h.size h h1:=Keep.push _ _ (Ad _)
 have z1:h1.size=h.size+1:=Al _
 have R1:Blk h1 h.size #[.int .i64 0,.string ⟨#[]⟩,.slice none 0 0,.slice none 0 0]:=Blk.new _ _ _
 clear_value h1
 refine(zgu hg (s:=s) (R:=λr=>r=((bl (Za s).1.1,(Za s).1.2),(Za s).2.1,(Za s).2.2)) rfl).go hM (ag.keep k1) (yu (a:=Arg.mk .str _) (rdStr _) j9) λv h3 M' r L hv hr=>?_
 subst hr
 obtain⟨sl,rfl,rd⟩:=z7y hv
 refine⟨_,sl,_,_,rfl,?_⟩
 have k3:=L.keep
 have z3:=k3.size
 have ab:Keep h.size h h3:=k1.trans (c:=h3) (m:=h.size) ⟨z3,λj hj=>k3.get j (by omega)⟩ (Ad _)
 have R3:=R1.keep (k3.get h.size (by omega))
 intro h8
 have k8:Keep h3.size h3 h8:=Keep.push _ _ (Ad _)
 have z8:h8.size=h3.size+1:=Al _
 have D8:Blk h8 h3.size #[.string ⟨#[]⟩,.slice none 0 0]:=Blk.new _ _ _
 clear_value h8
 refine Qu (u:=bl (Za s).1.1) (v:=sl) D8 λh9 f9 z9 D9=>?_
 have k9:Keep h3.size h3 h9:=⟨by omega,λj hj=>(f9 j (by omega)).trans (k8.get j hj)⟩
 have aa:Keep h.size h h9:=ab.trans (c:=h9) (m:=h.size) ⟨k9.size,λj hj=>k9.get j (by omega)⟩ (Ad _)
 have R9:=R3.keep (k9.get h.size (by omega))
 refine⟨λhx=>?_,λhx=>?_⟩
 ·have hx:¬(Za s).2.2=0:=by simpa using hx
  have eR:zej s=(.mk 0 (bl []) [] [],(Za s).2.1,(Za s).2.2):=by unfold zej;rw[if_neg hx]
  rw[eR]at hK
  refine Wx (k:=0) (s:=⟨#[]⟩) (sk:=⟨none,0,0⟩) (si:=⟨none,0,0⟩) R9 λg f z B=>⟨_,_,_,_,B.ld (cs:=[.int .i64 0,.string ⟨#[]⟩,slV ⟨none,0,0⟩,slV ⟨none,0,0⟩]),?_⟩
  obtain⟨bs,ot,ae⟩:=(Own.new (lo:=h.size) (hi:=g.size) (b0:=h.size) (k:=0) (s:=bl []) B (Ad _) (Ad _)).ot
  exact hK g bs ⟨none,0,0⟩ ⟨none,0,0⟩ (aa.trans (c:=g) (m:=h.size) ⟨by omega,λj hj=>f j (by omega)⟩ (Ad _)) ot (λb hb=>(ae b hb).1)
 ·have hx:(Za s).2.2=0:=by simpa using hx
  obtain⟨lvs,G,e1,e2,e3,e4⟩:=zgk hx
  obtain⟨hs,aj⟩:=zku (zng hx)
  have eR:zej s=(wo s (Za s).1.2 33 0,(s.length:Int),0):=by unfold zej;rw[if_pos hx]
  rw[eR]at hK
  rw[e1]at D9
  rw[e2]
  refine⟨_,sl,D9.ld (cs:=[.string (bl s),slV sl]),?_⟩
  have af:AgM M' h9:=L.ag.keep k9
  refine zxm hg hs G (λx hx=>by have:=e4 x hx;unfold ndW at this;omega) 33 0 1 1 rfl (by omega) (by omega) (by omega) h9 M' sl (hM.trans L.le) af rd _ λah bs sk si Z ot hb=>⟨_,_,sk,si,rfl,?_⟩
  have ai:=Z.size
  refine Wx (R9.keep (Z.get h.size (by omega))) λg f z B=>⟨_,_,sk,si,B.ld (cs:=[_,_,slV sk,slV si]),?_⟩
  exact hK g bs sk si (aa.trans (c:=g) (m:=h.size) ⟨by omega,λj hj=>by rw[f j (by omega)];exact Z.get j (by omega)⟩ (Ad _)) (ot.frame λc hc=>f c (by have:=hb c hc;omega)) (λc hc=>by have:=hb c hc;omega)
end
section
variable {k l:Nat} {R:Tr -> Prop}
theorem z8a{M:Fr}{t:Bs}{nodes:List Nd}{u:Value}(h:RdV M zkx (bl t,nodes) u):∃sl:Sl,u=.agg #[.string (bl t),slV sl]/\Rd M (.row tNd) nodes [slV sl]:=by
 obtain⟨cs,rfl,c1,c2,rfl,e1,e2⟩:=h
 have e1:c1=[.string (bl t)]:=e1
 subst e1
 obtain⟨sl,rfl⟩:∃sl:Sl,c2=[slV sl]:=by
  obtain⟨w,e,a,c,q,_⟩:=e2
  exact⟨⟨a,_,c⟩,by rw[e,q];rfl⟩
 exact⟨sl,rfl,e2⟩
section
variable {t : Bs} {nodes : List Nd} {lvs : List Nat} {gl : Fr}
theorem zxv(hg:GL gl)(ht:t.length<=65536)(G:GoodN lvs nodes)(Z:∀x∈nodes,x.2.2.2.1.length<=200000){L:Int}(hl:lvs[k]?=some l)(h1:1<=L)(h2:L<=(l:Int))(hR:R (wo t nodes 33 k)):PC Tp gl 59 [Arg.mk zkx (bl t,nodes),Arg.mk (.int .i64) (k:Int),Arg.mk (.int .i64) L] [.tree] R:=by
 intro h M vs hM ag ha
 match vs,ha with
 |[u1,u2,u3],⟨a1,a2,a3,_⟩=>
  obtain⟨sl,rfl,rd⟩:=z8a a1
  obtain rfl:=qo (i:=(k:Int)) a2
  obtain rfl:=qo (i:=L) a3
  apply PX.of
  exact zxm hg ht G Z 33 k l L hl (by omega) h1 h2 h M sl hM ag rd _ λh' bs sk si k' ot hb=>⟨MxL M h' bs,_,MxL.later ag k' hb,zsw.2 ot.rdv,hR⟩
theorem zrn(hg:GL gl)(ht:t.length<=65536)(G:GoodN lvs nodes)(Z:∀x∈nodes,x.2.2.2.1.length<=200000)(hl:lvs[k]?=some l)(hR:R (wo t nodes 33 k)):PC Tp gl 22 [Arg.mk zkx (bl t,nodes),Arg.mk (.int .i64) (k:Int)] [.tree] R:=by
 intro h M vs hM ag ha
 match vs,ha with
 |[u1,u2],⟨a1,a2,_⟩=>
  obtain⟨sl,rfl,rd⟩:=z8a a1
  obtain rfl:=qo (i:=(k:Int)) a2
  apply PX.of
  exact zxn hg ht G Z 33 k l hl (by omega) h M sl hM ag rd _ λh' bs sk si k' ot hb=>⟨MxL M h' bs,_,MxL.later ag k' hb,zsw.2 ot.rdv,hR⟩
def z0a(t:Bs)(nodes:List Nd)(k:Int):Tr×Bool:=if 0<=k/\k<(nodes.length:Int)then(wo t nodes 33 k.toNat,true)else(.mk 0 (bl []) [] [],false)
theorem zxw(hg:GL gl)(ht:t.length<=65536)(G:GoodN lvs nodes)(Z:∀x∈nodes,x.2.2.2.1.length<=200000){k:Int}{R:Tr×Bool->Prop}(hR:R (z0a t nodes k)):PC Tp gl 21 [Arg.mk zkx (bl t,nodes),Arg.mk (.int .i64) k] [.tree,.bool] R:=by
 apply zmw
 unfold z0a at hR
 have e:(bif (decide ((k:Int)<0))then true else(decide ((k:Int)>=((Cd nodes:Nat):Int))))=decide (¬(0<=k/\k<(nodes.length:Int))):=by
  rw[Az]
  simp only[Bool.cond_eq_ite,Bool.if_true_left,Bh,decide_eq_true_eq]
  omega
 dsimp only
 rw[e]
 refine⟨λhx=>?_,λhx=>?_⟩
 ·rw[if_neg (of_decide_eq_true hx)]at hR;exact hR
 ·have hx:0<=k/\k<(nodes.length:Int):=Decidable.not_not.1 (of_decide_eq_false hx)
  rw[if_pos hx]at hR
  obtain⟨j,rfl⟩:∃j:Nat,k=(j:Int):=⟨k.toNat,by omega⟩
  rw[Ae]at hR
  have hj:j<lvs.length:=by rw[G.len];omega
  have aa:=G.lv j _ (Ak hj)
  refine zxv hg ht G Z (Ak hj) (by omega) (by omega) ?_
  have et:Tr.mk (wo t nodes 33 j).kind (wo t nodes 33 j).text (wo t nodes 33 j).keys (wo t nodes 33 j).items=wo t nodes 33 j:=by cases wo t nodes 33 j;rfl
  rw[et];exact hR
theorem z4k(hg:GL gl){s:Bs}{R:Tr×Int×Int->Prop}(hR:R (zej s)):PC Tp gl 15 [Arg.mk .str (bl s)] [.tree,.int .i64,.int .i64] R:=by
 intro h M vs hM ag ha
 match vs,ha with
 |[u1],⟨a1,_⟩=>
  obtain rfl:=Zo (s:=bl s) a1
  apply PX.of
  exact z7z hg hM ag λh' bs sk si k' ot hb=>⟨MxL M h' bs,_,MxL.later ag k' hb,⟨[_,_,_],⟨_,_,rfl,ot.rdv,_,_,rfl,Jt _ _,_,rfl,Jt _ _⟩,rfl⟩,hR⟩
end
end
end Go.X
end
section
namespace Go.X
open Go Go.Lib
section
theorem zro(x:Bt):∀(l:List Bt) (i:Nat),(idxFromS l x i=-1/\x∉l)\/∃k:Nat,idxFromS l x i=((i+k:Nat):Int)/\k<l.length/\l[k]?=some x
 |[],i=>.inl ⟨rfl,by simp⟩
 |z::l,i=>by
  unfold idxFromS
  by_cases h:z=x
  ·rw[if_pos h];exact .inr ⟨0,rfl,by simp,by simp[h]⟩
  ·rw[if_neg h]
   rcases zro x l (i+1)with⟨h1,h2⟩|⟨k,h1,h2,h3⟩
   ·exact .inl ⟨h1,by simp[h2];exact λe=>h e.symm⟩
   ·exact .inr ⟨k+1,by rw[h1];congr 1;omega,by simp;omega,by simpa using h3⟩
def zep(v:Tr)(s:Bt):Int:=if v.kind=6 then idxOfS v.keys s else if v.kind=5 then(if(zin (lb s)).2=true/\(zin (lb s)).1<v.items.length then(zin (lb s)).1 else -1)else -1
end
section
variable {t:Bs} {k:Nat}
def z0b(t:Bs)(nodes:List Nd)(k:Nat)(s:Bt):Int:=match nodes[k]? with
 |none=>-1
 |some x=>if 0<=zep (wo t nodes 33 k) s then x.2.2.2.1.getD (zep (wo t nodes 33 k) s).toNat (-1)else -1
def atP(t:Bs)(nodes:List Nd):Nat->List Bt->Option Nat
 |k,[]=>some k
 |k,s::p=>if 0<=z0b t nodes k s then atP t nodes (z0b t nodes k s).toNat p else none
def atR(t:Bs)(nodes:List Nd)(p:List Bt):Int×Bool:=if nodes.length=0\/Wt p=false then(0,false)else match atP t nodes 0 p with
 |some k=>((k:Int),true)
 |none=>(0,false)
theorem zdp{nodes:List Nd}{k f:Nat}{x:Nd}(h:nodes[k]?=some x):wo t nodes (f+1) k=.mk x.1 (bl (Jx x.1 (zw t x.2.1))) (if x.1=6 then x.2.2.2.1.map λc=>bl (zgl t nodes c)else []) (x.2.2.2.1.map λc=>wo t nodes f c.toNat):=by
 rw[wo,h]
theorem z4l{nodes:List Nd}{x:Nd}(h:nodes[k]?=some x)(s:Bt):zep (wo t nodes 33 k) s=-1\/∃j:Nat,zep (wo t nodes 33 k) s=(j:Int)/\j<x.2.2.2.1.length:=by
 rw[zdp h]
 unfold zep
 by_cases h6:x.1=6
 ·simp only[Tr.kind,Tr.keys,h6,if_true]
  rcases zro s (x.2.2.2.1.map λc=>bl (zgl t nodes c)) 0 with⟨h1,_⟩|⟨j,h1,h2,_⟩
  ·exact .inl h1
  ·exact .inr ⟨j,by unfold idxOfS;rw[h1];simp,by simpa using h2⟩
 ·simp only[Tr.kind,if_neg h6]
  by_cases h5:x.1=5
  ·rw[if_pos h5]
   split
   ·rename_i hc
    have:=zio hc.1
    simp only[Tr.items,AL]at hc
    exact .inr ⟨(zin (lb s)).1.toNat,by omega,by omega⟩
   ·exact .inl rfl
  ·rw[if_neg h5];exact .inl rfl
theorem zxx{nodes:List Nd}{lvs:List Nat}(G:GoodN lvs nodes){k l:Nat}(hl:lvs[k]?=some l)(s:Bt):z0b t nodes k s=-1\/∃j:Nat,z0b t nodes k s=(j:Int)/\j<nodes.length/\lvs[j]?=some (l+1):=by
 unfold z0b
 cases hx:nodes[k]? with
 |none=>exact .inl rfl
 |some x=>
  dsimp only
  rcases z4l (t:=t) hx s with e|⟨j,e,hj⟩
  ·rw[e];exact .inl rfl
  ·rw[e,if_pos (by omega),Ae]
   have hd:x.2.2.2.1.getD j (-1)=x.2.2.2.1[j]:=by simp[Ec,hj]
   rw[hd]
   obtain⟨i,e1,_,e2⟩:=G.kid k l x hx hl _ (AM hj)
   have:=(Au.1 e2).1
   rw[G.len]at this
   exact .inr ⟨i,e1,this,e2⟩
end
end Go.X
end
section
namespace Go.X
section
variable {gl:Fr}
theorem zxy{l:Bs}(hl:l.length<=1048576){R:Int×Bool->Prop}(h:R (zin l)):PC Tp gl 137 [Arg.mk .str (bl l)] [.int .i64,.bool] R:=by
 apply zan
 simp only[zd,zo,show(0:Int).toNat=0 from rfl]
 unfold zin at h
 have hg:(bif (bif decide ((l.length:Int)<1)then true else decide ((l.length:Int)>9))then true else(bif decide ((l.length:Int)>1)then((((l[0]?).getD 0).toNat:Int)==48)else false))=decide (l.length<1\/9<l.length\/(1<l.length/\l.head?=some 48)):=by
  cases l with
  |nil=>simp
  |cons c t=>
   have e:((c.toNat:Int)==48)=(c==48):=by
    have:=Xe (c:=c) (n:=48) 48 rfl
    unfold bne at this
    rw[<-DY ((c.toNat:Int)==48),this,DY]
   show(bif (bif decide (((c::t:Bs).length:Int)<1)then true else decide (((c::t:Bs).length:Int)>9))then true else(bif decide (((c::t:Bs).length:Int)>1)then((c.toNat:Int)==48)else false))=_
   rw[e,Az,decide_eq_true_eq]
   have h0:¬(c::t:Bs).length<1:=by simp
   have ae:decide (((c::t:Bs).length:Int)<1)=false:=by simp;omega
   rw[ae,cond_false]
   generalize (c::t:Bs).length=n at *
   by_cases h9:9<n
   ·have:decide ((n:Int)>9)=true:=by simp;omega
    rw[this];simp[h9]
   ·have:decide ((n:Int)>9)=false:=by simp;omega
    rw[this,cond_false]
    by_cases h1:1<n
    ·have:decide ((n:Int)>1)=true:=by simp;omega
     rw[this];simp[h9,h0,h1]
    ·have:decide ((n:Int)>1)=false:=by simp;omega
     rw[this];simp[h9,h0,h1]
 rw[hg]
 by_cases aa:l.length<1\/9<l.length\/(1<l.length/\l.head?=some 48)
 ·rw[if_pos aa]at h
  rw[decide_eq_true aa]
  exact⟨λhx=>⟨by omega,by simp at hx;omega⟩,λ_=>h,λhx=>by cases hx⟩
 ·rw[if_neg aa]at h
  rw[decide_eq_false aa]
  have ah:1<=l.length:=by omega
  have af:l.length<=9:=by omega
  refine⟨λhx=>⟨by omega,by omega⟩,λhx=>(by cases hx),λ_=>?_⟩
  refine⟨λn i=>∃k:Nat,i=k/\k<=l.length/\n=(zq (l.take k):Int)/\(l.take k).all qs=true,λ_ i=>l.length-i.toNat,⟨0,rfl,by omega,by simp[zq],by simp⟩,?_⟩
  rintro n i ⟨k,rfl,hk,rfl,hd⟩
  refine⟨λhc=>?_,λhc=>?_⟩
  ·have Z:k<l.length:=by simp at hc;omega
   rw[Ae,Zh Z]
   have hu:=qbh l[k]
   have key:((bif decide (((l[k]).toNat:Int)<48)then true else decide (((l[k]).toNat:Int)>57))=!(qs l[k])):=by
    unfold qs
    rw[Az]
    by_cases a:(l[k]).toNat<48
    ·have:decide (((l[k]).toNat:Int)<48)=true:=by simp;omega
     rw[this];simp;omega
    ·have:decide (((l[k]).toNat:Int)<48)=false:=by simp;omega
     rw[this,cond_false];simp;omega
   rw[key]
   refine⟨⟨by omega,by omega⟩,λ_=>⟨by omega,by omega⟩,λhx=>?_,λhx=>⟨⟨by omega,by omega⟩,?_⟩⟩
   ·have:l.all qs=false:=by
     rw[List.all_eq_false]
     exact⟨_,AM Z,by simpa using hx⟩
    rw[this,if_neg (by simp)]at h;exact h
   ·have ab:qs l[k]=true:=by simpa using hx
    have hr:48<=(l[k]).toNat/\(l[k]).toNat<=57:=by simpa[qs]using ab
    have hv:zq (l.take k)<10 ^ 9:=Qb (by rw[AN];omega) hd
    rw[zv6 (by omega) (by omega),w64 (n:=((l[k]).toNat:Int)-48) (by omega),w64 (n:=10*(zq (l.take k):Int)) (by omega),w64 (by omega)]
    have hw:=Zp Z (by omega)
    rw[hw]
    refine⟨⟨k+1,rfl,by omega,?_,by rw[zq7 Z,hd,ab];rfl⟩,by simp only[Ae];omega⟩
    rw[Jj Z];omega
  ·have Z:k=l.length:=by simp at hc;omega
   subst Z
   rw[A5]at hd ⊢
   rw[hd,if_pos rfl]at h;exact h
theorem z0c{v:Tr}(aj:v.keys.length<=1048576){s:Bt}(hs:(lb s).length<=1048576){R:Int->Prop}(h:R (zep v s)):PC Tp gl 74 [Arg.mk .tree v,Arg.mk .str s] [.int .i64] R:=by
 apply zb5
 intro K hK
 have hi:=zxy (gl:=gl) (l:=lb s) hs (R:=λr=>r=zin (lb s)) rfl
 rw[zjo]at hi
 unfold zep at h
 refine⟨λh6=>?_,λh6=>?_⟩
 ·have ae:v.kind=6:=by simpa using h6
  rw[if_pos ae]at h
  refine⟨λi=>∃k:Nat,i=k/\k<=v.keys.length/\∀j,j<k->v.keys.getD j DR≠s,λi=>v.keys.length-i.toNat,⟨0,rfl,by omega,λj hj=>by omega⟩,?_⟩
  rintro i ⟨k,rfl,hk,aa⟩
  refine⟨λhc=>?_,λhc=>?_⟩
  ·have Z:k<v.keys.length:=by simp at hc;omega
   have ah:v.keys.getD k DR=v.keys[k]:=by simp[Ec,Z]
   refine⟨v.keys[k],⟨by omega,zo3 Z⟩,λhx=>?_,λhx=>?_⟩
   ·have af:v.keys[k]=s:=by rw[x6,x6]at hx;exact zid.1 (eq_of_beq hx)
    have:=Lib.idxOfS_hit v.keys v.keys.length k s Z (Ad _) (by rw[ah,af]) aa
    rw[A5]at this
    rw[this]at h;exact h
   ·have af:v.keys[k]≠s:=by intro e;rw[e]at hx;simp at hx
    have hw:=Zp Z (by omega)
    rw[hw]
    refine⟨⟨k+1,rfl,by omega,λj hj=>?_⟩,by simp only[Ae];omega⟩
    by_cases ai:j=k
    ·subst ai;rw[ah];exact af
    ·exact aa j (by omega)
  ·have Z:k=v.keys.length:=by simp at hc;omega
   subst Z
   refine hK (hi.mono λr hr=>?_)
   have:=Lib.idxOfS_miss v.keys v.keys.length s aa
   rw[A5]at this
   rw[this]at h
   have h5:(v.kind==5)=false:=by rw[qac];simp;omega
   rw[h5]
   exact⟨λhx=>by simp at hx,λ_=>h⟩
 ·have ae:v.kind≠6:=by simpa using h6
  rw[if_neg ae]at h
  refine hK (hi.mono λr hr=>?_)
  subst hr
  by_cases h5:v.kind=5
  ·rw[if_pos h5]at h
   have ab:(v.kind==5)=true:=by rw[qac];simpa using h5
   rw[ab,cond_true]
   refine⟨λhx=>?_,λhx=>?_⟩
   ·rw[if_pos (by simpa using hx)]at h;exact h
   ·rw[if_neg (by simpa using hx)]at h;exact h
  ·rw[if_neg h5]at h
   have ab:(v.kind==5)=false:=by rw[qac];simpa using h5
   rw[ab]
   exact⟨λhx=>by simp at hx,λ_=>h⟩
end
end Go.X
end
section
namespace Go.X
open Go Go.X Go.Proofs Go.RowKit
section
variable {k:Nat}
theorem zrp{gl:Fr}{t:Bs}{nodes:List Nd}{k:Int}{R:Bool->Prop}(hR:R (decide (0<=k/\k<(nodes.length:Int)))):PC Tp gl 72 [Arg.mk zkx (bl t,nodes),Arg.mk (.int .i64) k] [.bool] R:=by
 apply zkh
 have e:(bif (decide ((k:Int)>=0))then(decide ((k:Int)<((Cd nodes:Nat):Int)))else false)=decide (0<=k/\k<(nodes.length:Int)):=by
  rw[Az]
  simp only[Bool.cond_eq_ite,decide_eq_true_eq]
  split <;> simp <;> omega
 dsimp only
 rw[e];exact hR
theorem zxz{l:List Int}(h:k<l.length):l[((k:Int)).toNat]?=some l[k]:=by rw[Ae,Ak h]
section
variable {t : Bs} {nodes : List Nd} {lvs : List Nat} {gl : Fr}
theorem z8b(hg:GL gl)(ht:t.length<=65536)(G:GoodN lvs nodes)(ap:∀x∈nodes,x.2.2.2.1.length<=200000){k l:Nat}(hl:lvs[k]?=some l){s:Bt}(hs:(lb s).length<=1048576){R:Int->Prop}(hR:R (z0b t nodes k s)):PC Tp gl 71 [Arg.mk zkx (bl t,nodes),Arg.mk (.int .i64) (k:Int),Arg.mk .str s] [.int .i64] R:=by
 have ak:k<nodes.length:=by have:=(Au.1 hl).1;rw[G.len]at this;exact this
 have hx:nodes[k]?=some nodes[k]:=Ak ak
 have ai:=ap _ (AM ak)
 apply zo6
 unfold z0b at hR
 rw[hx]at hR
 dsimp only at hR
 have aa:=z4l (t:=t) hx s
 rw[zdp hx]at hR aa
 generalize nodes[k]=x at hx ai hR aa
 refine⟨x,⟨by omega,by rw[Ae];exact hx⟩,x,⟨by omega,by rw[Ae];exact hx⟩,λh5=>?_,λh5=>⟨λh6=>?_,λh6=>?_⟩⟩
 ·have h5:x.1=5:=by simpa using h5
  have h6:¬x.1=6:=by omega
  have hi:=zw0 hg (l:=lb s) hs (R:=λr=>r=zin (lb s)) rfl
  rw[zjo]at hi
  refine hi.mono λr hr=>?_
  subst hr
  unfold zep at hR
  simp only[Tr.kind,Tr.keys,Tr.items,h5,if_true,AL]at hR
  rw[if_neg (show¬((5:Int)=6)by decide)]at hR
  refine⟨λhc=>?_,λhc=>?_⟩
  ·have Z:(zin (lb s)).2=true/\(zin (lb s)).1<(x.2.2.2.1.length:Int):=by
    simp only[Bool.cond_eq_ite]at hc
    split at hc
    ·rename_i h1;exact⟨h1,of_decide_eq_true hc⟩
    ·cases hc
   have hr:=zio Z.1
   obtain⟨j,hj⟩:∃j:Nat,(zin (lb s)).1=(j:Int):=⟨(zin (lb s)).1.toNat,by omega⟩
   rw[if_pos Z,if_pos hr.1]at hR
   rw[hj]at hR Z ⊢
   have ah:j<x.2.2.2.1.length:=by omega
   refine⟨x.2.2.2.1[j],⟨by omega,zxz ah⟩,?_⟩
   rw[Ae]at hR
   have hd:x.2.2.2.1.getD j (-1)=x.2.2.2.1[j]:=by simp[Ec,ah]
   rw[hd]at hR;exact hR
  ·have Z:¬((zin (lb s)).2=true/\(zin (lb s)).1<(x.2.2.2.1.length:Int)):=λh1=>by
    rw[h1.1,cond_true,decide_eq_true h1.2]at hc;cases hc
   rw[if_neg Z,if_neg (by decide)]at hR;exact hR
 ·have h6:x.1=6:=by simpa using h6
  unfold zep at hR aa
  simp only[Tr.kind,Tr.keys,Tr.items,h6,if_true]at hR aa
  generalize af:(x.2.2.2.1.map λc=>bl (zgl t nodes c))=ks at hR aa
  have ar:ks.length=x.2.2.2.1.length:=by rw[<-af,AL]
  refine⟨λi=>∃n:Nat,i=(n:Int)/\n<=x.2.2.2.1.length/\∀j,j<n->ks.getD j DR≠s,λi=>x.2.2.2.1.length-i.toNat,⟨0,rfl,by omega,λj hj=>by omega⟩,?_⟩
  rintro i ⟨n,rfl,hn,ab⟩
  refine⟨λhc=>?_,λhc=>?_⟩
  ·have Z:n<x.2.2.2.1.length:=by have:=of_decide_eq_true hc;omega
   refine⟨x.2.2.2.1[n],⟨by omega,zxz Z⟩,?_⟩
   obtain⟨j,e1,_,e2⟩:=G.kid k l x hx hl _ (AM Z)
   have hj:=(Au.1 e2).1
   rw[G.len]at hj
   refine zrp ⟨x.2.2.2.1[n],λ_=>⟨by omega,zxz Z⟩,?_⟩
   have an:decide (0<=x.2.2.2.1[n]/\x.2.2.2.1[n]<(nodes.length:Int))=true:=decide_eq_true ⟨by omega,by omega⟩
   rw[an]
   have aj:nodes[j]?=some nodes[j]:=Ak hj
   refine⟨λr=>r=bl (ztb t nodes[j]),λ_=>?_,λr hr=>?_⟩
   ·rw[e1];exact zxb hg ht aj rfl
   ·have hr:=hr rfl
    subst hr
    have ae:ks.getD n DR=bl (ztb t nodes[j]):=by
     rw[<-af]
     simp only[Ec,Cc,Ak Z,D5,Option.getD_some]
     rw[e1];unfold zgl;rw[Ae,aj]
    refine⟨λhq=>?_,λhq=>?_⟩
    ·rw[cond_true]at hq
     have hq:bl (ztb t nodes[j])=s:=by rw[x6,x6]at hq;exact zid.1 (eq_of_beq hq)
     have:=Lib.idxOfS_hit ks ks.length n s (by omega) (Ad _) (by rw[ae,hq]) ab
     rw[A5]at this
     rw[this,if_pos (by omega),Ae]at hR
     have hd:x.2.2.2.1.getD n (-1)=x.2.2.2.1[n]:=by simp[Ec,Z]
     rw[hd]at hR
     exact⟨x.2.2.2.1[n],⟨by omega,zxz Z⟩,hR⟩
    ·rw[cond_true]at hq
     have hq:bl (ztb t nodes[j])≠s:=by intro e;rw[e]at hq;simp at hq
     have hw:=Zp Z (by omega)
     rw[hw]
     refine⟨⟨n+1,rfl,by omega,λi hi=>?_⟩,by simp only[Ae];omega⟩
     by_cases am:i=n
     ·subst am;rw[ae];exact hq
     ·exact ab i (by omega)
  ·have Z:n=ks.length:=by have:=of_decide_eq_false hc;omega
   subst Z
   have:=Lib.idxOfS_miss ks ks.length s ab
   rw[A5]at this
   rw[this,if_neg (by decide)]at hR
   exact hR
 ·have h5:¬x.1=5:=by simpa using h5
  have h6:¬x.1=6:=by simpa using h6
  unfold zep at hR
  simp only[Tr.kind,if_neg h5,if_neg h6]at hR
  rw[if_neg (by decide)]at hR;exact hR
theorem z4m(hg:GL gl)(ht:t.length<=65536)(G:GoodN lvs nodes)(h0:nodes.length≠0->lvs[0]?=some 1)(af:∀x∈nodes,x.2.2.2.1.length<=200000){p:List Bt}(hp:SL p){R:Int×Bool->Prop}(hR:R (atR t nodes p)):PC Tp gl 23 [Arg.mk zkx (bl t,nodes),Arg.mk (.row .str) p] [.int .i64,.bool] R:=by
 have ah:=hp.n
 apply zth
 unfold atR at hR
 dsimp only
 refine⟨λr=>r=Wt p,λ_=>zzu hg hp rfl,λr hr=>⟨λhc=>?_,λhc=>?_⟩⟩
 ·rw[if_pos ?_]at hR
  ·exact hR
  ·cases hn:(((Cd nodes:Nat):Int)==0)with
   |true=>exact .inl (by have:=eq_of_beq hn;omega)
   |false=>
    rw[hn]at hr hc
    have:=hr rfl
    subst this
    rw[cond_false]at hc
    exact .inr (by simpa using hc)
 ·have hn:(((Cd nodes:Nat):Int)==0)=false:=by
   cases hn:(((Cd nodes:Nat):Int)==0)with
   |true=>rw[hn]at hc;cases hc
   |false=>rfl
  rw[hn]at hr hc
  have:=hr rfl
  subst this
  rw[cond_false]at hc
  have hn:nodes.length≠0:=λe=>by rw[e]at hn;exact absurd hn (by decide)
  rw[if_neg (by rintro(h|h);exact hn h;rw[h]at hc;cases hc)]at hR
  refine⟨λkk i=>∃n c l:Nat,i=(n:Int)/\kk=(c:Int)/\n<=p.length/\lvs[c]?=some l/\atP t nodes 0 p=atP t nodes c (p.drop n),λkk i=>p.length-i.toNat,⟨0,0,1,rfl,rfl,by omega,h0 hn,rfl⟩,?_⟩
  rintro kk i ⟨n,c,l,rfl,rfl,ai,hl,Z⟩
  refine⟨λhc=>?_,λhc=>?_⟩
  ·have aa:n<p.length:=by have:=of_decide_eq_true hc;omega
   have ab:p.drop n=p[n]::p.drop (n+1):=Ay aa
   refine⟨p[n],⟨by omega,zo3 aa⟩,?_⟩
   refine z8b hg ht G af hl (by have:=hp.s _ (AM aa);omega) (zrp ?_)
   rw[ab,atP]at Z
   rcases zxx (t:=t) G hl p[n]with e|⟨j,e,hj,ae⟩
   ·rw[e]at Z ⊢
    rw[if_neg (by decide)]at Z
    rw[Z]at hR
    exact⟨λ_=>hR,λhx=>by simp at hx⟩
   ·rw[e]at Z ⊢
    rw[if_pos (by omega),Ae]at Z
    have hw:=Zp aa (by omega)
    rw[hw]
    have hd:decide (0<=(j:Int)/\(j:Int)<(nodes.length:Int))=true:=decide_eq_true ⟨by omega,by omega⟩
    rw[hd]
    exact⟨λhx=>(by cases hx),λ_=>⟨⟨n+1,j,l+1,rfl,rfl,by omega,ae,Z⟩,by simp only[Ae];omega⟩⟩
  ·have aa:n=p.length:=by have:=of_decide_eq_false hc;omega
   subst aa
   rw[Dc,atP]at Z
   rw[Z]at hR
   exact hR
theorem z05(hg:GL gl)(ht:t.length<=65536)(G:GoodN lvs nodes)(h0:nodes.length≠0->lvs[0]?=some 1)(ah:∀x∈nodes,x.2.2.2.1.length<=200000){p:List Bt}(hp:SL p){R:Int×Bool->Prop}(hR:R (atR t nodes p)):PC Tp gl 24 [Arg.mk zkx (bl t,nodes),Arg.mk (.row .str) p] [.int .i64,.bool] R:=by
 have aj:=hp.n
 apply zel
 unfold atR at hR
 dsimp only
 refine zwn hp ⟨λhc=>?_,λhc=>?_⟩
 ·rw[if_pos ?_]at hR
  ·exact hR
  ·cases hr:Wt p with
   |false=>exact .inr rfl
   |true=>
    rw[hr]at hc
    have hc:(((Cd nodes:Nat):Int)==0)=true:=hc
    exact .inl (by have:=eq_of_beq hc;omega)
 ·cases hr:Wt p with
  |false=>rw[hr]at hc;cases hc
  |true=>
  rw[hr]at hc hR
  have hc:(((Cd nodes:Nat):Int)==0)=false:=hc
  have hn:nodes.length≠0:=λe=>by rw[e]at hc;exact absurd hc (by decide)
  rw[if_neg (by rintro(h|h);exact hn h;cases h)]at hR
  refine⟨λkk i=>∃n c l:Nat,i=(n:Int)/\kk=(c:Int)/\n<=p.length/\lvs[c]?=some l/\atP t nodes 0 p=atP t nodes c (p.drop n),λkk i=>p.length-i.toNat,⟨0,0,1,rfl,rfl,by omega,h0 hn,rfl⟩,?_⟩
  rintro kk i ⟨n,c,l,rfl,rfl,ak,hl,aa⟩
  refine⟨λhc=>?_,λhc=>?_⟩
  ·have ab:n<p.length:=by have:=of_decide_eq_true hc;omega
   have ae:p.drop n=p[n]::p.drop (n+1):=Ay ab
   refine⟨p[n],⟨by omega,zo3 ab⟩,?_⟩
   have af:c<nodes.length:=by have:=(Au.1 hl).1;rw[G.len]at this;exact this
   have hx:nodes[c]?=some nodes[c]:=Ak af
   refine zrn hg ht G ah hl ?_
   rw[zms]
   have ai:=ah _ (AM af)
   refine z0c ?_ (by have:=hp.s _ (AM ab);omega) ?_
   ·rw[zdp hx]
    simp only[Tr.keys]
    split
    ·rw[AL];omega
    ·simp
   rw[ae,atP]at aa
   have am:=zxx (t:=t) G hl p[n]
   have Z:z0b t nodes c p[n]=if 0<=zep (wo t nodes 33 c) p[n]then nodes[c].2.2.2.1.getD (zep (wo t nodes 33 c) p[n]).toNat (-1)else -1:=by unfold z0b;rw[hx]
   rcases z4l (t:=t) hx p[n]with e|⟨j,e,hj⟩
   ·rw[e]at Z ⊢
    rw[if_neg (by decide)]at Z
    rw[Z,if_neg (by decide)]at aa
    rw[aa]at hR
    exact⟨λ_=>hR,λhx=>by simp at hx⟩
   ·rw[e]at Z ⊢
    rw[if_pos (by omega),Ae]at Z
    have hd:nodes[c].2.2.2.1.getD j (-1)=nodes[c].2.2.2.1[j]:=by simp[Ec,hj]
    rw[hd]at Z
    obtain⟨i,e1,_,e2⟩:=G.kid c l _ hx hl _ (AM hj)
    rw[e1]at Z
    rw[Z,if_pos (by omega),Ae]at aa
    have hw:=Zp ab (by omega)
    rw[hw]
    refine⟨λhx=>(by have:=of_decide_eq_true hx;omega),λ_=>⟨nodes[c],⟨by omega,by rw[Ae];exact hx⟩,nodes[c].2.2.2.1[j],⟨by omega,zxz hj⟩,⟨n+1,i,l+1,rfl,e1,by omega,e2,aa⟩,by simp only[Ae];omega⟩⟩
  ·have ab:n=p.length:=by have:=of_decide_eq_false hc;omega
   subst ab
   rw[Dc,atP]at aa
   rw[aa]at hR
   exact hR
end
end
end Go.X
end
section
namespace Go.X
open Go Go.Lib
section
def zT:Tr:=.mk 0 ⟨#[]⟩ [] []
end
end Go.X
end
section
namespace Go.X.U
section
variable {o:Oper} {ρ:Operand -> Value} {h h':zb} {a b:Act} {P:Program} {ops:Array Oper} {listed:Array Bool} {i n:Nat}
def Xt(o:Oper):Option Bool:=match o.op with
 |.fieldAddr _ _ _=>some true
 |.indexAddr _ _ _=>some true
 |.move _=>some true
 |.assign _=>some true
 |.load _ _=>some false
 |.binOp _ _ _ _ _=>some true
 |.call c=>match c.callee with
  |.builtin .len=>some true
  |_=>none
 |_=>none
def ze(o:Oper):Bool:=match Xt o with
 |some _=>true
 |none=>false
def zj(o:Oper):Bool:=match Xt o with
 |some b=>!b
 |none=>false
def zl:Nat->List Oper->List Nat
 |_,[]=>[]
 |k,o::l=>bif ze o then zl (k+1) l else k::zl (k+1) l
def Q7(ops:Array Oper):List Nat->Bool
 |[]=>true
 |[_]=>true
 |i::j::l=>bif Region.waitsFor .any ops j i then Q7 ops (j::l)else false
def jh(ops:Array Oper)(i:Nat):List Nat->Bool
 |[]=>false
 |j::l=>bif Region.waitsFor .any ops j i then true else jh ops i l
def zfd(ops:Array Oper)(T:List Nat):Nat->Bool
 |0=>false
 |k+1=>bif (match ops[k]? with
  |some o=>bif zj o then !(jh ops k T)else false
  |none=>false)then true else zfd ops T k
def jz(l:List Oper):Bool:=l.all λo=>match o.guard with
 |none=>jc o.op
 |some _=>false
def Q8(ops:Array Oper):Nat->Bool
 |0=>true
 |k+1=>bif (match ops[k]? with
  |some o=>bif yw ops k (tmpsOf o.op.operands.toList) ops.size then(bif ze o then(zl 0 ops.toList).all λj=>!(Region.waitsFor .any ops k j)||(match yh ops j with
   |some t=>!(memN (tmpsOf o.op.operands.toList) t)
   |none=>true)else true)else false
  |none=>true)then Q8 ops k else false
def zrw(ops:Array Oper):Bool:=bif jz ops.toList then(bif qd ops ops.size then(bif jl ops ops.size then(bif Q7 ops (zl 0 ops.toList)then Q8 ops ops.size else false)else false)else false)else false
def ztr(o:Oper)(ρ:Operand->Value)(h h':zb):Prop:=match o.op with
 |.load _ x=>∀c,ρ x=.pointer (some c)->h'[c.block]?=h[c.block]?
 |_=>True
theorem zx0(o:Oper)(ρ:Operand->Value)(h:zb):ztr o ρ h h:=by
 unfold ztr;split
 ·exact λ_ _=>rfl
 ·trivial
theorem zdq{ρ ρ':Operand->Value}(e:∀x∈o.op.operands.toList,ρ x=ρ' x)(H:ztr o ρ h h'):ztr o ρ' h h':=by
 unfold ztr at H ⊢
 split
 ·rename_i t x ho
  rw[ho]at H e
  exact λc hc=>H c (by rw[e x (by simp[Op.operands]),hc])
 ·trivial
def qS(P:Program)(o:Oper)(ρ:Operand->Value)(h:zb)(K:Value->Prop):Prop:=match o.op with
 |.call _=>zcr P (execOp ρ o) K
 |_=>w8 P o ρ none h K
def znh(ops:Array Oper)(T:List Nat)(e:Env)(h0 h':zb):Nat->Prop
 |0=>True
 |k+1=>match ops[k]? with
  |some o=>bif zj o then(bif jh ops k T then znh ops T e h0 h' k else(match o.op with
   |.load _ x=>(match Yr e [] x with
    |some (.pointer (some c))=>h'[c.block]?=h0[c.block]?/\znh ops T e h0 h' k
    |_=>False)
   |_=>False))else znh ops T e h0 h' k
  |none=>znh ops T e h0 h' k
theorem ziu{ops:Array Oper}{T:List Nat}{e:Env}{h0 h':zb}:∀{m:Nat},znh ops T e h0 h' m->∀k ok,k<m->ops[k]?=some ok->zj ok=true->jh ops k T=false->∃t x c,ok.op=.load t x/\Yr e [] x=some (.pointer (some c))/\h'[c.block]?=h0[c.block]?
 |0,_,k,_,hk,_,_,_=>by omega
 |m+1,H,k,ok,hk,ho,hl,ha=>by
  unfold znh at H
  rcases AF k m with h1|h1
  ·have H':znh ops T e h0 h' m:=by
    split at H
    ·rename_i o _
     cases hlo:zj o with
     |false=>rw[hlo]at H;exact H
     |true=>
      rw[hlo]at H
      simp only[cond_true]at H
      cases haw:jh ops m T with
      |true=>rw[haw]at H;exact H
      |false=>
       rw[haw]at H
       simp only[cond_false]at H
       split at H
       ·split at H
        ·exact H.2
        ·exact H.elim
       ·exact H.elim
    ·exact H
   exact ziu H' k ok h1 ho hl ha
  ·have:k=m:=by omega
   subst this
   rw[ho]at H
   simp only[hl,ha,cond_true,cond_false]at H
   split at H
   ·rename_i t x Z
    split at H
    ·rename_i c hc
     exact⟨t,x,c,Z,hc,H.1⟩
    ·exact H.elim
   ·exact H.elim
def wU(P:Program)(n:Nat)(h:zb)(K:Env->Prop):List Oper->Env->Prop
 |[],e=>K e
 |o::l,e=>bif ze o then(bif qk n [] o.dst then(bif jc o.op then(bif known e [] o.op.operands.toList then qS P o (rho e []) h λv=>wU P n h K l (putO e o.dst [] v)else False)else False)else False)else wU P n h K l e
def wT(P:Program)(n:Nat)(ops:Array Oper)(h0:zb)(K:Env->zb->Prop):List Nat->List Nat->Env->zb->Prop
 |_,[],e,h=>K (clean e) h
 |T,j::l,e,h=>match ops[j]? with
  |some o=>bif qk n [] o.dst then opW P o e [] h λv h'=>(bif zfd ops (j::T) ops.size then znh ops (j::T) (putO e o.dst [] v) h0 h' ops.size/\wT P n ops h0 K (j::T) l (putO e o.dst [] v) h' else wT P n ops h0 K (j::T) l (putO e o.dst [] v) h')else False
  |none=>False
def qf:Nat->List Oper->(Nat->Value)->Act->Act
 |_,[],_,a=>a
 |k,o::l,f,a=>qf (k+1) l f (bif ze o then a.put o.dst (f k)else a)
theorem yi{a b:Act}:∀{l:List Operand},(∀t∈tmpsOf l,zm a t=zm b t)->∀x∈l,a.eval x=b.eval x
 |[],_,x,hx=>by cases hx
 |y::l,h,x,hx=>by
  rcases Ai.1 hx with rfl|hx
  ·cases x with
   |tmp t=>exact h t (by simp[tmpsOf])
   |const v=>rfl
   |global g=>rfl
   |func f=>rfl
  ·refine yi (l:=l) (λt ht=>h t ?_) x hx
   cases y <;> simp[tmpsOf,ht]
theorem yj(hs:jc o.op=true)(h:∀t∈tmpsOf o.op.operands.toList,zm a t=zm b t):execOp a.eval o=execOp b.eval o:=
 execOp_congr o (λcs b hb=>by rw[hb]at hs;cases hs) λx hx=>yi h x (by simpa using hx)
theorem zni{q:Addr}(e:h'[q.block]?=h[q.block]?):zc h' q=zc h q:=by unfold zc;rw[e]
theorem z4n(q:Addr)(i:Nat):(q.add i).block=q.block:=by unfold Af;split <;> rfl
theorem ziv{h h':zb}{q:Addr}(e:h'[q.block]?=h[q.block]?):∀{vs:List Value} {i:Nat},zh h q i vs->zh h' q i vs
 |[],_,_=>trivial
 |_::_,i,⟨h1,h2⟩=>⟨(zni (q:=q.add i) (by rw[z4n];exact e)).trans h1,ziv e h2⟩
theorem W4(hq:ze o=true){K:Value->Prop}(H:qS P o ρ h K):
  ∃v,K v/\∀h',(zj o=false\/ztr o ρ h h')->QExec P (execOp ρ o) h' (.value v):=by
 unfold qS at H
 cases ho:o.op with
 |load t x=>
  rw[ho]at H
  simp only at H
  unfold w8 at H
  rw[ho]at H
  simp only at H
  unfold ziz at H
  split at H
  ·rename_i q b hp hv
   obtain⟨y,h1,h2⟩:=H
   refine⟨_,h2,λh' hk=>?_⟩
   have hb:h'[q.block]?=h[q.block]?:=by
    rcases hk with hk|hk
    ·unfold zj Xt at hk;rw[ho]at hk;cases hk
    ·unfold ztr at hk;rw[ho]at hk;exact hk q hp
   simp only[execOp,ho,hp]
   exact(zbh hv (by rw[zni hb];exact h1.out trivial)).val
  ·rename_i q l hp hv
   obtain⟨vs,h0,⟨h1,h2⟩,_⟩:=Zu H (jf l)
   refine⟨_,h2,λh' hk=>?_⟩
   have hb:h'[q.block]?=h[q.block]?:=by
    rcases hk with hk|hk
    ·unfold zj Xt at hk;rw[ho]at hk;cases hk
    ·unfold ztr at hk;rw[ho]at hk;exact hk q hp
   simp only[execOp,ho,hp]
   exact(zbi hv h0 (ziv hb (h1.out trivial))).val
  ·exact H.elim
 |fieldAddr t x i=>
  rw[ho]at H
  simp only at H
  unfold w8 at H;rw[ho]at H
  obtain⟨v,h1,h2⟩:=zn H none
  exact⟨v,h1,λh' _=>h2 trivial h'⟩
 |indexAddr t x i=>
  rw[ho]at H
  simp only at H
  unfold w8 at H;rw[ho]at H
  simp only at H
  cases he:J7 P t with
  |false=>rw[he]at H;exact H.elim
  |true=>
   rw[he]at H
   obtain⟨v,h1,h2⟩:=wa (j7 he) H
   refine⟨v,h1,λh' _=>?_⟩
   simp only[execOp,ho]
   exact(h2 trivial h').val
 |move x=>
  rw[ho]at H
  simp only at H
  unfold w8 at H;rw[ho]at H
  obtain⟨v,h1,h2⟩:=zn H none
  exact⟨v,h1,λh' _=>h2 trivial h'⟩
 |assign x=>
  rw[ho]at H
  simp only at H
  unfold w8 at H;rw[ho]at H
  obtain⟨v,h1,h2⟩:=zn H none
  exact⟨v,h1,λh' _=>h2 trivial h'⟩
 |binOp op t x y t'=>
  rw[ho]at H
  simp only at H
  unfold w8 at H;rw[ho]at H
  simp only at H
  obtain⟨v,h1,h2⟩:=zi0 ho H
  exact⟨v,h1,λh' _=>h2 trivial h'⟩
 |call c=>
  rw[ho]at H
  simp only at H
  obtain⟨v,h1,h2⟩:=zn H none
  exact⟨v,h1,λh' _=>h2 trivial h'⟩
 |_=>unfold ze Xt at hq;rw[ho]at hq;cases hq
theorem qg(σ:Nat->Value):valid σ []:=by unfold valid;trivial
theorem Zv:∀{l:List Oper} {k:Nat} {f:Nat->Value} {a:Act},(qf k l f a).tmps.size=a.tmps.size/\(qf k l f a).defers=a.defers
 |[],_,_,_=>⟨rfl,rfl⟩
 |o::l,k,f,a=>by
  unfold qf
  have:=Zv (l:=l) (k:=k+1) (f:=f) (a:=bif ze o then a.put o.dst (f k)else a)
  rw[this.1,this.2]
  cases ze o with
  |true=>exact⟨size_put _ _ _,zy _ _ _⟩
  |false=>exact⟨rfl,rfl⟩
theorem zk{d:Option Nat}{u:Value}{s:Nat}(h:d≠some s):zm (a.put d u) s=zm a s:=by
 cases d with
 |none=>rfl
 |some t=>exact qe λe=>h (by rw[e])
theorem yd{s:Nat}:∀{l:List Oper} {k:Nat} {f:Nat->Value} {a:Act},(∀o∈l,ze o=true->o.dst≠some s)->zm (qf k l f a) s=zm a s
 |[],_,_,_,_=>rfl
 |o::l,k,f,a,h=>by
  unfold qf
  rw[yd λo' Z=>h o' (Ag _ Z)]
  cases hq:ze o with
  |true=>exact zk (h o Am hq)
  |false=>rfl
theorem Qk{P:Program}{n:Nat}{h:zb}{K:Env->Prop}:∀{l:List Oper} {k:Nat} {e:Env} {a:Act},wU P n h K l e->Sat n e a->∃(f:Nat->Value) (e':Env),K e'/\Sat n e' (qf k l f a) /\
  ∀i o,l[i]?=some o->ze o=true->jc o.op=true/\qk n [] o.dst=true/\∀h',(zj o=false\/ztr o (qf k (l.take i) f a).eval h h')->QExec P (execOp (qf k (l.take i) f a).eval o) h' (.value (f (k+i)))
 |[],k,e,a,H,hs=>⟨λ_=>undef,e,H,hs,λi o h=>by simp at h⟩
 |o::l,k,e,a,H,hs=>by
  unfold wU at H
  cases hq:ze o with
  |false=>
   rw[hq]at H
   obtain⟨f,e',h1,h2,h3⟩:=Qk (k:=k+1) H hs
   refine⟨f,e',h1,by unfold qf;rw[hq];exact h2,λi o' hi Z=>?_⟩
   cases i with
   |zero=>simp at hi;subst hi;rw[hq]at Z;cases Z
   |succ i=>
    have:=h3 i o' (by simpa using hi) Z
    rw[Cs]
    unfold qf
    rw[hq,show k+(i+1)=k+1+i by omega];exact this
  |true=>
   rw[hq]at H
   simp only[cond_true]at H
   cases hd:qk n [] o.dst with
   |false=>rw[hd]at H;exact H.elim
   |true=>
    rw[hd]at H
    simp only[cond_true]at H
    cases hns:jc o.op with
    |false=>rw[hns]at H;exact H.elim
    |true=>
     rw[hns]at H
     simp only[cond_true]at H
     cases hk:known e [] o.op.operands.toList with
     |false=>rw[hk]at H;exact H.elim
     |true=>
      rw[hk]at H
      simp only[cond_true]at H
      obtain⟨v,H1,H2⟩:=W4 hq H
      obtain⟨f,e',h1,h2,h3⟩:=Qk (k:=k+1) (a:=a.put o.dst v) H1 (hs.putO hd (λ_=>rfl) λhv=>absurd (qg _) hv)
      have hf:∀(m:List Oper) (j:Nat) (b:Act),qf (k+1+j) m (λx=>if x=k then v else f x) b=qf (k+1+j) m f b:=by
       intro m
       induction m with
       |nil=>intro j b;rfl
       |cons o' m ih=>
        intro j b
        unfold qf
        dsimp only
        rw[if_neg (show¬k+1+j=k by omega),show k+1+j+1=k+1+(j+1)by omega,ih]
      refine⟨λx=>if x=k then v else f x,e',h1,?_,λi o' hi Z=>?_⟩
      ·unfold qf
       rw[hq,cond_true]
       dsimp only
       rw[if_pos rfl]
       have:=hf l 0 (a.put o.dst v)
       rw[CQ]at this
       rw[this];exact h2
      ·cases i with
       |zero=>
        simp at hi;subst hi
        rw[DV,CQ]
        dsimp only
        rw[if_pos rfl]
        refine⟨hns,hd,λh' hh=>?_⟩
        show QExec P (execOp a.eval o) h' _
        rw[Qi hs (qg _) hns hk]
        exact H2 h' (hh.imp id λr=>zdq (λx hx=>j6 hs (qg _) hk x hx) r)
       |succ i=>
        have:=h3 i o' (by simpa using hi) Z
        rw[Cs]
        unfold qf
        rw[hq,cond_true]
        dsimp only
        rw[if_pos rfl]
        have e2:=hf (l.take i) 0 (a.put o.dst v)
        rw[CQ]at e2
        rw[e2,if_neg (show¬k+(i+1)=k by omega),show k+(i+1)=k+1+i by omega]
        exact this
theorem Q9{next:Act->World->Prop}{Q:Exit->Act->World->Prop}{r:Result Next}(hb:b.defers=[])
  (H:o.upon P b (λc w=>c.defers=[]/\∀v,c=b.put o.dst v->next (a.put o.dst v) w) (λ_ _ _=>False) r):o.upon P a next Q r:=by
 have lo:¬LetsOut (λ(_:Exit) (_:Act) (_:World)=>False):=λh=>by
  obtain⟨_,_,h⟩:=h
  exact h
 cases r with
 |ok x w=>
  cases x with
  |value v=>exact H.2 v rfl
  |skip=>exact H.2 undef rfl
  |defer d=>
   have:=H.1
   rw[zy]at this;cases this
  |enter f args=>
   refine Calls.mono (show Calls P f args w _ from H) λe w' he=>?_
   cases e with
   |returned v=>exact he.2 v rfl
   |panicked c=>exact he.elim
   |outgrown=>exact absurd he lo
  |row row args=>exact Rows.mono (show Rows P row args w _ from H) λv w' he=>he.2 v rfl
  |_=>exact H
 |halt x w=>cases x <;> first|exact H.elim|exact H
theorem qp{j:Nat}:∀{l:List Oper} {k:Nat},j∈zl k l↔k<=j/\∃o,l[j-k]?=some o/\ze o=false
 |[],k=>by simp[zl]
 |o::l,k=>by
  unfold zl
  cases hq:ze o with
  |true=>
   rw[cond_true,qp (l:=l)]
   constructor
   ·rintro⟨h1,o',h2,h3⟩
    exact⟨by omega,o',by rw[show j-k=(j-(k+1))+1 by omega];simpa using h2,h3⟩
   ·rintro⟨h1,o',h2,h3⟩
    rcases Dh h1 with e|e
    ·subst e
     simp at h2;subst h2;rw[hq]at h3;cases h3
    ·exact⟨by omega,o',by rw[show j-k=(j-(k+1))+1 by omega]at h2;simpa using h2,h3⟩
  |false=>
   rw[cond_false,Ai,qp (l:=l)]
   constructor
   ·rintro(rfl|⟨h1,o',h2,h3⟩)
    ·exact⟨Ad _,o,by simp,hq⟩
    ·exact⟨by omega,o',by rw[show j-k=(j-(k+1))+1 by omega];simpa using h2,h3⟩
   ·rintro⟨h1,o',h2,h3⟩
    rcases Dh h1 with e|e
    ·exact .inl e.symm
    ·exact .inr ⟨by omega,o',by rw[show j-k=(j-(k+1))+1 by omega]at h2;simpa using h2,h3⟩
theorem yf:∀{l:List Oper} {k:Nat},(zl k l).Nodup
 |[],_=>List.nodup_nil
 |o::l,k=>by
  unfold zl
  cases ze o with
  |true=>exact yf
  |false=>exact DO.2 ⟨λh=>by have:=(qp.1 h).1;omega,yf⟩
theorem qn{ops:Array Oper}:∀{m:Nat},Q8 ops m=true->∀k o,k<m->ops[k]?=some o->yw ops k (tmpsOf o.op.operands.toList) ops.size=true/\(ze o=true->∀j∈zl 0 ops.toList,Region.waitsFor .any ops k j=true->∀t,yh ops j=some t->t∉tmpsOf o.op.operands.toList)
 |0,_,k,o,hk,_=>by omega
 |m+1,h,k,o,hk,ho=>by
  unfold Q8 at h
  split at h
  ·rename_i o' Z
   cases hs:yw ops m (tmpsOf o'.op.operands.toList) ops.size with
   |false=>rw[hs]at h;cases h
   |true=>
    rw[hs,cond_true]at h
    rcases AF k m with h1|h1
    ·refine qn (m:=m) ?_ k o h1 ho
     revert h
     cases(bif ze o' then(zl 0 ops.toList).all λj=>!(Region.waitsFor .any ops m j)||(match yh ops j with
      |some t=>!(memN (tmpsOf o'.op.operands.toList) t)
      |none=>true)else true) <;> intro h <;> first|exact h|cases h
    ·have:k=m:=by omega
     subst this
     have:o'=o:=Aq (Z.symm.trans ho)
     subst this
     refine⟨hs,λhq j hj hw t ht=>?_⟩
     rw[hq,cond_true]at h
     cases hall:(zl 0 ops.toList).all λj=>!(Region.waitsFor .any ops k j)||(match yh ops j with
      |some t=>!(memN (tmpsOf o'.op.operands.toList) t)
      |none=>true)with
     |false=>rw[hall]at h;cases h
     |true=>
      have:=A4.1 hall j hj
      rw[hw,ht]at this
      simp only[Bool.not_true,Dl,C3]at this
      exact wb this
  ·rename_i Z
   rw[cond_true]at h
   rcases AF k m with h1|h1
   ·exact qn h k o h1 ho
   ·have:k=m:=by omega
    subst this
    rw[Z]at ho;cases ho
theorem Zz{ops:Array Oper}:∀{l:List Nat},Q7 ops l=true->∀q i j,l[q]?=some i->l[q+1]?=some j->Region.waitsFor .any ops j i=true
 |[],_,q,i,j,h,_=>by simp at h
 |[_],_,q,i,j,_,h=>by simp at h
 |a::b::l,h,q,i,j,h1,h2=>by
  unfold Q7 at h
  cases hw:Region.waitsFor .any ops b a with
  |false=>rw[hw]at h;cases h
  |true=>
   rw[hw,cond_true]at h
   cases q with
   |zero=>simp at h1 h2;subst h1;subst h2;exact hw
   |succ q=>exact Zz h q i j (by simpa using h1) (by simpa using h2)
theorem we{ops:Array Oper}{i:Nat}:∀{l:List Nat},jh ops i l=true->∃j∈l,Region.waitsFor .any ops j i=true
 |[],h=>by cases h
 |j::l,h=>by
  unfold jh at h
  cases hw:Region.waitsFor .any ops j i with
  |true=>exact⟨j,Am,hw⟩
  |false=>
   rw[hw,cond_false]at h
   obtain⟨j',h1,h2⟩:=we h
   exact⟨j',Ag _ h1,h2⟩
theorem Ya{ops:Array Oper}{T:List Nat}:∀{m:Nat},zfd ops T m=false->∀k o,k<m->ops[k]?=some o->zj o=true->jh ops k T=true
 |0,_,k,o,hk,_,_=>by omega
 |m+1,h,k,o,hk,ho,hl=>by
  unfold zfd at h
  cases hb:(match ops[m]? with
   |some o=>bif zj o then !(jh ops m T)else false
   |none=>false)with
  |true=>rw[hb]at h;cases h
  |false=>
   rw[hb,cond_false]at h
   rcases AF k m with h1|h1
   ·exact Ya h k o h1 ho hl
   ·have:k=m:=by omega
    subst this
    rw[ho]at hb
    simp only[hl,cond_true,Bool.not_eq_false']at hb
    exact hb
theorem jm{i p:Nat}(hi:i∈Region.ready .any ops listed)(hw:Region.waitsFor .any ops i p=true):listed.getD p false=true:=by
 obtain⟨oj,ab,e,he,hb,aa⟩:=Region.waitsFor_spec hw
 obtain⟨_,o,ho,Z⟩:=mem_ready.1 hi
 have:oj=o:=Aq (ab.symm.trans ho)
 subst this
 rw[<-aa];exact Z e he hb
theorem qq(inv:HeadInv .any ops n listed){i p:Nat}(hi:listed.getD i false=true)(hw:Region.waitsFor .any ops i p=true):listed.getD p false=true:=by
 obtain⟨oj,aa,e,he,hb,Z⟩:=Region.waitsFor_spec hw
 rw[<-Z];exact inv.closed i oj aa hi e he hb
theorem Z0{p:Nat->Bool}{N:Nat}(h:∃k,k<N/\p k=false):∃k,k<N/\p k=false/\∀j,j<k->p j=true:=by
 obtain⟨k,h1,h2⟩:=h
 induction k using Nat.strongRecOn with
 |_ k ih=>
  by_cases hm:∃j,j<k/\p j=false
  ·obtain⟨j,h3,h4⟩:=hm
   exact ih j h3 (by omega) h4
  ·exact⟨k,h1,h2,λj hj=>by
    cases hb:p j with
    |true=>rfl
    |false=>exact absurd ⟨j,hj,hb⟩ hm⟩
theorem J9(h:zrw ops=true):jz ops.toList=true/\qd ops ops.size=true/\jl ops ops.size=true/\Q7 ops (zl 0 ops.toList)=true/\Q8 ops ops.size=true:=by
 unfold zrw at h
 cases h1:jz ops.toList <;> cases h2:qd ops ops.size <;> cases h3:jl ops ops.size <;> cases h4:Q7 ops (zl 0 ops.toList) <;> simp[h1,h2,h3,h4]at h ⊢
 exact h
theorem Zm{l:List Oper}(h:jz l=true):∀o∈l,o.guard=none/\jc o.op=true:=by
 intro o ho
 have:=A4.1 h o ho
 cases hg:o.guard with
 |none=>rw[hg]at this;exact⟨rfl,this⟩
 |some g=>rw[hg]at this;cases this
theorem wh:∀{l m:List Oper} {k:Nat} {f:Nat->Value} {a:Act},qf k (l++m) f a=qf (k+l.length) m f (qf k l f a)
 |[],m,k,f,a=>rfl
 |o::l,m,k,f,a=>by
  have e:∀l',qf k (o::l') f a=qf (k+1) l' f (bif ze o then a.put o.dst (f k)else a):=λ_=>rfl
  rw[Bu,e,e,wh,show k+1+l.length=k+(o::l).length by simp;omega]
theorem toL(ho:ops[i]?=some o):ops.toList[i]?=some o:=by rw[BB];exact ho
theorem ofL(ho:ops.toList[i]?=some o):ops[i]?=some o:=by rw[BB]at ho;exact ho
structure StM (P:Program) (n:Nat) (ops:Array Oper) (h0:zb) (K:Env->zb->Prop) (f:Nat->Value) (a0:Act) (listed:Array Bool) (a b:Act) (e:Env) (h:zb) (done todo:List Nat):Prop where
 inv:HeadInv .any ops ops.size listed
 ag:∀s,(∀i o,ops[i]?=some o->ze o=true->listed.getD i false=false->o.dst≠some s)->zm a s=zm b s
 sz:a.tmps.size=n
 ad:a.defers=[]
 sb:Sat n e b
 qv:∀i o t,ops[i]?=some o->ze o=true->o.dst=some t->zm b t=f i/\t<n
 qx:∀i o,ops[i]?=some o->ze o=true->∀h',(zj o=false\/ztr o b.eval h0 h')->QExec P (execOp b.eval o) h' (.value (f i))
 tt:zl 0 ops.toList=done.reverse++todo
 ch:∀j,j∈zl 0 ops.toList->(listed.getD j false=true↔j∈done)
 wt:wT P n ops h0 K done todo e h
 kp:∀i o,ops[i]?=some o->zj o=true->listed.getD i false=false->ztr o b.eval h0 h
 sm:Same (yn ops.toList) a0 a
theorem xo{o:Oper}:∀{l:List Oper},o∈l->∀i,o.dst=some i->i∈yn l
 |[],h,_,_=>by cases h
 |x::l,h,i,hi=>by
  unfold yn
  rcases Ai.1 h with rfl|h
  ·rw[hi];exact Am
  ·have:=xo h i hi
   split
   ·exact Ag _ this
   ·exact this
theorem zf{k:Nat}(h:ops[k]?=some o):yh ops k=o.dst:=by simp[yh,h]
theorem znv{h0:zb}{K:Env->zb->Prop}{Q:Exit->Act->World->Prop}(B:World)(bj:zrw ops=true){f:Nat->Value}{a0:Act}
  (hQ:∀e' a' d' h',Sat n e' a'->Same (yn ops.toList) a0 a'->K e' h'->Q .normal a' (mk B d' h')):
  ∀(N:Nat) (U:List Nat) (listed:Array Bool) (a b:Act) (e:Env) (h:zb) (d:Nat) (done todo:List Nat),U.length=N->U.Nodup->(∀k,k∈U↔k<ops.size/\listed.getD k false=false) ->
   StM P n ops h0 K f a0 listed a b e h done todo->wpAny P .any ops Q N listed a (mk B d h):=by
 obtain⟨bC,aP,bI,aF,ar⟩:=J9 bj
 have bh:∀(i:Nat) (o:Oper),ops[i]?=some o->o.guard=none/\jc o.op=true:=λi o ho=>Zm bC o (by
  obtain⟨ab,e⟩:=Ac.1 ho
  rw[<-e];simp)
 have bB:∀{listed:Array Bool} {a b:Act} {e:Env} {h:zb} {d:Nat} {done todo:List Nat},(∀k,k<ops.size->listed.getD k false=true)->StM P n ops h0 K f a0 listed a b e h done todo->Q .normal a (mk B d h):=by
  intro listed a b e h d done todo ae S
  have ak:todo=[]:=by
   cases todo with
   |nil=>rfl
   |cons j l=>
    have hj:j∈zl 0 ops.toList:=by rw[S.tt];simp
    have ab:j<ops.size:=by
     obtain⟨_,o,ho,_⟩:=qp.1 hj
     have:=(Au.1 ho).1
     simpa using this
    have hd:=(S.ch j hj).1 (ae j ab)
    have hn:=yf (l:=ops.toList) (k:=0)
    rw[S.tt,BQ]at hn
    exact absurd rfl (hn.2.2 j (by simpa using hd) j (by simp))
  have hw:=S.wt
  rw[ak]at hw
  unfold wT at hw
  have hv:∀s,zm a s=zm b s:=λs=>S.ag s λi o ho hq hl=>by
   rw[ae i (Ac.1 ho).1]at hl;cases hl
  have hs:Sat n e a:=⟨S.ad,S.sz,λx hx=>by
   have:=S.sb.all x hx
   have e1:zm a=zm b:=funext hv
   rw[e1];exact this⟩
  exact hQ _ _ _ _ hs.clean S.sm hw
 intro N
 induction N with
 |zero=>
  intro U listed a b e h d done todo hU _ ah S
  have bM:U=[]:=AW.1 hU
  subst bM
  have ae:∀k,k<ops.size->listed.getD k false=true:=λk hk=>by
   cases hb:listed.getD k false with
   |true=>rfl
   |false=>exact absurd ((ah k).2 ⟨hk,hb⟩) (by simp)
  refine⟨?_,bB ae S⟩
  rw[CG]
  intro j hj
  obtain⟨h1,o,ho,_⟩:=mem_ready.1 hj
  have ab:=(Ac.1 ho).1
  have:=ae j ab
  have h2:=getD_both h1
  rw[this]at h2;cases h2
 |succ N ih=>
  intro U listed a b e h d done todo hU aL ah S
  have br:∃k,k<ops.size/\listed.getD k false=false:=by
   cases U with
   |nil=>cases hU
   |cons k U=>exact⟨k,(ah k).1 Am⟩
  refine⟨λhr=>?_,λi hi=>?_⟩
  ·exfalso
   obtain⟨k,ay,aO,bO⟩:=Z0 br
   have:k∈Region.ready .any ops listed:=mem_ready.2 ⟨by rw[<-aO];simp[S.inv.size,ay],ops[k],AJ ay,λx hx hb=>bO _ (zu aP k ops[k] ay (AJ ay) x hx hb)⟩
   rw[hr]at this;cases this
  ·obtain⟨bm,o,ho,ae⟩:=mem_ready.1 hi
   have aA:listed.getD i false=false:=getD_both bm
   have ab:i<ops.size:=(Ac.1 ho).1
   obtain⟨hg,bD⟩:=bh i o ho
   have aH:i<listed.size:=by rw[S.inv.size];exact ab
   have a7:(U.erase i).length=N:=by rw[CH ((ah i).2 ⟨ab,aA⟩),hU];rfl
   have an:(U.erase i).Nodup:=aL.erase i
   have au:∀k,k∈U.erase i↔k<ops.size/\(listed.setIfInBounds i true).getD k false=false:=λk=>by
    rw[aL.mem_erase_iff,ah k]
    by_cases hk:i=k
    ·subst hk;simp[aH]
    ·rw[getD_set_ne false hk];exact⟨λhx=>hx.2,λhx=>⟨λe=>hk e.symm,hx⟩⟩
   have am:=S.inv.set hi ab
   have aj:∀k,k≠i->(listed.setIfInBounds i true).getD k false=listed.getD k false:=λk hk=>getD_set_ne false (Ne.symm hk)
   have af:(listed.setIfInBounds i true).getD i false=true:=by simp[aH]
   obtain⟨aE,bQ⟩:=qn ar i o ab ho
   have bq:∀t∈tmpsOf o.op.operands.toList,zm a t=zm b t:=λt ht=>S.ag t λk ok Z hq hl hd=>by
    have hw:=zz aE k t (Ac.1 Z).1 (by rw[zf Z,hd]) ht
    rw[jm hi hw]at hl;cases hl
   have aN:=yj bD bq
   unfold wpOp
   rw[ho]
   simp only
   have aM:Bl o (yielded ops a.tmps)=true:=by unfold Bl;rw[hg]
   rw[if_pos aM]
   left
   unfold Oper.wp
   rw[aN]
   cases hq:ze o with
   |true=>
    have hx:=S.qx i o ho hq h (by
     cases hl:zj o with
     |false=>exact .inl rfl
     |true=>exact .inr (S.kp i o ho hl aA)) B d
    rw[hx,Oper.upon_value]
    have be:i∉zl 0 ops.toList:=λhm=>by
     obtain⟨_,o',bn,a1⟩:=qp.1 hm
     rw[CU]at bn
     have:o'=o:=by
      have h2:ops[i]?=some o':=ofL bn
      exact Aq (h2.symm.trans ho)
     subst this;rw[hq]at a1;cases a1
    refine ih _ _ _ b e h d done todo a7 an au { S with inv:=am,ag:=λs hs=>?_,sz:=by rw[size_put];exact S.sz,ad:=by rw[zy];exact S.ad,ch:=λj hj=>?_,kp:=λk ok Z hl hk=>?_,sm:=S.sm.trans (Same.put a o.dst _ λt ht=>xo (by
     obtain⟨bH,e2⟩:=Ac.1 ho
     rw[<-e2];simp) t ht) }
    ·by_cases hd:o.dst=some s
     ·obtain⟨hv,aB⟩:=S.qv i o s ho hq hd
      rw[hd,qi (by rw[S.sz];exact aB),hv]
     ·rw[zk hd]
      refine S.ag s λk ok Z aa aY=>?_
      by_cases ai:k=i
      ·subst ai
       have:ok=o:=Aq (Z.symm.trans ho)
       subst this;exact hd
      ·exact hs k ok Z aa (by rw[aj k ai];exact aY)
    ·have:j≠i:=λe=>be (e ▸ hj)
     rw[aj j this];exact S.ch j hj
    ·by_cases ai:k=i
     ·subst ai;rw[af]at hk;cases hk
     ·rw[aj k ai]at hk;exact S.kp k ok Z hl hk
   |false=>
    have aU:i∈zl 0 ops.toList:=qp.2 ⟨CK _,o,by rw[CU];exact toL ho,hq⟩
    have aI:=yf (l:=ops.toList) (k:=0)
    have aC:i∉done:=λhd=>by rw[(S.ch i aU).2 hd]at aA;cases aA
    have ak:∃rest,todo=i::rest:=by
     have bo:i∈todo:=by
      have:=aU
      rw[S.tt,Aw]at this
      rcases this with h1|h1
      ·exact absurd (by simpa using h1) aC
      ·exact h1
     cases todo with
     |nil=>cases bo
     |cons j rest=>
      rcases Ai.1 bo with rfl|hr
      ·exact⟨rest,rfl⟩
      ·exfalso
       obtain⟨m,hm,em⟩:=AY hr
       have hp:∃pr,(j::rest)[m]?=some pr:=⟨_,Ak (by simp;omega)⟩
       obtain⟨pr,ba⟩:=hp
       have hw:=Zz aF (done.reverse.length+m) pr i (by rw[S.tt,A6 (by omega),C7];exact ba) (by
        rw[S.tt,A6 (by omega),show done.reverse.length+m+1-done.reverse.length=m+1 by omega,List.getElem?_cons_succ,Ak hm,em])
       have aJ:pr∈j::rest:=Ba ba
       have bi:pr∈zl 0 ops.toList:=by rw[S.tt];exact Av _ aJ
       have hd:=(S.ch pr bi).1 (jm hi hw)
       rw[S.tt,BQ]at aI
       exact aI.2.2 pr (by simpa using hd) pr aJ rfl
    obtain⟨rest,rfl⟩:=ak
    have hW:=S.wt
    unfold wT at hW
    rw[ho]at hW
    simp only at hW
    cases hd:qk n [] o.dst with
    |false=>rw[hd]at hW;exact hW.elim
    |true=>
     rw[hd,cond_true]at hW
     refine Q9 (b:=b) S.sb.defers ?_
     refine zfb hW S.sb (qg _) B d λv d' h' hK=>⟨by rw[zy];exact S.sb.defers,λv2 bG=>?_⟩
     have bP:b.put o.dst v2=b.put o.dst v:=bG.symm
     have aG:∀j,j∈zl 0 ops.toList->((listed.setIfInBounds i true).getD j false=true↔j∈i::done):=λj hj=>by
      by_cases aZ:j=i
      ·subst aZ;rw[af];simp
      ·rw[aj j aZ,S.ch j hj];simp[aZ]
     have aS:zfd ops (i::done) ops.size=false->∀k ok,ops[k]?=some ok->zj ok=true->(listed.setIfInBounds i true).getD k false=true:=λhl k ok Z ap=>by
      obtain⟨j,hj,hw⟩:=we (Ya hl k ok (Ac.1 Z).1 Z ap)
      have aV:(listed.setIfInBounds i true).getD j false=true:=by
       rcases Ai.1 hj with rfl|hj
       ·exact af
       ·exact getD_set_true ((S.ch j (by rw[S.tt];simp[hj])).2 hj)
      exact qq am aV hw
     have bg:wT P n ops h0 K (i::done) rest (putO e o.dst [] v) h'/\(∀k ok,ops[k]?=some ok->zj ok=true->(listed.setIfInBounds i true).getD k false=false->ztr ok (b.put o.dst v).eval h0 h'):=by
      cases hl:zfd ops (i::done) ops.size with
      |true=>
       rw[hl,cond_true]at hK
       refine⟨hK.2,λk ok Z ap hf=>?_⟩
       have bz:jh ops k (i::done)=false:=by
        cases ha:jh ops k (i::done)with
        |false=>rfl
        |true=>
         exfalso
         obtain⟨j,hj,hw⟩:=we ha
         have aV:(listed.setIfInBounds i true).getD j false=true:=by
          rcases Ai.1 hj with rfl|hj
          ·exact af
          ·exact getD_set_true ((S.ch j (by rw[S.tt];simp[hj])).2 hj)
         rw[qq am aV hw]at hf;cases hf
       obtain⟨t,x,c,bE,hc,hb⟩:=ziu hK.1 k ok (Ac.1 Z).1 Z ap bz
       unfold ztr
       rw[bE]
       intro c' a8
       have:=yc (S.sb.putO hd (λ_=>rfl) λhv=>absurd (qg _) hv) (c:=[]) (qg _) hc
       rw[this]at a8
       cases a8;exact hb
      |false=>rw[hl,cond_false]at hK;exact⟨hK,λk ok Z ap hf=>by rw[aS hl k ok Z ap]at hf;cases hf⟩
     have aT:∀k ok t,ops[k]?=some ok->ze ok=true->ok.dst=some t->o.dst≠some t:=λk ok t Z aa az ax=>by
      have:=qm bI k i t (Ac.1 Z).1 ab (by rw[zf Z,az]) (by rw[zf ho,ax])
      subst this
      have:ok=o:=Aq (Z.symm.trans ho)
      subst this;rw[hq]at aa;cases aa
     refine ih _ _ _ (b.put o.dst v) (putO e o.dst [] v) h' d' (i::done) rest a7 an au ⟨am,λs hs=>?_,by rw[size_put];exact S.sz,by rw[zy];exact S.ad,S.sb.putO hd (λ_=>rfl) λhv=>absurd (qg _) hv,λk ok t Z aa az=>?_,λk ok Z aa bJ hh=>?_,by rw[S.tt];simp,aG,bg.1,bg.2,S.sm.trans (Same.put a o.dst _ λt ht=>xo (by
      obtain⟨bH,e2⟩:=Ac.1 ho
      rw[<-e2];simp) t ht)⟩
     ·have bF:∀u,(∀k ok,ops[k]?=some ok->ze ok=true->listed.getD k false=false->ok.dst≠some s)->o.dst≠some s->zm (a.put o.dst u) s=zm (b.put o.dst v) s:=λu h1 h2=>by
       rw[zk h2,zk h2];exact S.ag s h1
      have bA:∀k ok,ops[k]?=some ok->ze ok=true->listed.getD k false=false->ok.dst≠some s:=λk ok Z aa aY=>by
       by_cases ai:k=i
       ·subst ai
        have:ok=o:=Aq (Z.symm.trans ho)
        subst this;rw[hq]at aa;cases aa
       ·exact hs k ok Z aa (by rw[aj k ai];exact aY)
      by_cases aQ:o.dst=some s
      ·rw[<-bP,aQ]
       have aB:s<n:=by
        rw[aQ]at hd
        unfold qk at hd
        simp at hd;exact hd.2
       rw[qi (by rw[S.sz];exact aB),qi (by rw[S.sb.size];exact aB)]
      ·exact bF v2 bA aQ
     ·have:=S.qv k ok t Z aa az
      rw[zk (aT k ok t Z aa az)];exact this
     ·have aO:=bh k ok Z
      have a6:∀t∈tmpsOf ok.op.operands.toList,zm (b.put o.dst v) t=zm b t:=λt ht=>by
       refine zk λax=>?_
       obtain⟨bu,bL⟩:=qn ar k ok (Ac.1 Z).1 Z
       have hw:=zz bu i t ab (by rw[zf ho,ax]) ht
       exact bL aa i aU hw t (by rw[zf ho,ax]) ht
      rw[yj (b:=b) aO.2 a6]
      exact S.qx k ok Z aa bJ (hh.imp id λr=>zdq (yi a6) r)
theorem zfe{K:Env->zb->Prop}{Q:Exit->Act->World->Prop}(B:World)(ae:zrw ops=true){e:Env}
  (H:wU P n h (λe'=>wT P n ops h K [] (zl 0 ops.toList) e' h) ops.toList e) (hs:Sat n e a)
  (hQ:∀e' a' d' h',Sat n e' a'->Same (yn ops.toList) a a'->K e' h'->Q .normal a' (mk B d' h')) (d:Nat):wpAny P .any ops Q ops.size (Be ops.size false) a (mk B d h):=by
 obtain⟨aE,ah,ay,ar,ai⟩:=J9 ae
 obtain⟨f,e1,HT,ap,hf⟩:=Qk (k:=0) H hs
 have hl:∀(i:Nat) (o:Oper),ops[i]?=some o->ops.toList[i]?=some o:=λi o ho=>toL ho
 have Z:∀i,qf 0 ops.toList f a=qf (0+(ops.toList.take i).length) (ops.toList.drop i) f (qf 0 (ops.toList.take i) f a):=λi=>by
  rw[<-wh,Ce]
 refine znv B ae (f:=f) hQ ops.size (BO ops.size) _ a (qf 0 ops.toList f a) e1 h d [] (zl 0 ops.toList) Dn C8 (λk=>by rw[BK,getD_replicate_false];simp) ⟨⟨by simp,λj oj _ hl=>(by rw[getD_replicate_false]at hl;cases hl),λt ht aC=>by omega⟩,λs aA=>?_,hs.size,hs.defers,ap,λi o t ho hq hd=>?_,λi o ho hq h' hh=>?_,by simp,λj hj=>by rw[getD_replicate_false];simp,HT,λ_ _ _ _ _=>zx0 _ _ _,Same.refl _ _⟩
 ·refine(yd λo ho hq=>?_).symm
  obtain⟨i,hi,e⟩:=AY ho
  exact aA i o (ofL (by rw[Ak hi,e])) hq (getD_replicate_false _ _)
 ·obtain⟨h1,h2,h3⟩:=hf i o (hl i o ho) hq
  have am:t<n:=by
   rw[hd]at h2
   unfold qk at h2
   simp at h2;exact h2.2
  refine⟨?_,am⟩
  have ab:=(Ac.1 ho).1
  have an:(ops.toList.take i).length=i:=by simp;omega
  rw[Z i,an,AB]
  have az:ops.toList.drop i=o::ops.toList.drop (i+1):=by
   have:=(Au.1 (hl i o ho))
   rw[Ay this.1,this.2]
  rw[az]
  unfold qf
  rw[hq,cond_true,yd λo' af ax aj=>?_]
  ·rw[hd,qi (by rw[Zv.1,hs.size];exact am)]
  ·obtain⟨m,hm,em⟩:=AY af
   have aa:ops[i+1+m]?=some o':=by
    have:ops.toList[i+1+m]?=some o':=by rw[<-AE,Ak hm,em]
    exact ofL this
   have:=qm ay i (i+1+m) t ab (Ac.1 aa).1 (by rw[zf ho,hd]) (by rw[zf aa,aj])
   omega
 ·obtain⟨h1,h2,h3⟩:=hf i o (hl i o ho) hq
  have ak:∀t∈tmpsOf o.op.operands.toList,zm (qf 0 ops.toList f a) t=zm (qf 0 (ops.toList.take i) f a) t:=λt ht=>by
   have ab:=(Ac.1 ho).1
   rw[Z i]
   refine yd λo' af ax aj=>?_
   obtain⟨m,hm,em⟩:=AY af
   have aa:ops[i+m]?=some o':=by
    have:ops.toList[i+m]?=some o':=by rw[<-AE,Ak hm,em]
    exact ofL this
   obtain⟨au,_⟩:=qn ai i o ab ho
   have hw:=zz au (i+m) t (Ac.1 aa).1 (by rw[zf aa,aj]) ht
   obtain⟨oj,aB,x,hx,hb,aF⟩:=Region.waitsFor_spec hw
   have:=zu ah i oj ab aB x hx hb
   omega
  have:=h3 h' (hh.imp id λr=>zdq (yi ak) r)
  rw[AB]at this
  rw[yj h1 ak]
  exact this
end
end Go.X.U
end
section
namespace Go.X
section
abbrev Rec:=LoopState->Option Code->Loop
end
section
def qbx(l:List Int):List Value:=l.map (D7 .i64)
structure LI (h0:zb) (M:Fr) (rec:Rec) (sp:Sl) (w x:Tr) (os:List Int) (g:zb):Prop where
 keep:Keep h0.size h0 g
 size:h0.size+7<=g.size
 v:∃sk si,Blk g h0.size (zmt w.kind w.text sk si).toArray/\Rd M (.row .str) w.keys [slV sk]/\Rd M (.row .tree) w.items [slV si]
 z:Blk g (h0.size+1) (zmt 0 ⟨#[]⟩ ⟨none,0,0⟩ ⟨none,0,0⟩).toArray
 o:∃so,Blk g (h0.size+2) #[slV so]/\Owns g (h0.size+7) 3 1 so (qbx os)/\so.len=os.length
 c:∃sk si,Blk g (h0.size+3) (zmt x.kind x.text sk si).toArray/\Rd M (.row .str) x.keys [slV sk]/\Rd M (.row .tree) x.items [slV si]
 p:Blk g (h0.size+4) #[slV sp]
 d:g[h0.size+5]?=some (.deferred (some []))
 l:g[h0.size+6]?=some (.loop (rec .ready none))
theorem LI.frame{h0:zb}{M:Fr}{rec:Rec}{sp:Sl}{w x:Tr}{os:List Int}{g g':zb}(I:LI h0 M rec sp w x os g)(k:Keep g.size g g'):LI h0 M rec sp w x os g':=by
 have hs:=I.size
 have hk:=k.size
 obtain⟨sk,si,v1,v2,v3⟩:=I.v
 obtain⟨so,o1,o2,o3⟩:=I.o
 obtain⟨tk,ti,c1,c2,c3⟩:=I.c
 exact⟨⟨by have:=I.keep.size;omega,λi hi=>(k.get i (by omega)).trans (I.keep.get i hi)⟩,by omega,⟨sk,si,v1.ofKeep k,v2,v3⟩,I.z.ofKeep k,⟨so,o1.ofKeep k,o2.keepN k,o3⟩,⟨tk,ti,c1.ofKeep k,c2,c3⟩,I.p.ofKeep k,by rw[k.get _ (by omega)];exact I.d,by rw[k.get _ (by omega)];exact I.l⟩
end
section
theorem OT.zero(h:zb):OT h zT [] (zmt 0 ⟨#[]⟩ ⟨none,0,0⟩ ⟨none,0,0⟩):=
 OT.mk (k:=0) (s:=⟨#[]⟩) (ks:=[]) (xs:=[]) (sk:=⟨none,0,0⟩) (si:=⟨none,0,0⟩) (bk:=[]) (bb:=[]) (b:=0) (cs:=#[]) (bf:=λ_=>[]) ⟨rfl,by simp,by simp,.inl ⟨rfl,rfl,rfl⟩⟩ ⟨rfl,by simp,by simp⟩ (.inl ⟨rfl,rfl,rfl⟩) (λi hi=>absurd hi (by simp)) (by simp)
end
section
def But(bs:List Nat)(h h':zb):Prop:=h.size<=h'.size/\∀i,i<h.size->i∉bs->h'[i]?=h[i]?
theorem But.refl(bs:List Nat)(h:zb):But bs h h:=⟨Ad _,λ_ _ _=>rfl⟩
theorem But.trans{bs:List Nat}{a b c:zb}(x:But bs a b)(y:But bs b c):But bs a c:=⟨DU x.1 y.1,λi hi hn=>(y.2 i (by have:=x.1;omega) hn).trans (x.2 i hi hn)⟩
end
end Go.X
end
section
namespace Go.X
open Go Go.X Go.Proofs Go.RowKit
section
theorem z4o:zej [32,91,49,46,48,44,32,34,92,117,48,48,54,49,34,93,32]=(.mk 5 (bl []) [] [.mk 3 (bl [49]) [] [],.mk 4 (bl [97]) [] []],17,0):=by kernel_rfl
theorem zps:Za [123,34,97,34,58,91,49,44,50,93,125]=(([123,34,97,34,58,91,49,44,50,93,125],[(6,(0,11),(0,0),[1],[(1,10)]),(5,(5,10),(1,4),[2,3],[(6,7),(8,9)]),(3,(6,7),(0,0),[],[]),(3,(8,9),(0,0),[],[])]),11,0):=by kernel_rfl
end
end Go.X
end
section
namespace Go.X
section
theorem qby:Yl (zp (Lib.itoa 1)).1=[49]:=by kernel_rfl
theorem z0d{l:List Bt}(h:l.length<=1000000)(h2:∀x∈l,x.size<=1048576):SL l:=⟨h,λx hx=>by rw[Wl];exact h2 x hx⟩
end
section
theorem zbe(h:zb)(R:Value->zb->Prop)
  (H:XC Tp 15 #[.string (⟨#[32,91,49,46,48,44,32,34,92,117,48,48,54,49,34,93,32]⟩:Bt)] h (λb c=>∃d e f g i j,b=.tuple #[.agg #[.int .i64 d,.string e,slV f,slV g],.int .i64 i,.int .i64 j]/\let k:=c.push (.cells #[.int .i64 0,.string (⟨#[]⟩:Bt),.slice none 0 0,.slice none 0 0] 26);XRunU Tp (Aj 26 (.pointer (some ⟨c.size,0,none⟩)) (.agg #[.int .i64 d,.string e,slV f,slV g])) k (λl=>XC Tp 19 #[.string (⟨#[123,34,97,34,58,91,49,44,50,93,125]⟩:Bt)] l (λm n=>∃o p q r,m=.tuple #[.agg #[.string o,slV p],.int .i64 q,.int .i64 r]/\let s:=n.push (.cells #[.string (⟨#[]⟩:Bt),.slice none 0 0] 36);XRunU Tp (Aj 36 (.pointer (some ⟨n.size,0,none⟩)) (.agg #[.string o,slV p])) s (λt=>∃u v,zh t ⟨n.size,0,none⟩ 0 [.string u,slV v]/\let w:=t.push (.cells #[.string (⟨#[97]⟩:Bt),.string (⟨#[49]⟩:Bt)] 9);XC Tp 23 #[.agg #[.string u,slV v],.slice (some ⟨t.size,0,none⟩) 2 2] w (λx y=>∃z A,x=.tuple #[.int .i64 z,.bool A]/\∃B C,zh y ⟨n.size,0,none⟩ 0 [.string B,slV C]/\XC Tp 21 #[.agg #[.string B,slV C],.int .i64 3] y (λD E=>∃F G I J L,D=.tuple #[.agg #[.int .i64 F,.string G,slV I,slV J],.bool L]/\let M:=E.push (.cells #[.int .i64 0,.string (⟨#[]⟩:Bt),.slice none 0 0,.slice none 0 0] 26);XRunU Tp (Aj 26 (.pointer (some ⟨E.size,0,none⟩)) (.agg #[.int .i64 F,.string G,slV I,slV J])) M (λN=>(∃O P Q S,((bif (j==0)then(i==17)else false)=true->zh N ⟨c.size,0,none⟩ 0 [.int .i64 O,.string P,slV Q,slV S])/\∃T:Value->zb->Prop,((bif (j==0)then(i==17)else false)=true->XC Tp 58 #[.int .i64 1] N (λU V=>∃W X Y Z,U=.agg #[.int .i64 W,.string X,slV Y,slV Z]/\T (.agg #[.int .i64 W,.string X,slV Y,slV Z]) V))/\((bif (j==0)then(i==17)else false)=false->∃aa ab ac ad,T (.agg #[.int .i64 aa,.string ab,slV ac,slV ad]) N)/\((bif (j==0)then(i==17)else false)=true->∀ae af,T ae af->∃ag ah ai aj,ae=.agg #[.int .i64 ag,.string ah,slV ai,slV aj])/\∀ak:Int,∀al:Bt,∀am an:Sl,∀ao,T (.agg #[.int .i64 ak,.string al,slV am,slV an]) ao->∃ap:Value->zb->Prop,((bif (j==0)then(i==17)else false)=true->XC Tp 28 #[.string (⟨#[97]⟩:Bt)] ao (λaq ar=>∃au av aw ax,aq=.agg #[.int .i64 au,.string av,slV aw,slV ax]/\ap (.agg #[.int .i64 au,.string av,slV aw,slV ax]) ar))/\((bif (j==0)then(i==17)else false)=false->∃ay az aA aB,ap (.agg #[.int .i64 ay,.string az,slV aA,slV aB]) ao)/\((bif (j==0)then(i==17)else false)=true->∀aC aD,ap aC aD->∃aE aF aG aH,aC=.agg #[.int .i64 aE,.string aF,slV aG,slV aH])/\∀aI:Int,∀aJ:Bt,∀aL aM:Sl,∀aN,ap (.agg #[.int .i64 aI,.string aJ,slV aL,slV aM]) aN->∃aO:Value->zb->Prop,((bif (j==0)then(i==17)else false)=true->let aP:=aN.push (.cells #[.int .i64 ak,.string al,slV am,slV an,.int .i64 aI,.string aJ,slV aL,slV aM] 26);aO (.slice (some ⟨aN.size,0,none⟩) 2 2) aP)/\((bif (j==0)then(i==17)else false)=false->∃aQ,aO (slV aQ) aN)/\((bif (j==0)then(i==17)else false)=true->∀aS aT,aO aS aT->∃aU,aS=slV aU)/\∀aV:Sl,∀aW,aO (slV aV) aW->∃aX:Value->zb->Prop,((bif (j==0)then(i==17)else false)=true->XC Tp 29 #[slV aV] aW (λaY aZ=>∃a0 a1 a2 a3,aY=.agg #[.int .i64 a0,.string a1,slV a2,slV a3]/\aX (.agg #[.int .i64 a0,.string a1,slV a2,slV a3]) aZ))/\((bif (j==0)then(i==17)else false)=false->∃a4 a5 a6 a7,aX (.agg #[.int .i64 a4,.string a5,slV a6,slV a7]) aW)/\((bif (j==0)then(i==17)else false)=true->∀a8 a9,aX a8 a9->∃ba bb bc bd,a8=.agg #[.int .i64 ba,.string bb,slV bc,slV bd])/\∀be:Int,∀bf:Bt,∀bg bh:Sl,∀bi,aX (.agg #[.int .i64 be,.string bf,slV bg,slV bh]) bi->∃bj:Value->zb->Prop,((bif (j==0)then(i==17)else false)=true->XC Tp 16 #[.agg #[.int .i64 O,.string P,slV Q,slV S],.agg #[.int .i64 be,.string bf,slV bg,slV bh]] bi (λbk bl=>∃bm,bk=.bool bm/\bj (.bool bm) bl))/\((bif (j==0)then(i==17)else false)=false->∃bn,bj (.bool bn) bi)/\((bif (j==0)then(i==17)else false)=true->∀bo bp,bj bo bp->∃bq,bo=.bool bq)/\∀br:Bool,∀bs,bj (.bool br) bs->∃bt,((bif (bif (bif (bif (bif (bif (j==0)then(i==17)else false)then br else false)then(r==0)else false)then(z==3)else false)then A else false)then L else false)=true->zc bs (Af ⟨E.size,0,none⟩ 1)=some (.string bt))/\R (.bool (bif (bif (bif (bif (bif (bif (bif (j==0)then(i==17)else false)then br else false)then(r==0)else false)then(z==3)else false)then A else false)then L else false)then(bt.toList==(⟨#[50]⟩:Bt).toList)else false)) bs)/\(∃bu:Value->zb->Prop,((bif (j==0)then(i==17)else false)=true->XC Tp 58 #[.int .i64 1] N (λbv bw=>∃bx bz bA bB,bv=.agg #[.int .i64 bx,.string bz,slV bA,slV bB]/\bu (.agg #[.int .i64 bx,.string bz,slV bA,slV bB]) bw))/\((bif (j==0)then(i==17)else false)=false->∃bC bD bE bF,bu (.agg #[.int .i64 bC,.string bD,slV bE,slV bF]) N)/\((bif (j==0)then(i==17)else false)=true->∀bG bH,bu bG bH->∃bI bJ bL bM,bG=.agg #[.int .i64 bI,.string bJ,slV bL,slV bM])/\∀bN:Int,∀bO:Bt,∀bP bQ:Sl,∀bS,bu (.agg #[.int .i64 bN,.string bO,slV bP,slV bQ]) bS->(∃bT bU bV bW,((bif (j==0)then(i==17)else false)=true->zh bS ⟨c.size,0,none⟩ 0 [.int .i64 bT,.string bU,slV bV,slV bW])/\∃bX:Value->zb->Prop,((bif (j==0)then(i==17)else false)=true->XC Tp 28 #[.string (⟨#[97]⟩:Bt)] bS (λbY bZ=>∃b0 b1 b2 b3,bY=.agg #[.int .i64 b0,.string b1,slV b2,slV b3]/\bX (.agg #[.int .i64 b0,.string b1,slV b2,slV b3]) bZ))/\((bif (j==0)then(i==17)else false)=false->∃b4 b5 b6 b7,bX (.agg #[.int .i64 b4,.string b5,slV b6,slV b7]) bS)/\((bif (j==0)then(i==17)else false)=true->∀b8 b9,bX b8 b9->∃ca cb cc cd,b8=.agg #[.int .i64 ca,.string cb,slV cc,slV cd])/\∀ce:Int,∀cf:Bt,∀cg ch:Sl,∀ci,bX (.agg #[.int .i64 ce,.string cf,slV cg,slV ch]) ci->∃cj:Value->zb->Prop,((bif (j==0)then(i==17)else false)=true->let ck:=ci.push (.cells #[.int .i64 bN,.string bO,slV bP,slV bQ,.int .i64 ce,.string cf,slV cg,slV ch] 26);cj (.slice (some ⟨ci.size,0,none⟩) 2 2) ck)/\((bif (j==0)then(i==17)else false)=false->∃cl,cj (slV cl) ci)/\((bif (j==0)then(i==17)else false)=true->∀cm cn,cj cm cn->∃co,cm=slV co)/\∀cp:Sl,∀cq,cj (slV cp) cq->∃cr:Value->zb->Prop,((bif (j==0)then(i==17)else false)=true->XC Tp 29 #[slV cp] cq (λcs ct=>∃cu cv cw cx,cs=.agg #[.int .i64 cu,.string cv,slV cw,slV cx]/\cr (.agg #[.int .i64 cu,.string cv,slV cw,slV cx]) ct))/\((bif (j==0)then(i==17)else false)=false->∃cy cz cA cB,cr (.agg #[.int .i64 cy,.string cz,slV cA,slV cB]) cq)/\((bif (j==0)then(i==17)else false)=true->∀cC cD,cr cC cD->∃cE cF cG cH,cC=.agg #[.int .i64 cE,.string cF,slV cG,slV cH])/\∀cI:Int,∀cJ:Bt,∀cL cM:Sl,∀cN,cr (.agg #[.int .i64 cI,.string cJ,slV cL,slV cM]) cN->∃cO:Value->zb->Prop,((bif (j==0)then(i==17)else false)=true->XC Tp 16 #[.agg #[.int .i64 bT,.string bU,slV bV,slV bW],.agg #[.int .i64 cI,.string cJ,slV cL,slV cM]] cN (λcP cQ=>∃cS,cP=.bool cS/\cO (.bool cS) cQ))/\((bif (j==0)then(i==17)else false)=false->∃cT,cO (.bool cT) cN)/\((bif (j==0)then(i==17)else false)=true->∀cU cV,cO cU cV->∃cW,cU=.bool cW)/\∀cX:Bool,∀cY,cO (.bool cX) cY->∃cZ,((bif (bif (bif (bif (bif (bif (j==0)then(i==17)else false)then cX else false)then(r==0)else false)then(z==3)else false)then A else false)then L else false)=true->zc cY (Af ⟨E.size,0,none⟩ 1)=some (.string cZ))/\R (.bool (bif (bif (bif (bif (bif (bif (bif (j==0)then(i==17)else false)then cX else false)then(r==0)else false)then(z==3)else false)then A else false)then L else false)then(cZ.toList==(⟨#[50]⟩:Bt).toList)else false)) cY)/\(∃c0:Value->zb->Prop,((bif (j==0)then(i==17)else false)=true->XC Tp 28 #[.string (⟨#[97]⟩:Bt)] bS (λc1 c2=>∃c3 c4 c5 c6,c1=.agg #[.int .i64 c3,.string c4,slV c5,slV c6]/\c0 (.agg #[.int .i64 c3,.string c4,slV c5,slV c6]) c2))/\((bif (j==0)then(i==17)else false)=false->∃c7 c8 c9 da,c0 (.agg #[.int .i64 c7,.string c8,slV c9,slV da]) bS)/\((bif (j==0)then(i==17)else false)=true->∀db dc,c0 db dc->∃dd de df dg,db=.agg #[.int .i64 dd,.string de,slV df,slV dg])/\∀dh:Int,∀di:Bt,∀dj dk:Sl,∀dl,c0 (.agg #[.int .i64 dh,.string di,slV dj,slV dk]) dl->(∃dm dn dp dq,((bif (j==0)then(i==17)else false)=true->zh dl ⟨c.size,0,none⟩ 0 [.int .i64 dm,.string dn,slV dp,slV dq])/\∃dr:Value->zb->Prop,((bif (j==0)then(i==17)else false)=true->let ds:=dl.push (.cells #[.int .i64 bN,.string bO,slV bP,slV bQ,.int .i64 dh,.string di,slV dj,slV dk] 26);dr (.slice (some ⟨dl.size,0,none⟩) 2 2) ds)/\((bif (j==0)then(i==17)else false)=false->∃dt,dr (slV dt) dl)/\((bif (j==0)then(i==17)else false)=true->∀du dv,dr du dv->∃dw,du=slV dw)/\∀dx:Sl,∀dy,dr (slV dx) dy->∃dz:Value->zb->Prop,((bif (j==0)then(i==17)else false)=true->XC Tp 29 #[slV dx] dy (λdA dB=>∃dC dD dE dF,dA=.agg #[.int .i64 dC,.string dD,slV dE,slV dF]/\dz (.agg #[.int .i64 dC,.string dD,slV dE,slV dF]) dB))/\((bif (j==0)then(i==17)else false)=false->∃dG dH dI dJ,dz (.agg #[.int .i64 dG,.string dH,slV dI,slV dJ]) dy)/\((bif (j==0)then(i==17)else false)=true->∀dL dM,dz dL dM->∃dN dO dP dQ,dL=.agg #[.int .i64 dN,.string dO,slV dP,slV dQ])/\∀dS:Int,∀dT:Bt,∀dU dV:Sl,∀dW,dz (.agg #[.int .i64 dS,.string dT,slV dU,slV dV]) dW->∃dX:Value->zb->Prop,((bif (j==0)then(i==17)else false)=true->XC Tp 16 #[.agg #[.int .i64 dm,.string dn,slV dp,slV dq],.agg #[.int .i64 dS,.string dT,slV dU,slV dV]] dW (λdY dZ=>∃d0,dY=.bool d0/\dX (.bool d0) dZ))/\((bif (j==0)then(i==17)else false)=false->∃d1,dX (.bool d1) dW)/\((bif (j==0)then(i==17)else false)=true->∀d2 d3,dX d2 d3->∃d4,d2=.bool d4)/\∀d5:Bool,∀d6,dX (.bool d5) d6->∃d7,((bif (bif (bif (bif (bif (bif (j==0)then(i==17)else false)then d5 else false)then(r==0)else false)then(z==3)else false)then A else false)then L else false)=true->zc d6 (Af ⟨E.size,0,none⟩ 1)=some (.string d7))/\R (.bool (bif (bif (bif (bif (bif (bif (bif (j==0)then(i==17)else false)then d5 else false)then(r==0)else false)then(z==3)else false)then A else false)then L else false)then(d7.toList==(⟨#[50]⟩:Bt).toList)else false)) d6)/\(∃d8:Value->zb->Prop,((bif (j==0)then(i==17)else false)=true->let d9:=dl.push (.cells #[.int .i64 bN,.string bO,slV bP,slV bQ,.int .i64 dh,.string di,slV dj,slV dk] 26);d8 (.slice (some ⟨dl.size,0,none⟩) 2 2) d9)/\((bif (j==0)then(i==17)else false)=false->∃ea,d8 (slV ea) dl)/\((bif (j==0)then(i==17)else false)=true->∀eb ec,d8 eb ec->∃ed,eb=slV ed)/\∀ee:Sl,∀ef,d8 (slV ee) ef->(∃eg eh ei ej,((bif (j==0)then(i==17)else false)=true->zh ef ⟨c.size,0,none⟩ 0 [.int .i64 eg,.string eh,slV ei,slV ej])/\∃ek:Value->zb->Prop,((bif (j==0)then(i==17)else false)=true->XC Tp 29 #[slV ee] ef (λel em=>∃en eo ep eq,el=.agg #[.int .i64 en,.string eo,slV ep,slV eq]/\ek (.agg #[.int .i64 en,.string eo,slV ep,slV eq]) em))/\((bif (j==0)then(i==17)else false)=false->∃er es et eu,ek (.agg #[.int .i64 er,.string es,slV et,slV eu]) ef)/\((bif (j==0)then(i==17)else false)=true->∀ev ew,ek ev ew->∃ex ey ez eA,ev=.agg #[.int .i64 ex,.string ey,slV ez,slV eA])/\∀eB:Int,∀eC:Bt,∀eD eE:Sl,∀eF,ek (.agg #[.int .i64 eB,.string eC,slV eD,slV eE]) eF->∃eG:Value->zb->Prop,((bif (j==0)then(i==17)else false)=true->XC Tp 16 #[.agg #[.int .i64 eg,.string eh,slV ei,slV ej],.agg #[.int .i64 eB,.string eC,slV eD,slV eE]] eF (λeH eI=>∃eJ,eH=.bool eJ/\eG (.bool eJ) eI))/\((bif (j==0)then(i==17)else false)=false->∃eL,eG (.bool eL) eF)/\((bif (j==0)then(i==17)else false)=true->∀eM eN,eG eM eN->∃eO,eM=.bool eO)/\∀eP:Bool,∀eQ,eG (.bool eP) eQ->∃eS,((bif (bif (bif (bif (bif (bif (j==0)then(i==17)else false)then eP else false)then(r==0)else false)then(z==3)else false)then A else false)then L else false)=true->zc eQ (Af ⟨E.size,0,none⟩ 1)=some (.string eS))/\R (.bool (bif (bif (bif (bif (bif (bif (bif (j==0)then(i==17)else false)then eP else false)then(r==0)else false)then(z==3)else false)then A else false)then L else false)then(eS.toList==(⟨#[50]⟩:Bt).toList)else false)) eQ)/\(∃eT:Value->zb->Prop,((bif (j==0)then(i==17)else false)=true->XC Tp 29 #[slV ee] ef (λeU eV=>∃eW eX eY eZ,eU=.agg #[.int .i64 eW,.string eX,slV eY,slV eZ]/\eT (.agg #[.int .i64 eW,.string eX,slV eY,slV eZ]) eV))/\((bif (j==0)then(i==17)else false)=false->∃e0 e1 e2 e3,eT (.agg #[.int .i64 e0,.string e1,slV e2,slV e3]) ef)/\((bif (j==0)then(i==17)else false)=true->∀e4 e5,eT e4 e5->∃e6 e7 e8 e9,e4=.agg #[.int .i64 e6,.string e7,slV e8,slV e9])/\∀fa:Int,∀fb:Bt,∀fc fd:Sl,∀fe,eT (.agg #[.int .i64 fa,.string fb,slV fc,slV fd]) fe->∃ff fg fh fi,((bif (j==0)then(i==17)else false)=true->zh fe ⟨c.size,0,none⟩ 0 [.int .i64 ff,.string fg,slV fh,slV fi])/\∃fj:Value->zb->Prop,((bif (j==0)then(i==17)else false)=true->XC Tp 16 #[.agg #[.int .i64 ff,.string fg,slV fh,slV fi],.agg #[.int .i64 fa,.string fb,slV fc,slV fd]] fe (λfk fl=>∃fm,fk=.bool fm/\fj (.bool fm) fl))/\((bif (j==0)then(i==17)else false)=false->∃fn,fj (.bool fn) fe)/\((bif (j==0)then(i==17)else false)=true->∀fo fp,fj fo fp->∃fq,fo=.bool fq)/\∀fr:Bool,∀fs,fj (.bool fr) fs->∃ft,((bif (bif (bif (bif (bif (bif (j==0)then(i==17)else false)then fr else false)then(r==0)else false)then(z==3)else false)then A else false)then L else false)=true->zc fs (Af ⟨E.size,0,none⟩ 1)=some (.string ft))/\R (.bool (bif (bif (bif (bif (bif (bif (bif (j==0)then(i==17)else false)then fr else false)then(r==0)else false)then(z==3)else false)then A else false)then L else false)then(ft.toList==(⟨#[50]⟩:Bt).toList)else false)) fs)))))))))))):
  XC Tp 13 #[] h R:=
 XF ⟨[(5,8000)],[],[]⟩ [.tmp 0] 65 Tryz.func13 H
end
section
theorem zpt(gl:Fr)(Z:Bt)(R:Tr->Prop)
  (H:R (Tr.mk 4 Z [] [])):
  PC Tp gl 28 [Arg.mk .str Z] [.tree] R:=
 PF ⟨[],[],[],[]⟩ [.cell 2 26] 5 Tryz.func28 H
end
end Go.X
end
section
namespace Go.X
open Go Go.X Go.Proofs Go.RowKit
section
variable {k k':Int} {s s':Bt} {a b a' b':Sl} {f:FuncId} {args:Array Value} {h:zb} {g:Bool} {M:Fr}
def trV(k:Int)(s:Bt)(a b:Sl):Value:=.agg #[.int .i64 k,.string s,slV a,slV b]
theorem z4p(h:trV k s a b=trV k' s' a' b'):k=k'/\s=s'/\a=a'/\b=b':=by
 unfold trV slV at h
 injection h with h
 simp only[Array.mk.injEq,BR,and_true]at h
 obtain⟨h1,h2,h3,h4⟩:=h
 injection h1 with _ h1
 injection h2 with h2
 injection h3 with e1 e2 e3
 injection h4 with f1 f2 f3
 refine⟨h1,h2,?_,?_⟩
 ·cases a;cases a';simp_all
 ·cases b;cases b';simp_all
theorem X1(hg:g=true){Kt:Int->Bt->Sl->Sl->zb->Prop}(E:XC Tp f args h λv h'=>∃k s a b,v=trV k s a b/\Kt k s a b h'):
  ∃J:Value->zb->Prop,(g=true->XC Tp f args h λv h'=>∃k:Int,∃s:Bt,∃a:Sl,∃b:Sl,v=trV k s a b/\J (trV k s a b) h')/\(g=false->∃k:Int,∃s:Bt,∃a:Sl,∃b:Sl,J (trV k s a b) h) /\
   (g=true->∀v h',J v h'->∃k:Int,∃s:Bt,∃a:Sl,∃b:Sl,v=trV k s a b)/\∀k:Int,∀s:Bt,∀a:Sl,∀b:Sl,∀h',J (trV k s a b) h'->Kt k s a b h':=by
 refine⟨λv h'=>∃k s a b,v=trV k s a b/\Kt k s a b h',λ_=>XC.mono E λv h' ⟨k,s,a,b,e,H⟩=>⟨k,s,a,b,e,k,s,a,b,rfl,H⟩,λhx=>(by rw[hg]at hx;cases hx),λ_ v h' ⟨k,s,a,b,e,_⟩=>⟨k,s,a,b,e⟩,λk s a b h' ⟨k',s',a',b',e,H⟩=>?_⟩
 obtain⟨rfl,rfl,rfl,rfl⟩:=z4p e
 exact H
theorem znj(hg:g=true){Kt:Bool->zb->Prop}(E:XC Tp f args h λv h'=>∃r,v=.bool r/\Kt r h'):
  ∃J:Value->zb->Prop,(g=true->XC Tp f args h λv h'=>∃r:Bool,v=.bool r/\J (.bool r) h')/\(g=false->∃r:Bool,J (.bool r) h)/\(g=true->∀v h',J v h'->∃r:Bool,v=.bool r)/\∀r:Bool,∀h',J (.bool r) h'->Kt r h':=by
 refine⟨λv h'=>∃r,v=.bool r/\Kt r h',λ_=>XC.mono E λv h' ⟨r,e,H⟩=>⟨r,e,r,rfl,H⟩,λhx=>(by rw[hg]at hx;cases hx),λ_ v h' ⟨r,e,_⟩=>⟨r,e⟩,λr h' ⟨r',e,H⟩=>?_⟩
 injection e with e
 subst e;exact H
theorem z0e{h h1:zb}{s:Sl}(hg:g=true){Kt:Sl->zb->Prop}(E:Kt s h1):
  ∃J:Value->zb->Prop,(g=true->J (slV s) h1)/\(g=false->∃x:Sl,J (slV x) h)/\(g=true->∀v h',J v h'->∃x:Sl,v=slV x)/\∀x:Sl,∀h',J (slV x) h'->Kt x h':=by
 refine⟨λv h'=>∃x,v=slV x/\Kt x h',λ_=>⟨s,rfl,E⟩,λhx=>(by rw[hg]at hx;cases hx),λ_ v h' ⟨x,e,_⟩=>⟨x,e⟩,λx h' ⟨x',e,H⟩=>?_⟩
 have:x=x':=by
  unfold slV at e
  injection e with e1 e2 e3
  cases x;cases x';simp_all
 subst this;exact H
theorem qaw{b:Nat}(hb:M b=none){t1 t2:Tr}{w1 w2:List Value}(h1:Rd M .tree t1 w1)(h2:Rd M .tree t2 w2)(l1:w1.length=4)(l2:w2.length=4):Rd (Mx M b (w1++w2).toArray) (.row .tree) [t1,t2] [slV ⟨some ⟨b,0,none⟩,2,2⟩]:=by
 have le:Fr.le M (Mx M b (w1++w2).toArray):=λc cs e=>by
  unfold Mx
  by_cases hc:c=b
  ·subst hc;rw[hb]at e;cases e
  ·rw[if_neg hc];exact e
 refine⟨_,rfl,_,_,rfl,by simp,.inr ⟨b,0,_,rfl,by unfold Mx;rw[if_pos rfl],λi hi=>?_⟩⟩
 have hi:i<2:=hi
 rcases(by omega:i=0\/i=1)with rfl|rfl
 ·have:cut (w1++w2).toArray (0+0*sz .tree) (sz .tree)=w1:=by
   show List.take 4 (List.drop 0 (w1++w2))=w1
   rw[BC,<-l1,Dr]
  rw[this];exact Rd.mono le h1
 ·have:cut (w1++w2).toArray (0+1*sz .tree) (sz .tree)=w2:=by
   show List.take 4 (List.drop 4 (w1++w2))=w2
   rw[List.drop_left' l1,<-l2,A5]
  rw[this];exact Rd.mono le h2
theorem qax{b:Nat}{s1 s2:Bt}:Rd (Mx M b #[.string s1,.string s2]) (.row .str) [s1,s2] [slV ⟨some ⟨b,0,none⟩,2,2⟩]:=by
 refine⟨_,rfl,_,_,rfl,by simp,.inr ⟨b,0,_,rfl,by unfold Mx;rw[if_pos rfl],λi hi=>?_⟩⟩
 have hi:i<2:=hi
 rcases(by omega:i=0\/i=1)with rfl|rfl <;> rfl
theorem zx1{b:Bool}{w:Value}(h:RdV M .bool b w):w=.bool b:=by
 rw[zsv rfl]at h;simpa[Rd]using h
theorem zx2{T:Tr}(h:RdV M .tree T (trV k s a b)):Rd M .tree T [.int .i64 k,.string s,slV a,slV b]:=by
 unfold RdV at h
 simp only[zls,if_true]at h
 obtain⟨cs,e,hr⟩:=h
 unfold trV at e
 injection e with e
 have:cs=[.int .i64 k,.string s,slV a,slV b]:=by have:=congrArg Array.toList e;simpa using this.symm
 rw[<-this];exact hr
def smA:Tr:=.mk 5 (bl []) [] [.mk 3 (bl [49]) [] [],.mk 4 (bl [97]) [] []]
structure Cx (gl:Fr) (b2 b29:Nat) (k2 k29:Int) (s2:Bt) (a2 c2 a29 c29:Sl) (h:zb) (M:Fr):Prop where
 hM:Fr.le gl M
 ag:AgM M h
 V:Blk h b2 #[.int .i64 k2,.string s2,slV a2,slV c2]
 rv:RdV M .tree smA (trV k2 s2 a2 c2)
 X:Blk h b29 #[.int .i64 k29,.string (bl [50]),slV a29,slV c29]
section
variable {gl : Fr} {b2 b29 : Nat} {k2 k29 : Int} {s2 : Bt} {a2 c2 a29 c29 : Sl} {h : zb} {M : Fr}
theorem Cx.later(c:Cx gl b2 b29 k2 k29 s2 a2 c2 a29 c29 h M){h':zb}{M':Fr}(L:Later h M h' M'):Cx gl b2 b29 k2 k29 s2 a2 c2 a29 c29 h' M':=
 ⟨c.hM.trans L.le,L.ag,c.V.keep (L.keep.get b2 c.V.lt),RdV.mono L.le c.rv,c.X.keep (L.keep.get b29 c.X.lt)⟩
theorem Cx.num(c:Cx gl b2 b29 k2 k29 s2 a2 c2 a29 c29 h M)(hg:GL gl){K:Int->Bt->Sl->Sl->zb->Prop}(hK:∀k s a b h' M',Later h M h' M'->RdV M' .tree (.mk 3 (bl [49]) [] []) (trV k s a b)->K k s a b h'):XC Tp 58 #[.int .i64 1] h λv h'=>∃k s a b,v=trV k s a b/\K k s a b h':=by
 refine(z6y hg (n:=1) (by decide) (by decide) (R:=λr=>r=.mk 3 (bl [49]) [] []) (by rw[qby])).go c.hM c.ag (yu (a:=Arg.mk (.int .i64) 1) (Jt _ _) j9) λv h' M' r L hv hr=>?_
 subst hr
 have rv:=zsw.1 hv
 obtain⟨a,b,rfl,_⟩:=zl8 rv
 exact⟨_,_,a,b,rfl,hK _ _ _ _ _ _ L rv⟩
theorem Cx.of(c:Cx gl b2 b29 k2 k29 s2 a2 c2 a29 c29 h M){K:Int->Bt->Sl->Sl->zb->Prop}(hK:∀k s a b h' M',Later h M h' M'->RdV M' .tree (.mk 4 (bl [97]) [] []) (trV k s a b)->K k s a b h'):XC Tp 28 #[.string ⟨#[97]⟩] h λv h'=>∃k s a b,v=trV k s a b/\K k s a b h':=by
 refine(show PC Tp gl 28 [Arg.mk .str ⟨#[97]⟩] [.tree] (λr=>r=.mk 4 (bl [97]) [] [])from by apply zpt;rfl).go c.hM c.ag (yu (a:=Arg.mk .str _) (rdStr _) j9) λv h' M' r L hv hr=>?_
 subst hr
 have rv:=zsw.1 hv
 obtain⟨a,b,rfl,_⟩:=zl8 rv
 exact⟨_,_,a,b,rfl,hK _ _ _ _ _ _ L rv⟩
theorem Cx.row(c:Cx gl b2 b29 k2 k29 s2 a2 c2 a29 c29 h M){x:Sl}(hx:Rd M (.row .tree) [.mk 3 (bl [49]) [] [],.mk 4 (bl [97]) [] []] [slV x]){K:Int->Bt->Sl->Sl->zb->Prop}(hK:∀k s a b h' M',Later h M h' M'->RdV M' .tree smA (trV k s a b)->K k s a b h'):XC Tp 29 #[slV x] h λv h'=>∃k s a b,v=trV k s a b/\K k s a b h':=by
 refine(z6x (gl:=gl) (l:=[.mk 3 (bl [49]) [] [],.mk 4 (bl [97]) [] []]) (R:=λr=>r=smA) rfl).go c.hM c.ag (yu (a:=Arg.mk (.row .tree) _) ((zsv rfl).2 hx) j9) λv h' M' r L hv hr=>?_
 subst hr
 have rv:=zsw.1 hv
 obtain⟨a,b,rfl,_⟩:=zl8 rv
 exact⟨_,_,a,b,rfl,hK _ _ _ _ _ _ L rv⟩
theorem Cx.eq(c:Cx gl b2 b29 k2 k29 s2 a2 c2 a29 c29 h M)(hx:RdV M .tree smA (trV k s a b)){K:Bool->zb->Prop}(hK:∀h' M',Later h M h' M'->K true h'):XC Tp 16 #[trV k2 s2 a2 c2,trV k s a b] h λv h'=>∃r,v=.bool r/\K r h':=by
 refine(zwm (gl:=gl) smA smA (R:=λr=>r=true) λr hr=>hr.2 rfl).go c.hM c.ag (yu (a:=Arg.mk .tree _) c.rv (yu (a:=Arg.mk .tree _) hx j9)) λv h' M' r L hv hr=>?_
 have hr:r=true:=hr
 subst hr
 exact⟨true,z4v hv,hK _ _ L⟩
theorem Cx.lit(c:Cx gl b2 b29 k2 k29 s2 a2 c2 a29 c29 h M){T:TypeId}(h1:RdV M .tree (.mk 3 (bl [49]) [] []) (trV k s a b))(h2:RdV M .tree (.mk 4 (bl [97]) [] []) (trV k' s' a' b')):
  ∃M',Later h M (h.push (.cells #[.int .i64 k,.string s,slV a,slV b,.int .i64 k',.string s',slV a',slV b'] T)) M'/\Rd M' (.row .tree) [.mk 3 (bl [49]) [] [],.mk 4 (bl [97]) [] []] [slV ⟨some ⟨h.size,0,none⟩,2,2⟩]:=by
 refine⟨_,Later.frz c.ag _ T,qaw (w1:=[_,_,_,_]) (w2:=[_,_,_,_]) ?_ (zx2 h1) (zx2 h2) rfl rfl⟩
 cases e:M h.size with
 |none=>rfl
 |some cs=>have:=c.ag.lt e;omega
end
def tb9:Bs:=[123,34,97,34,58,91,49,44,50,93,125]
def ns9:List Nd:=[(6,(0,11),(0,0),[1],[(1,10)]),(5,(5,10),(1,4),[2,3],[(6,7),(8,9)]),(3,(6,7),(0,0),[],[]),(3,(8,9),(0,0),[],[])]
theorem at9:atR tb9 ns9 [⟨#[97]⟩,⟨#[49]⟩]=(3,true):=by kernel_rfl
theorem nd9:z0a tb9 ns9 3=(.mk 3 (bl [50]) [] [],true):=by kernel_rfl
theorem qay{t:Bs}{nodes:List Nd}{sl:Sl}(h:Rd M (.row tNd) nodes [slV sl]):RdV M zkx (bl t,nodes) (.agg #[.string (bl t),slV sl]):=⟨[.string (bl t),slV sl],rfl,[_],[_],rfl,rfl,h⟩
set_option maxRecDepth 100000 in
set_option maxHeartbeats 4000000 in
theorem zx3{gl:Fr}(hg:GL gl):PC Tp gl 13 [] [.bool] (λr=>r=true):=by
 intro h M vs hM ag ha
 match vs,ha with
 |[],_=>
 apply PX.of
 apply zbe
 refine(z4k hg (s:=[32,91,49,46,48,44,32,34,92,117,48,48,54,49,34,93,32]) (R:=λr=>r=(smA,17,0)) z4o).go hM ag (yu (a:=Arg.mk .str _) (rdStr _) j9) λv1 h2 M2 r L2 hv hr=>?_
 subst hr
 obtain⟨_,⟨u1,_,rfl,hx,u2,_,rfl,hy,u3,rfl,hz⟩,rfl⟩:=hv
 obtain⟨sk,si,rfl,_⟩:=zl8 hx
 obtain rfl:=qo hy
 obtain rfl:=qo hz
 refine⟨_,_,sk,si,_,_,rfl,?_⟩
 have aQ:=hM.trans L2.le
 intro h9
 have k9:Keep h2.size h2 h9:=Keep.push _ _ (Ad _)
 have z9:h9.size=h2.size+1:=Al _
 have V9:Blk h9 h2.size #[.int .i64 0,.string ⟨#[]⟩,.slice none 0 0,.slice none 0 0]:=Blk.new _ _ _
 clear_value h9
 refine Wx V9 λbm bP cd bQ=>?_
 have bz:Keep h2.size h2 bm:=⟨by omega,λj hj=>(bP j (by omega)).trans (k9.get j hj)⟩
 have ap:=Later.same L2.ag bz
 refine(zgu hg (s:=tb9) (R:=λr=>r=((bl tb9,ns9),11,0)) (by rw[show Za tb9=_ from zps];rfl)).go aQ ap.ag (yu (a:=Arg.mk .str _) (rdStr _) j9) λv aa an r ab hv hr=>?_
 subst hr
 obtain⟨sl,rfl,rd⟩:=z7y (x:=(tb9,ns9)) hv
 refine⟨_,sl,_,_,rfl,?_⟩
 have dh:=ab.keep.size
 have bS:=bQ.keep (ab.keep.get h2.size (by omega))
 have az:=aQ.trans ab.le
 intro ak
 have bF:Keep aa.size aa ak:=Keep.push _ _ (Ad _)
 have cG:ak.size=aa.size+1:=Al _
 have bn:Blk ak aa.size #[.string ⟨#[]⟩,.slice none 0 0]:=Blk.new _ _ _
 clear_value ak
 refine Qu (u:=bl tb9) (v:=sl) bn λau ca cn a6=>?_
 have aF:Keep aa.size aa au:=⟨by omega,λj hj=>(ca j (by omega)).trans (bF.get j hj)⟩
 have bo:=bS.keep (aF.get h2.size (by omega))
 refine⟨_,sl,a6.ld (cs:=[.string _,slV sl]),?_⟩
 intro ar
 have Z:Later au an ar (Mx an au.size #[.string ⟨#[97]⟩,.string ⟨#[49]⟩]):=Later.frz (ab.ag.keep aF) _ _
 have cO:ar.size=au.size+1:=Al _
 clear_value ar
 have bM:=a6.keep (Z.keep.get aa.size (by omega))
 have bU:=bo.keep (Z.keep.get h2.size (by omega))
 have he:(Za tb9).2.2=0:=by rw[show Za tb9=_ from zps]
 obtain⟨lvs,G,_,_,_,_⟩:=zgk he
 have bC:(Za tb9).1.2=ns9:=by rw[show Za tb9=_ from zps];rfl
 rw[bC]at G
 have bj:∀x∈ns9,x.2.2.2.1.length<=200000:=by decide
 have aY:∀{M':Fr},Fr.le an M'->RdV M' zkx (bl tb9,ns9) (.agg #[.string (bl tb9),slV sl]):=λle=>qay (rd.mono le)
 refine(z4m hg (t:=tb9) (by decide) G (λ_=>rfl) bj (p:=[⟨#[97]⟩,⟨#[49]⟩]) (z0d (by decide) (by decide)) (R:=λr=>r=(3,true)) at9).go (az.trans Z.le) Z.ag (yu (a:=Arg.mk zkx _) (aY Z.le) (yu (a:=Arg.mk (.row .str) _) ((zsv rfl).2 qax) j9)) λv dt cz r ae hv hr=>?_
 subst hr
 obtain⟨_,⟨u1,_,rfl,aH,u2,rfl,aE⟩,rfl⟩:=hv
 obtain rfl:=qo aH
 obtain rfl:=zx1 aE
 refine⟨_,_,rfl,?_⟩
 have cm:=ae.keep.size
 have bZ:=bM.keep (ae.keep.get aa.size (by omega))
 have bI:=bU.keep (ae.keep.get h2.size (by omega))
 have aB:=(az.trans Z.le).trans ae.le
 refine⟨_,sl,bZ.ld (cs:=[.string _,slV sl]),?_⟩
 refine(zxw hg (t:=tb9) (by decide) G bj (k:=3) (R:=λr=>r=(.mk 3 (bl [50]) [] [],true)) nd9).go aB ae.ag (yu (a:=Arg.mk zkx _) (aY (Z.le.trans ae.le)) (yu (a:=Arg.mk (.int .i64) 3) (Jt _ _) j9)) λv af aG r ah hv hr=>?_
 subst hr
 obtain⟨_,⟨u1,_,rfl,aH,u2,rfl,aE⟩,rfl⟩:=hv
 obtain⟨xk,xi,rfl,_⟩:=zl8 aH
 obtain rfl:=zx1 aE
 refine⟨_,_,xk,xi,_,rfl,?_⟩
 have db:=ah.keep.size
 have bT:=bI.keep (ah.keep.get h2.size (by omega))
 have aT:=aB.trans ah.le
 intro ay
 have cc:Keep af.size af ay:=Keep.push _ _ (Ad _)
 have cE:ay.size=af.size+1:=Al _
 have bB:Blk ay af.size #[.int .i64 0,.string ⟨#[]⟩,.slice none 0 0,.slice none 0 0]:=Blk.new _ _ _
 clear_value ay
 refine Wx bB λax bA cT bY=>?_
 have a8:Keep af.size af ax:=⟨by omega,λj hj=>(bA j (by omega)).trans (cc.get j hj)⟩
 have bu:=bT.keep (a8.get h2.size (by omega))
 have aV:Later h M aa an:=L2.trans (ap.trans ab)
 have aC:Later h M ax aG:=aV.trans ((Later.same ab.ag aF).trans (Z.trans (ae.trans (ah.trans (Later.same ah.ag a8)))))
 have c:Cx gl h2.size af.size _ _ _ sk si xk xi ax aG:=⟨aT,aC.ag,bu,RdV.mono (ab.le.trans (Z.le.trans (ae.le.trans ah.le))) hx,bY⟩
 have hR:∀{h':zb} {M':Fr},Later ax aG h' M'->∃M' r,Later h M h' M'/\zc1 M' [.bool] r (.bool true)/\r=true:=λL=>⟨_,true,aC.trans L,zsw.2 (rdBool true),rfl⟩
 refine⟨?_,?_⟩
 ·refine⟨_,_,_,_,λ_=>c.V.ld (cs:=[_,_,slV _,slV _]),?_⟩
  refine X1 rfl (c.num hg λk2 s2 a2 b2 h2 M2 L2 q2=>?_)
  have c2:=c.later L2
  refine X1 rfl (c2.of λk3 s3 a3 b3 h3 M3 L3 q3=>?_)
  have c3:=c2.later L3
  have cb:=RdV.mono L3.le q2
  obtain⟨M4,L4,q4⟩:=c3.lit (T:=26) cb q3
  have c4:=c3.later L4
  refine z0e (s:=⟨some ⟨_,0,none⟩,2,2⟩) rfl ?_
  refine X1 rfl (c4.row q4 λk5 s5 a5 b5 h5 M5 L5 q5=>?_)
  have c5:=c4.later L5
  refine znj rfl (c5.eq q5 λh6 M6 L6=>?_)
  have c6:=c5.later L6
  refine⟨⟨#[50]⟩,λ_=>c6.X.cell (o:=1) rfl,?_⟩
  simp only[beq_self_eq_true,cond_true]
  exact hR (L2.trans (L3.trans (L4.trans (L5.trans (L6)))))
 ·refine X1 rfl (c.num hg λk7 s7 a7 b7 h7 M7 L7 q7=>?_)
  have c7:=c.later L7
  refine⟨?_,?_⟩
  ·refine⟨_,_,_,_,λ_=>c7.V.ld (cs:=[_,_,slV _,slV _]),?_⟩
   refine X1 rfl (c7.of λk9 s9 a9 b9 h9 M9 L9 q9=>?_)
   have c9:=c7.later L9
   have bH:=RdV.mono L9.le q7
   obtain⟨cM,ap,bq⟩:=c9.lit (T:=26) bH q9
   have aO:=c9.later ap
   refine z0e (s:=⟨some ⟨_,0,none⟩,2,2⟩) rfl ?_
   refine X1 rfl (aO.row bq λcq cC dl co cp cJ aM bL=>?_)
   have bg:=aO.later aM
   refine znj rfl (bg.eq bL λaa an ab=>?_)
   have bO:=bg.later ab
   refine⟨⟨#[50]⟩,λ_=>bO.X.cell (o:=1) rfl,?_⟩
   simp only[beq_self_eq_true,cond_true]
   exact hR (L7.trans (L9.trans (ap.trans (aM.trans (ab)))))
  ·refine X1 rfl (c7.of λdy cy cA de dr di ai ba=>?_)
   have am:=c7.later ai
   have aA:=RdV.mono ai.le q7
   refine⟨?_,?_⟩
   ·refine⟨_,_,_,_,λ_=>am.V.ld (cs:=[_,_,slV _,slV _]),?_⟩
    obtain⟨dx,bh,bE⟩:=am.lit (T:=26) aA ba
    have aZ:=am.later bh
    refine z0e (s:=⟨some ⟨_,0,none⟩,2,2⟩) rfl ?_
    refine X1 rfl (aZ.row bE λcV cL cg dv cB dz bi br=>?_)
    have aS:=aZ.later bi
    refine znj rfl (aS.eq br λak cZ aL=>?_)
    have bV:=aS.later aL
    refine⟨⟨#[50]⟩,λ_=>bV.X.cell (o:=1) rfl,?_⟩
    simp only[beq_self_eq_true,cond_true]
    exact hR (L7.trans (ai.trans (bh.trans (bi.trans (aL)))))
   ·obtain⟨cP,aJ,be⟩:=am.lit (T:=26) aA ba
    have aj:=am.later aJ
    refine z0e (s:=⟨some ⟨_,0,none⟩,2,2⟩) rfl ?_
    refine⟨?_,?_⟩
    ·refine⟨_,_,_,_,λ_=>aj.V.ld (cs:=[_,_,slV _,slV _]),?_⟩
     refine X1 rfl (aj.row be λck c8 cj cQ dm dA a1 bD=>?_)
     have aP:=aj.later a1
     refine znj rfl (aP.eq bD λar da Z=>?_)
     have bJ:=aP.later Z
     refine⟨⟨#[50]⟩,λ_=>bJ.X.cell (o:=1) rfl,?_⟩
     simp only[beq_self_eq_true,cond_true]
     exact hR (L7.trans (ai.trans (aJ.trans (a1.trans (Z)))))
    ·refine X1 rfl (aj.row be λdf cF dw cY du cH aN bG=>?_)
     have aI:=aj.later aN
     refine⟨_,_,_,_,λ_=>aI.V.ld (cs:=[_,_,slV _,slV _]),?_⟩
     refine znj rfl (aI.eq bG λcu dq aU=>?_)
     have b8:=aI.later aU
     refine⟨⟨#[50]⟩,λ_=>b8.X.cell (o:=1) rfl,?_⟩
     simp only[beq_self_eq_true,cond_true]
     exact hR (L7.trans (ai.trans (aJ.trans (aN.trans (aU)))))
end
end Go.X
end
section
namespace Go.X
section
theorem Jq(gl:Fr)(s0:Bt)(k1:Int)(Z:List Bt)(R:Bool->Prop)
  (H:PC Tp gl 13 [] [.bool] (λa:Bool=>PC Tp gl 18 [Arg.mk (.row .str) Z] [.bool] (λb:Bool=>((bif (decide ((s0.size:Int)>4096))then true else(!b))=true->R a)/\((bif (decide ((s0.size:Int)>4096))then true else(!b))=false->PC Tp gl 19 [Arg.mk .str s0] [.pair .str (.row (.pair (.int .i64) (.pair (.pair (.int .i64) (.int .i64)) (.pair (.pair (.int .i64) (.int .i64)) (.pair (.row (.int .i64)) (.row (.pair (.int .i64) (.int .i64)))))))),.int .i64,.int .i64] (λc:(Bt×List (Int×(Int×Int)×(Int×Int)×(List Int)×List (Int×Int)))×Int×Int=>PC Tp gl 20 [Arg.mk .str s0] [.pair .str (.row (.pair (.int .i64) (.pair (.pair (.int .i64) (.int .i64)) (.pair (.pair (.int .i64) (.int .i64)) (.pair (.row (.int .i64)) (.row (.pair (.int .i64) (.int .i64)))))))),.int .i64,.int .i64] (λd:(Bt×List (Int×(Int×Int)×(Int×Int)×(List Int)×List (Int×Int)))×Int×Int=>((bif (c.2.2 != 0)then true else(d.2.2 != 0))=true->R (bif a then(c.2.2==d.2.2)else false))/\((bif (c.2.2 != 0)then true else(d.2.2 != 0))=false->PC Tp gl 21 [Arg.mk (.pair .str (.row (.pair (.int .i64) (.pair (.pair (.int .i64) (.int .i64)) (.pair (.pair (.int .i64) (.int .i64)) (.pair (.row (.int .i64)) (.row (.pair (.int .i64) (.int .i64))))))))) (c.1.1,c.1.2),Arg.mk (.int .i64) k1] [.tree,.bool] (λe:Tr×Bool=>((bif (!(e.2==(bif (decide (k1>=0))then(decide (k1<d.1.2.length))else false)))then true else(bif (!e.2)then(e.1.kind != 0)else false))=true->R false)/\((bif (!(e.2==(bif (decide (k1>=0))then(decide (k1<d.1.2.length))else false)))then true else(bif (!e.2)then(e.1.kind != 0)else false))=false->∃f:Tr->Prop,(e.2=true->PC Tp gl 22 [Arg.mk (.pair .str (.row (.pair (.int .i64) (.pair (.pair (.int .i64) (.int .i64)) (.pair (.pair (.int .i64) (.int .i64)) (.pair (.row (.int .i64)) (.row (.pair (.int .i64) (.int .i64))))))))) (d.1.1,d.1.2),Arg.mk (.int .i64) k1] [.tree] f)/\∀g:Tr,(e.2=true->f g)->∃i:Bool->Prop,(e.2=true->PC Tp gl 16 [Arg.mk .tree (Tr.mk e.1.kind e.1.text e.1.keys e.1.items),Arg.mk .tree (Tr.mk g.kind g.text g.keys g.items)] [.bool] i)/\∀j:Bool,(e.2=true->i j)->((bif e.2 then(!j)else false)=true->R false)/\((bif e.2 then(!j)else false)=false->PC Tp gl 23 [Arg.mk (.pair .str (.row (.pair (.int .i64) (.pair (.pair (.int .i64) (.int .i64)) (.pair (.pair (.int .i64) (.int .i64)) (.pair (.row (.int .i64)) (.row (.pair (.int .i64) (.int .i64))))))))) (c.1.1,c.1.2),Arg.mk (.row .str) Z] [.int .i64,.bool] (λk:Int×Bool=>PC Tp gl 24 [Arg.mk (.pair .str (.row (.pair (.int .i64) (.pair (.pair (.int .i64) (.int .i64)) (.pair (.pair (.int .i64) (.int .i64)) (.pair (.row (.int .i64)) (.row (.pair (.int .i64) (.int .i64))))))))) (d.1.1,d.1.2),Arg.mk (.row .str) Z] [.int .i64,.bool] (λl:Int×Bool=>R (bif (bif a then(k.1==l.1)else false)then(k.2==l.2)else false))))))))))))):
  PC Tp gl 4 [Arg.mk .str s0,Arg.mk (.int .i64) k1,Arg.mk (.row .str) Z] [.bool] R:=
 PF ⟨[],[(12,6,[],[0,1,2,3,4,5],[])],[],[]⟩ [.tmp 6] 114 Tryz.func4 H
end
end Go.X
end
section
namespace Go.X
open Go Go.X Go.Proofs Go.RowKit
section
theorem znk{gl:Fr}(hg:GL gl)(ae:PC Tp gl 13 [] [.bool] (λr=>r=true))(s:Bs)(k:Int)(p:List Bt):PC Tp gl 4 [Arg.mk .str (bl s),Arg.mk (.int .i64) k,Arg.mk (.row .str) p] [.bool] (λr=>r=true):=by
 apply Jq
 refine ae.mono λr hr=>?_
 have hr:r=true:=hr
 subst hr
 refine zzs λb hb=>⟨λ_=>rfl,λhc=>?_⟩
 have ab:((bl s).size:Int)=(s.length:Int):=by rw[<-Wl,jd]
 have af:s.length<=4096/\b=true:=by
  rw[ab]at hc
  simp only[Bool.cond_eq_ite]at hc
  split at hc
  ·cases hc
  ·rename_i h1
   exact⟨by simp at h1;omega,by simpa using hc⟩
 obtain⟨hs,ah⟩:=af
 have hp:=PS.sl (hb ah)
 refine zgu hg (zpr hg ?_)
 refine⟨λhx=>by simp,λhx=>?_⟩
 have he:(Za s).2.2=0:=by
  have:=hx
  simpa using this
 obtain⟨lvs,G,e1,e2,e3,e4⟩:=zgk he
 obtain⟨ai,ak⟩:=zku (zng he)
 have Z:∀x∈(Za s).1.2,x.2.2.2.1.length<=200000:=λx hx=>by have:=e4 x hx;unfold ndW at this;omega
 dsimp only
 rw[e1]
 generalize aj:(Za s).1.2=ns at G Z e3 ⊢
 have aa:s.length<=65536:=by omega
 refine zxw hg aa G Z ?_
 unfold z0a
 by_cases hk:0<=k/\k<(ns.length:Int)
 ·obtain⟨j,rfl⟩:∃j:Nat,k=(j:Int):=⟨k.toNat,by omega⟩
  rw[if_pos hk,Ae]
  have hj:j<(1::lvs).length:=by rw[G.len];omega
  refine⟨λhy=>?_,λhy=>?_⟩
  ·exfalso
   simp[hk.2]at hy
  ·refine⟨λr=>r=wo s ns 33 j,λ_=>zrn hg aa G Z (Ak hj) rfl,λr hr=>?_⟩
   have hr:=hr rfl
   subst hr
   refine⟨λb=>b=true,λ_=>zwm _ _ λb hb=>hb.2 rfl,λb hb=>?_⟩
   have hb:=hb rfl
   subst hb
   refine⟨λhz=>by simp at hz,λ_=>?_⟩
   refine z4m hg aa G (λ_=>rfl) Z hp (z05 hg aa G (λ_=>rfl) Z hp ?_)
   simp
 ·rw[if_neg hk]
  refine⟨λhy=>?_,λhy=>?_⟩
  ·exfalso
   have:(bif (decide (k>=0))then(decide (k<((Cd ns:Nat):Int)))else false)=false:=by
    cases h1:decide (k>=0)with
    |false=>rfl
    |true=>
     rw[cond_true]
     exact decide_eq_false λh2=>hk ⟨of_decide_eq_true h1,h2⟩
   rw[this]at hy
   simp[Tr.kind]at hy
  ·refine⟨λr=>True,λhz=>(by cases hz),λr _=>⟨λb=>True,λhz=>(by cases hz),λb _=>⟨λhz=>(by cases hz),λ_=>?_⟩⟩⟩
   refine z4m hg aa G (λ_=>rfl) Z hp (z05 hg aa G (λ_=>rfl) Z hp ?_)
   simp
end
section
theorem zx4{gl:Fr}(hg:GL gl){s:Bt}{k:Int}{p:List Bt}{R:Bool->Prop}(hR:R true):PC Tp gl 4 [Arg.mk .str s,Arg.mk (.int .i64) k,Arg.mk (.row .str) p] [.bool] R:=by
 have:=(znk hg (zx3 hg) (lb s) k p).mono (R':=R) λr hr=>(show r=true from hr) ▸ hR
 rw[zjo]at this;exact this
end
end Go.X
end
