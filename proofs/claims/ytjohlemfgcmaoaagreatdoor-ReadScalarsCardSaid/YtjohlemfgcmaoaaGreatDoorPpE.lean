/- A part of the proof: nothing is stated here for its own sake. -/
import Derived.Test.YtjohlemfgcmaoaaGreatDoorPpD
import Derived.RangeFuncCalls
open _root_.Go.Addr renaming add->AD
open _root_.Array renaming getD_eq_getD_getElem?->BO,getElem?_append_left->CN,getElem?_eq_getElem->A0,getElem?_eq_some_iff->Au,getElem?_setIfInBounds_ne->A3,getElem?_toList->BI,length_toList->CP,push->DO,replicate->Br,size->Bi,size_push->AM,size_setIfInBounds->Bm
open _root_.Bool renaming and_eq_true->BP,eq_iff_iff->A6,or_eq_true->Cb
open _root_.Go.Builtin renaming append_->AU
open _root_.Go.Code renaming cond->Ei,region->Em
open _root_.Go.Deferred renaming ofValue->DU
open _root_.False renaming elim->Dz
open _root_.Go.Instr renaming storeAt->AI
open _root_.Int renaming toNat_natCast->AK
open _root_.Go.IntKind renaming wrap->Ar
open _root_.List renaming all_eq_true->A5,append_nil->Bu,cons_append->A8,drop_eq_getElem_cons->A9,drop_eq_nil_of_le->BJ,exists_cons_of_ne_nil->BK,ext_getElem?->BB,getElem?_append_left->BE,getElem?_append_right->Bf,getElem?_eq_getElem->AE,getElem?_eq_none->Ce,getElem?_eq_some_iff->AQ,getElem?_map->Ct,getElem?_modify->BX,getElem_append_left->Dk,getElem_append_right->CV,getElem_mem->BG,length->Db,length_append->AF,length_cons->AN,length_drop->AW,length_eq_zero_iff->Bj,length_map->BN,length_nil->Bh,length_pos_iff->BC,length_take->Bc,map_append->CG,mem_append->AP,mem_append_left->AJ,mem_append_right->AO,mem_cons->Ay,mem_cons_of_mem->Aw,mem_cons_self->AC,mem_flatMap->BH,mem_of_getElem?->Bl,mem_range->BF,mem_singleton->BQ,not_mem_nil->DX,range->BS,take_length->BL,take_of_length_le->Cv,take_succ_eq_append_getElem->Ba
open _root_.List.cons renaming injEq->Ca
open _root_.Nat renaming add_zero->CM,eq_of_beq_eq_true->Az,le_of_ble_eq_true->Cd,le_refl->Av,lt_or_ge->A1,mul_le_mul_right->AZ,mul_one->C5,one_mul->DK,succ_mul->C8,zero_add->AX,zero_le->Da,zero_mul->Ef
open _root_.Option renaming bind_some->CX,map_some->D6
open _root_.Option.some renaming inj->AL
open _root_.Go.Region renaming wanted->BD
open _root_.UInt8 renaming ofNat->Be
open _root_.Go.Value renaming int->Ep,string->Dw
open _root_.Go.Value.slice renaming injEq->A4
set_option linter.unusedVariables false
set_option maxRecDepth 100000
namespace Go.X
end Go.X
namespace Go.Proofs
end Go.Proofs
open Go Go.X Go.Proofs
section
namespace Go.X
section
variable {lo:Nat} {h h':Za} {M M':Fr} {s:Sl} {bs:List Nat}
def ORow(lo:Nat)(h:Za)(M:Fr)(T:Ty)(xs:List (El T))(s:Sl)(bs:List Nat):Prop:=
 (xs=[]/\s.len=0/\s.cap=0/\bs=[])\/∃(b:Nat) (cs:Array Value),bs=[b]/\s.a=some ⟨b,0,none⟩/\s.len=xs.length/\s.len<=s.cap/\Blk h b cs/\s.cap*sz T<=cs.size/\lo<=b/\M b=none/\∀i (hi:i<xs.length),Rd M T xs[i] (cut cs (i*sz T) (sz T))
theorem ORow.nil{T:Ty}:ORow lo h M T [] ⟨none,0,0⟩ []:=.inl ⟨rfl,rfl,rfl,rfl⟩
theorem ORow.len{T:Ty}{xs:List (El T)}(H:ORow lo h M T xs s bs):s.len=xs.length:=by
 rcases H with⟨rfl,h1,_⟩|⟨b,cs,_,_,h1,_⟩
 ·exact h1
 ·exact h1
theorem ORow.own{T:Ty}{xs:List (El T)}(H:ORow lo h M T xs s bs):∀c∈bs,lo<=c/\c<h.size/\M c=none:=by
 rcases H with⟨_,_,_,rfl⟩|⟨b,cs,rfl,_,_,_,e,_,h1,h2,_⟩
 ·intro c hc;cases hc
 ·intro c hc
  rw[BQ.1 hc]
  exact⟨h1,e.lt,h2⟩
theorem ORow.frame{T:Ty}{xs:List (El T)}(H:ORow lo h M T xs s bs)(f:∀c∈bs,h'[c]?=h[c]?)(le:Fr.le M M')(no:∀c∈bs,M' c=none):ORow lo h' M' T xs s bs:=by
 rcases H with H|⟨b,cs,rfl,h1,h2,h3,h4,h5,h6,h7,h8⟩
 ·exact .inl H
 ·refine .inr ⟨b,cs,rfl,h1,h2,h3,?_,h5,h6,no b (by simp),λi hi=>Rd.mono le (h8 i hi)⟩
  unfold Blk at h4 ⊢
  rw[f b (by simp)];exact h4
theorem ORow.call{T:Ty}{xs:List (El T)}(H:ORow lo h M T xs s bs)(L:Later h M h' M'):ORow lo h' M' T xs s bs:=by
 refine H.frame (λc hc=>L.keep.get c (H.own c hc).2.1) L.le λc hc=>?_
 rw[L.old c (H.own c hc).2.1];exact(H.own c hc).2.2
theorem ORow.rd{T:Ty}{xs:List (El T)}{bs all:List Nat}(H:ORow lo h M T xs s bs)(ag:AgM M h)(ha:∀c∈bs,c∈all)(hn:xs.length<=1000000):Rd (MxL M h all) (.row T) xs [slV s]:=by
 rcases H with⟨rfl,h1,h2,rfl⟩|⟨b,cs,rfl,h1,h2,h3,h4,h5,h6,h7,h8⟩
 ·refine⟨_,rfl,s.a,s.cap,?_,⟨by simp,by simp⟩,.inl rfl⟩
  show slV s=_
  unfold slV;rw[h1];rfl
 ·refine⟨_,rfl,s.a,s.cap,?_,⟨by omega,by omega⟩,?_⟩
  ·unfold slV;rw[h2]
  ·by_cases he:xs=[]
   ·exact .inl he
   ·refine .inr ⟨b,0,cs,h1,MxL.at (ha b (by simp)) h4,λi hi=>?_⟩
    rw[AX]
    exact Rd.mono (zt9 ag all) (h8 i hi)
theorem ORow.app{t e:TypeId}{z:Value}{bytes:Nat}{T:Ty}(E:ElemT Tp t e z (sz T) bytes)(ak:bytes<=1000){ty:TypeId}{xs:List (El T)}(ag:AgM M h)(H:ORow lo h M T xs s bs)(aA:lo<=h.size){bv cv:Nat}{vs:List Value}{x:El T}(hv:Blk h bv vs.toArray)(hx:Rd M T x vs)(hn:xs.length<=1000000){K:Value->Za->Prop}
  (hK:∀(s':Sl) (h':Za) (ah:List Nat),ORow lo h' M T (xs++[x]) s' ah->h.size<=h'.size->(∀c∈ah,c∈bs\/h.size<=c)->(∀j,j<h.size->j∉bs->h'[j]?=h[j]?)->K (.slice s'.a s'.len s'.cap) h'):
  XRun Tp (AU #[t,t] ty #[.slice s.a s.len s.cap,.slice (some ⟨bv,0,none⟩) 1 cv]) h K:=by
 have ap:vs.length=sz T:=Rd.len hx
 have h1:∀u∈vs,u.oneCell'=true:=Rd.one hx
 have ab:=H.len
 have aj:∀c,h.size<=c->M c=none:=by
  intro c hc
  cases e:M c with
  |none=>rfl
  |some cs=>have:=ag.lt e;omega
 obtain⟨b,cs,Z,hb,am⟩:∃b cs,RowO h s b cs (sz T)/\((bs=[b]/\lo<=b/\M b=none)\/(b=h.size/\bs=[]))/\∀i (hi:i<xs.length),i*sz T+sz T<=cs.size/\Rd M T xs[i] (cut cs (i*sz T) (sz T)):=by
  rcases H with⟨rfl,e1,e2,rfl⟩|⟨b,cs,rfl,e1,e2,e3,e4,e5,e6,e7,e8⟩
  ·exact⟨h.size,#[],⟨by omega,.inl ⟨e1,e2⟩⟩,.inr ⟨rfl,rfl⟩,λi hi=>by simp at hi⟩
  ·refine⟨b,cs,⟨e3,.inr ⟨e1,e4,e5⟩⟩,.inl ⟨rfl,e6,e7⟩,λi hi=>⟨?_,e8 i hi⟩⟩
   have:(i+1)*sz T<=s.cap*sz T:=AZ _ (by omega)
   rw[C8]at this;omega
 have ai:(s.len+1)*bytes<=140737488355328:=by
  have:(s.len+1)*bytes<=1000001*1000:=Nat.mul_le_mul (by omega) ak
  omega
 refine znh E Z hv ap h1 ai (by omega) λs' h' b' cs' N=>?_
 have aa:(b'∈bs/\lo<=b'/\M b'=none)\/h.size<=b':=by
  rcases N.new with e|e
  ·rcases hb with⟨q1,q2,q3⟩|⟨q1,_⟩
   ·subst e;exact .inl ⟨by rw[q1];simp,q2,q3⟩
   ·exact .inr (by omega)
  ·exact .inr e
 refine hK s' h' [b'] (.inr ⟨b',cs',rfl,N.a,by rw[N.len,AF,ab];rfl,by rw[N.len];exact N.cap,N.blk,N.size,?_,?_,λi hi=>?_⟩) N.grow (λc hc=>?_) λj hj hn=>N.old j hj λe=>?_
 ·rcases aa with q|q
  ·exact q.2.1
  ·omega
 ·rcases aa with q|q
  ·exact q.2.2
  ·exact aj b' q
 ·have ae:=N.cut
  have az:i<xs.length+1:=by simpa using hi
  have hm:(i+1)*sz T<=(s.len+1)*sz T:=AZ _ (by omega)
  have aC:(i+1)*sz T=i*sz T+sz T:=C8 _ _
  have ay:(s.len+1)*sz T=s.len*sz T+sz T:=C8 _ _
  have key:∀q,q<sz T->(cut cs' (i*sz T) (sz T))[q]?=(cut cs 0 (s.len*sz T)++vs)[i*sz T+q]?:=by
   intro q hq
   rw[Z3,if_pos hq,<-ae,Z3,if_pos (by omega),AX]
  by_cases af:i<xs.length
  ·rw[Dk af]
   obtain⟨g1,g2⟩:=am i af
   have aB:(i+1)*sz T<=s.len*sz T:=AZ _ (by omega)
   have e:cut cs' (i*sz T) (sz T)=cut cs (i*sz T) (sz T):=by
    apply BB
    intro q
    by_cases hq:q<sz T
    ·rw[key q hq,BE ?_,Z3,Z3,if_pos hq,if_pos (by omega),AX]
     have an:s.len*sz T<=cs.size:=by
      rcases Z.at_ with⟨q1,q2⟩|⟨_,_,q3⟩
      ·omega
      ·have:s.len*sz T<=s.cap*sz T:=AZ _ Z.le
       omega
     rw[zem (by omega)];omega
    ·rw[Z3,Z3,if_neg hq,if_neg hq]
   rw[e];exact g2
  ·have au:i=xs.length:=by omega
   subst au
   rw[CV (Av _)]
   have ar:(cut cs 0 (s.len*sz T)).length=xs.length*sz T:=by
    rcases Z.at_ with⟨q1,q2⟩|⟨_,_,q3⟩
    ·have:xs.length=0:=by omega
     rw[q1,this];unfold cut;simp
    ·have:s.len*sz T<=s.cap*sz T:=AZ _ Z.le
     rw[zem (by omega),ab]
   have e:cut cs' (xs.length*sz T) (sz T)=vs:=by
    apply BB
    intro q
    by_cases hq:q<sz T
    ·rw[key q hq,Bf (by omega),ar]
     congr 1;omega
    ·rw[Z3,if_neg hq,Ce (by omega)]
   rw[e]
   simpa using hx
 ·rw[BQ.1 hc]
  rcases aa with q|q
  ·exact .inl q.1
  ·exact .inr q
 ·rcases aa with q|q
  ·exact hn (by rw[e];exact q.1)
  ·omega
end
end Go.X
end
section
namespace Go.X
open Go Go.X Go.Proofs Go.RowKit
section
variable {cs:Array Value} {o n q z b bv cv lo c:Nat} {l:List Value} {g g':Za} {t e ty:TypeId} {zv v:Value} {K:Value -> Za -> Prop} {M:Fr}
abbrev tSp:Ty:=.pair (.int .i64) (.int .i64)
abbrev tNd:Ty:=.pair (.int .i64) (.pair tSp (.pair tSp (.pair (.row (.int .i64)) (.row tSp))))
structure Ax where
 ks:Sl
 kb:List Nat
 ps:Sl
 pb:List Nat
def ax0:Ax:=⟨⟨none,0,0⟩,[],⟨none,0,0⟩,[]⟩
def ndC(p:Nd×Ax):List Value:=[.int .i64 p.1.1,.int .i64 p.1.2.1.1,.int .i64 p.1.2.1.2,.int .i64 p.1.2.2.1.1,.int .i64 p.1.2.2.1.2,slV p.2.ks,slV p.2.ps]
structure CR (g:Za) (z:Nat) (els:List (List Value)) (sl:Sl) (b:Nat) (cs:Array Value):Prop where
 ro:RowO g sl b cs z
 ln:sl.len=els.length
 el:∀(i:Nat) (e:List Value),els[i]?=some e->(i+1)*z<=cs.size/\cut cs (i*z) z=e
theorem zsh(hl:l.length=n)(h:∀q,q<n->cs.toList[o+q]?=l[q]?):cut cs o n=l:=by
 apply BB
 intro q
 rw[Z3]
 split
 ·rename_i hq;exact h q hq
 ·rename_i hq;rw[Ce (by omega)]
theorem zuk(h:cut cs o n=l)(hq:q<n):cs.toList[o+q]?=l[q]?:=by rw[<-h,Z3,if_pos hq]
theorem CR.blk{els:List (List Value)}{sl:Sl}(H:CR g z els sl b cs)(hn:els≠[]):sl.a=some ⟨b,0,none⟩/\Blk g b cs:=by
 rcases H.ro.at_ with⟨h1,_⟩|⟨h1,h2,_⟩
 ·have:=H.ln;rw[h1]at this;exact absurd (Bj.1 this.symm) hn
 ·exact⟨h1,h2⟩
theorem CR.frame{els:List (List Value)}{sl:Sl}(H:CR g z els sl b cs)(f:els≠[]\/sl.cap≠0->g'[b]?=g[b]?):CR g' z els sl b cs:=by
 refine⟨⟨H.ro.le,?_⟩,H.ln,H.el⟩
 rcases H.ro.at_ with h1|⟨h1,h2,h3⟩
 ·exact .inl h1
 ·by_cases hc:sl.cap=0
  ·exact .inl ⟨by have:=H.ro.le;omega,hc⟩
  ·exact .inr ⟨h1,h2.keep (f (.inr hc)),h3⟩
theorem CR.app{bytes z:Nat}(E:ElemT Tp t e zv z bytes)(aj:bytes<=1000){els:List (List Value)}{sl:Sl}(H:CR g z els sl b cs){vs:List Value}(hv:Blk g bv vs.toArray)(ah:vs.length=z)(h1:∀u∈vs,u.oneCell'=true)(hn:els.length<=1000000)
  (hK:∀(s':Sl) (g':Za) (b':Nat) (cs':Array Value),CR g' z (els++[vs]) s' b' cs'->g.size<=g'.size->((b'=b/\¬(sl.len=0/\sl.cap=0))\/g.size<=b')->b'<g'.size->(∀j,j<g.size->j≠b'->g'[j]?=g[j]?)->K (.slice s'.a s'.len s'.cap) g'):
  XRun Tp (AU #[t,t] ty #[.slice sl.a sl.len sl.cap,.slice (some ⟨bv,0,none⟩) 1 cv]) g K:=by
 have Z:=H.ln
 have ai:(sl.len+1)*bytes<=140737488355328:=by
  have:(sl.len+1)*bytes<=1000001*1000:=Nat.mul_le_mul (by omega) aj
  omega
 obtain⟨b0,aa,ap,am,af⟩:∃b0 aa,RowO g sl b0 aa z/\((b0=b/\¬(sl.len=0/\sl.cap=0))\/g.size<=b0)/\(∀(i:Nat) (e:List Value),els[i]?=some e->(i+1)*z<=aa.size/\cut aa (i*z) z=e):=by
  by_cases h0:sl.len=0/\sl.cap=0
  ·have he:els=[]:=Bj.1 (by omega)
   exact⟨g.size,#[],⟨H.ro.le,.inl h0⟩,.inr (Av _),λi e hi=>by rw[he]at hi;cases hi⟩
  ·exact⟨b,cs,H.ro,.inl ⟨rfl,h0⟩,H.el⟩
 refine znh E ap hv ah h1 ai (by omega) λs' g' b' cs' N=>hK s' g' b' cs' ⟨⟨by rw[N.len];exact N.cap,.inr ⟨N.a,N.blk,N.size⟩⟩,by rw[N.len,AF,Z];rfl,λi e hi=>?_⟩ N.grow ?_ N.blk.lt N.old
 ·have au:i<els.length+1:=by
   have:=(AQ.1 hi).1
   rw[AF]at this;exact this
  have hm:(i+1)*z<=(sl.len+1)*z:=AZ _ (by omega)
  have az:(sl.len+1)*z<=s'.cap*z:=AZ _ N.cap
  have aA:(i+1)*z=i*z+z:=C8 _ _
  have ar:(sl.len+1)*z=sl.len*z+z:=C8 _ _
  have:=N.size
  refine⟨by omega,?_⟩
  have ae:=N.cut
  have key:∀q,i*z+q<(sl.len+1)*z->cs'.toList[i*z+q]?=(cut aa 0 (sl.len*z)++vs)[i*z+q]?:=λq hq=>by rw[<-ae,Z3,if_pos hq,AX]
  have ab:(cut aa 0 (sl.len*z)).length=sl.len*z:=by
   by_cases h0:els=[]
   ·have:sl.len=0:=by rw[Z,h0];rfl
    rw[this,Ef];unfold cut;simp
   ·have hl:els.length-1<els.length:=by have:=BC.2 h0;omega
    have:=(af (els.length-1) _ (AE hl)).1
    rw[show els.length-1+1=els.length by omega,<-Z]at this
    exact zem (by omega)
  by_cases an:i<els.length
  ·rw[BE an]at hi
   obtain⟨q1,q2⟩:=af i e hi
   have ay:(i+1)*z<=sl.len*z:=AZ _ (by omega)
   refine zsh (by rw[<-q2];exact zem (by omega)) λq hq=>?_
   rw[key q (by omega),BE (by rw[ab];omega),Z3,if_pos (by omega),AX]
   exact zuk q2 hq
  ·have ak:i=els.length:=by omega
   subst ak
   rw[Bf (Av _),Nat.sub_self]at hi
   cases hi
   refine zsh ah λq hq=>?_
   have e1:els.length*z=sl.len*z:=by rw[Z]
   rw[key q (by omega),Bf (by rw[ab];omega),ab]
   congr 1;omega
 ·rcases N.new with e|e
  ·rcases am with q|q
   ·exact .inl ⟨e.trans q.1,q.2⟩
   ·exact .inr (by omega)
  ·exact .inr e
theorem CR.set{els:List (List Value)}{sl:Sl}(H:CR g z els sl b cs)(hn:n<els.length)(hq:q<z)(B:Blk g' b (cs.setIfInBounds (n*z+q) v)):CR g' z (els.modify n (·.set q v)) sl b (cs.setIfInBounds (n*z+q) v):=by
 have ae:els≠[]:=λh=>by rw[h]at hn;simp at hn
 have h1:=(H.blk ae).1
 refine⟨⟨H.ro.le,?_⟩,by rw[List.length_modify];exact H.ln,λi e hi=>?_⟩
 ·rcases H.ro.at_ with⟨h2,_⟩|⟨h2,_,h3⟩
  ·have:=H.ln;omega
  ·exact .inr ⟨h2,B,by rw[Bm];exact h3⟩
 ·rw[BX]at hi
  cases hx:els[i]? with
  |none=>rw[hx]at hi;cases hi
  |some x=>
   rw[hx]at hi
   obtain⟨q1,q2⟩:=H.el i x hx
   have af:(i+1)*z=i*z+z:=C8 _ _
   have ab:x.length=z:=by rw[<-q2];exact zem (by omega)
   rw[Bm]
   refine⟨q1,?_⟩
   have hi:(if n=i then x.set q v else x)=e:=by simpa using hi
   rw[<-hi]
   refine zsh (by split <;> simp[ab]) λr hr=>?_
   rw[Array.toList_setIfInBounds,List.getElem?_set]
   by_cases Z:n=i
   ·subst Z
    rw[if_pos rfl,List.getElem?_set]
    by_cases aa:q=r
    ·subst aa
     rw[if_pos rfl,if_pos rfl,if_pos (by rw[CP];omega),if_pos (by omega)]
    ·rw[if_neg (by omega),if_neg aa];exact zuk q2 hr
   ·rw[if_neg Z,if_neg ?_]
    ·exact zuk q2 hr
    ·intro he
     rcases Nat.lt_or_gt_of_ne Z with h|h
     ·have:(n+1)*z<=i*z:=AZ _ h
      rw[C8]at this;omega
     ·have:(i+1)*z<=n*z:=AZ _ h
      omega
abbrev NA:=List (Nd×Ax)
def axO(p:Nd×Ax)(c:Nat):Prop:=c∈p.2.kb\/c∈p.2.pb
def nsO(na:NA)(sl:Sl)(b c:Nat):Prop:=(sl.cap≠0/\c=b)\/∃p∈na,axO p c
structure NdI (lo:Nat) (g:Za) (M:Fr) (p:Nd×Ax):Prop where
 kk:ORow lo g M (.int .i64) p.1.2.2.2.1 p.2.ks p.2.kb
 pp:ORow lo g M tSp p.1.2.2.2.2 p.2.ps p.2.pb
 dd:∀c∈p.2.kb,c∉p.2.pb
structure NS (lo:Nat) (g:Za) (M:Fr) (na:NA) (sl:Sl) (b:Nat) (cs:Array Value):Prop where
 cr:CR g 7 (na.map ndC) sl b cs
 lb:sl.cap≠0->lo<=b/\b<g.size/\M b=none
 nd:∀p∈na,NdI lo g M p
 dj:∀(i j:Nat) (p p':Nd×Ax) (c:Nat),na[i]?=some p->na[j]?=some p'->axO p c->axO p' c->i=j
 nb:∀p∈na,¬axO p b
theorem NS.len{na:NA}{sl:Sl}(H:NS lo g M na sl b cs):sl.len=na.length:=by rw[H.cr.ln,BN]
theorem NdI.own{p:Nd×Ax}(H:NdI lo g M p)(h:axO p c):lo<=c/\c<g.size/\M c=none:=by
 rcases h with h|h
 ·exact H.kk.own c h
 ·exact H.pp.own c h
theorem NS.own{na:NA}{sl:Sl}(H:NS lo g M na sl b cs)(h:nsO na sl b c):lo<=c/\c<g.size/\M c=none:=by
 rcases h with⟨h1,rfl⟩|⟨p,hp,h⟩
 ·exact H.lb h1
 ·exact(H.nd p hp).own h
theorem NdI.frame{p:Nd×Ax}(H:NdI lo g M p)(f:∀c,axO p c->g'[c]?=g[c]?):NdI lo g' M p:=
 ⟨H.kk.frame (λc hc=>f c (.inl hc)) (Fr.le.refl _) λc hc=>(H.kk.own c hc).2.2,H.pp.frame (λc hc=>f c (.inr hc)) (Fr.le.refl _) λc hc=>(H.pp.own c hc).2.2,H.dd⟩
theorem NS.frame{na:NA}{sl:Sl}(H:NS lo g M na sl b cs)(hz:g.size<=g'.size)(f:∀c,nsO na sl b c->g'[c]?=g[c]?):NS lo g' M na sl b cs:=by
 refine⟨H.cr.frame λh=>f b (.inl ⟨?_,rfl⟩),λh=>by have:=H.lb h;exact⟨this.1,by omega,this.2.2⟩,λp hp=>(H.nd p hp).frame λc hc=>f c (.inr ⟨p,hp,hc⟩),H.dj,H.nb⟩
 rcases h with h|h
 ·have:=H.cr.ln
  have h2:=H.cr.ro.le
  have:=BC.2 h
  omega
 ·exact h
theorem NS.nil:NS lo g M [] ⟨none,0,0⟩ b cs:=
 ⟨⟨⟨Av _,.inl ⟨rfl,rfl⟩⟩,rfl,λi e h=>(by cases h)⟩,λh=>absurd rfl h,λp hp=>(by cases hp),λi j p p' c h=>(by cases h),λp hp=>(by cases hp)⟩
theorem z0c(p:Nd×Ax):∀u∈ndC p,u.oneCell'=true:=by
 intro u hu
 unfold ndC slV at hu
 simp at hu
 rcases hu with rfl|rfl|rfl|rfl|rfl|rfl|rfl <;> rfl
theorem NS.push{bytes:Nat}(E:ElemT Tp t e zv 7 bytes)(ai:bytes<=1000)(ag:AgM M g)(an:lo<=g.size){na:NA}{sl:Sl}(H:NS lo g M na sl b cs){x:Nd}(ak:x.2.2.2.1=[])(am:x.2.2.2.2=[])(hv:Blk g bv (ndC (x,ax0)).toArray)(hn:na.length<=1000000)
  (hK:∀(s':Sl) (g':Za) (b':Nat) (cs':Array Value),NS lo g' M (na++[(x,ax0)]) s' b' cs'->g.size<=g'.size->(∀c,nsO (na++[(x,ax0)]) s' b' c->nsO na sl b c\/g.size<=c)->(∀j,j<g.size->¬nsO na sl b j->g'[j]?=g[j]?)->K (.slice s'.a s'.len s'.cap) g'):
  XRun Tp (AU #[t,t] ty #[.slice sl.a sl.len sl.cap,.slice (some ⟨bv,0,none⟩) 1 cv]) g K:=by
 have aj:∀c,g.size<=c->M c=none:=by
  intro c hc
  cases e:M c with
  |none=>rfl
  |some cs=>have:=ag.lt e;omega
 refine CR.app E ai H.cr hv rfl (z0c _) (by rw[BN];exact hn) λs' g' b' cs' C z1 ae ah fr=>?_
 have aa:nsO na sl b b'\/g.size<=b':=by
  rcases ae with⟨e1,e2⟩|e1
  ·exact .inl (.inl ⟨by have:=H.cr.ro.le;omega,e1⟩)
  ·exact .inr e1
 have af:∀p∈na,¬axO p b':=λp hp hc=>by
  rcases ae with⟨e1,_⟩|e1
  ·rw[e1]at hc;exact H.nb p hp hc
  ·have:=((H.nd p hp).own hc).2.1;omega
 have Z:∀c,¬axO (x,ax0) c:=λc hc=>by
  rcases hc with hc|hc <;> exact absurd hc (by simp[ax0])
 have mem:∀p∈na++[(x,ax0)],p∈na\/p=(x,ax0):=λp hp=>by simpa using hp
 refine hK s' g' b' cs' ⟨by rw[CG];exact C,λ_=>?_,λp hp=>?_,?_,λp hp=>?_⟩ z1 (λc hc=>?_) (λj hj hn=>fr j hj λe=>?_)
 ·rcases aa with h|h
  ·have:=H.own h;exact⟨this.1,ah,this.2.2⟩
  ·exact⟨by omega,ah,aj b' h⟩
 ·rcases mem p hp with hp|rfl
  ·exact(H.nd p hp).frame λc hc=>fr c ((H.nd p hp).own hc).2.1 λe=>af p hp (e ▸ hc)
  ·refine⟨?_,?_,λc hc=>by simp[ax0]at hc⟩
   ·show ORow lo g' M (.int .i64) x.2.2.2.1 _ _;rw[ak];exact .nil
   ·show ORow lo g' M tSp x.2.2.2.2 _ _;rw[am];exact .nil
 ·intro i j p p' c hi hj hc ab
  have q:∀(i:Nat) (p:Nd×Ax),(na++[(x,ax0)])[i]?=some p->axO p c->na[i]?=some p:=λi p hi hc=>by
   rw[List.getElem?_append]at hi
   split at hi
   ·exact hi
   ·have:=Bl hi
    rw[BQ]at this
    subst this
    exact absurd hc (Z c)
  exact H.dj i j p p' c (q i p hi hc) (q j p' hj ab) hc ab
 ·rcases mem p hp with hp|rfl
  ·exact af p hp
  ·exact Z _
 ·rcases hc with⟨_,rfl⟩|⟨p,hp,hc⟩
  ·exact aa
  ·rcases mem p hp with hp|rfl
   ·exact .inl (.inr ⟨p,hp,hc⟩)
   ·exact absurd hc (Z c)
 ·subst e
  rcases aa with h|h
  ·exact hn h
  ·omega
theorem NS.upd{na:NA}{sl:Sl}(H:NS lo g M na sl b cs)(hn:n<na.length){f:Nd×Ax->Nd×Ax}(hq:q<7)(B:Blk g' b (cs.setIfInBounds (n*7+q) v))(hz:g.size<=g'.size)(hc:ndC (f na[n])=(ndC na[n]).set q v)(hI:NdI lo g' M (f na[n]))(ho:∀c,axO (f na[n]) c->axO na[n] c\/g.size<=c)(fr:∀j,j<g.size->j≠b->¬axO na[n] j->g'[j]?=g[j]?):
  NS lo g' M (na.modify n f) sl b (cs.setIfInBounds (n*7+q) v)/\∀c,nsO (na.modify n f) sl b c->nsO na sl b c\/g.size<=c:=by
 have Z:na[n]?=some na[n]:=AE hn
 have mem:∀p∈na.modify n f,p=f na[n]\/∃j,j≠n/\na[j]?=some p:=λp hp=>by
  obtain⟨j,hj⟩:=List.mem_iff_getElem?.1 hp
  rw[BX]at hj
  by_cases e:n=j
  ·subst e;rw[Z]at hj;left;simpa using hj.symm
  ·right;refine⟨j,λh=>e h.symm,?_⟩
   simpa[e]using hj
 have ae:sl.cap≠0:=by have:=H.len;have:=H.cr.ro.le;omega
 have af:=H.lb ae
 refine⟨⟨?_,λh=>⟨af.1,by omega,af.2.2⟩,λp hp=>?_,?_,λp hp=>?_⟩,λc h=>?_⟩
 ·have:=H.cr.set (n:=n) (q:=q) (v:=v) (by rw[BN];exact hn) hq B
  have e:(na.modify n f).map ndC=(na.map ndC).modify n (·.set q v):=by
   apply BB
   intro i
   rw[Ct,BX,BX,Ct]
   by_cases e:n=i
   ·subst e;rw[Z];simp[hc]
   ·simp[e]
  rw[e];exact this
 ·rcases mem p hp with rfl|⟨j,hj,aa⟩
  ·exact hI
  ·have ab:=Bl aa
   exact(H.nd p ab).frame λc hc=>fr c ((H.nd p ab).own hc).2.1 (λe=>H.nb p ab (e ▸ hc)) λh=>hj (H.dj j n p _ c aa Z hc h)
 ·intro i j p p' c hi hj hc ah
  have q:∀(i:Nat) (p:Nd×Ax),(na.modify n f)[i]?=some p->axO p c->∃p0,na[i]?=some p0/\((axO p0 c)\/(i=n/\g.size<=c)):=λi p hi hc=>by
   rw[BX]at hi
   by_cases e:n=i
   ·subst e
    rw[Z]at hi
    have:f na[n]=p:=by simpa using hi
    subst this
    rcases ho c hc with h|h
    ·exact⟨_,Z,.inl h⟩
    ·exact⟨_,Z,.inr ⟨rfl,h⟩⟩
   ·exact⟨p,by simpa[e]using hi,.inl hc⟩
  obtain⟨p0,a1,a2⟩:=q i p hi hc
  obtain⟨p1,b1,b2⟩:=q j p' hj ah
  rcases a2 with a2|⟨a2,a3⟩
  ·rcases b2 with b2|⟨b2,b3⟩
   ·exact H.dj i j p0 p1 c a1 b1 a2 b2
   ·have:=((H.nd p0 (Bl a1)).own a2).2.1;omega
  ·rcases b2 with b2|⟨b2,b3⟩
   ·have:=((H.nd p1 (Bl b1)).own b2).2.1;omega
   ·omega
 ·rcases mem p hp with rfl|⟨j,hj,aa⟩
  ·intro hc
   rcases ho b hc with h|h
   ·exact H.nb _ (Bl Z) h
   ·omega
  ·exact H.nb p (Bl aa)
 ·rcases h with⟨h1,h2⟩|⟨p,hp,h⟩
  ·exact .inl (.inl ⟨h1,h2⟩)
  ·rcases mem p hp with rfl|⟨j,hj,aa⟩
   ·rcases ho c h with h|h
    ·exact .inl (.inr ⟨_,Bl Z,h⟩)
    ·exact .inr h
   ·exact .inl (.inr ⟨p,Bl aa,h⟩)
end
section
variable {t:Bs} {gl:Fr}
abbrev zul:Ty:=.pair .str (.row tNd)
theorem slice_form{p:Sp}{R:Bt->Prop}(h:R (bl (Q6 t p))):
  ((bif (bif (decide ((p.1:Int)<0))then true else(decide ((p.1:Int)>p.2)))then true else(decide ((p.2:Int)>((bl t).size:Int))))=true->R (⟨#[]⟩:Bt)) /\
  ((bif (bif (decide ((p.1:Int)<0))then true else(decide ((p.1:Int)>p.2)))then true else(decide ((p.2:Int)>((bl t).size:Int))))=false->(0<=(p.1:Int)/\(p.1:Int)<=p.2/\(p.2:Int)<=((bl t).size:Int))/\R ((bl t).extract (p.1:Int).toNat (p.2:Int).toNat)):=by
 rw[Zf]
 have e:(bif (bif (decide ((p.1:Int)<0))then true else(decide ((p.1:Int)>p.2)))then true else(decide ((p.2:Int)>(t.length:Int))))=decide (p.1<0\/p.2<p.1\/(t.length:Int)<p.2):=by
  rw[A6]
  simp only[Bool.cond_eq_ite,Bool.if_true_left,Cb,decide_eq_true_eq]
  omega
 rw[e]
 unfold Q6 at h
 refine⟨λhx=>?_,λhx=>?_⟩
 ·rw[if_pos (of_decide_eq_true hx)]at h;exact h
 ·have hx:=of_decide_eq_false hx
  rw[if_neg hx]at h
  refine⟨by omega,?_⟩
  rw[Jy];exact h
theorem zum{nodes:List Nd}{p:Sp}{R:Bt->Prop}(h:R (bl (Q6 t p))):PC Tp gl 31 [Arg.mk zul (bl t,nodes),Arg.mk tSp p] [.str] R:=by
 apply zm6
 exact slice_form h
theorem z0d(hg:GL gl)(ht:t.length<=65536){nodes:List Nd}{k:Nat}{x:Nd}(hx:nodes[k]?=some x){R:Bt->Prop}(h:R (bl (zwy t x))):PC Tp gl 112 [Arg.mk zul (bl t,nodes),Arg.mk (.int .i64) (k:Int)] [.str] R:=by
 apply zr2
 refine⟨x,⟨by omega,by rw[AK];exact hx⟩,?_⟩
 refine zum (p:=x.2.2.1) ?_
 have:=zlm t x.2.2.1
 exact zgz hg (by omega) h
theorem z3i(hg:GL gl){k:Int}(ht:t.length<=65536){R:Bt->Prop}(h:R (bl (zbu k t))):PC Tp gl 111 [Arg.mk (.int .i64) k,Arg.mk .str (bl t)] [.str] R:=by
 apply zpn
 unfold zbu at h
 refine⟨λh1=>?_,λh1=>⟨λh2=>?_,λh2=>⟨λh3=>?_,λh3=>?_⟩⟩⟩
 ·rw[if_pos (by simpa using h1)]at h;exact h
 ·rw[if_neg (by simpa using h1),if_pos (by simpa using h2)]at h
  exact zhz (by omega) (zrw hg.pow (zcj t (by omega)) h)
 ·rw[if_neg (by simpa using h1),if_neg (by simpa using h2),if_pos (by simpa using h3)]at h
  exact zgz hg (by omega) h
 ·rw[if_neg (by simpa using h1),if_neg (by simpa using h2),if_neg (by simpa using h3)]at h;exact h
end
end Go.X
end
section
namespace Go.X
section
variable {h:Za} {sk si:Sl} {bk bb:List Nat} {b bv cv:Nat} {cs:Array Value} {K:Value -> Za -> Prop}
theorem OTp.row{v:Tr}{bf:Nat->List Nat}(H:OTp h v sk si bk bb b cs bf){h':Za}(k:∀c∈bb,h'[c]?=h[c]?):RowO h' si b cs 4:=by
 refine⟨by have:=H.hn;omega,?_⟩
 rcases H.hz with⟨h0,_,h2⟩|⟨Z,ha,hb,hc⟩
 ·exact .inl ⟨by rw[H.hn.1,h0];rfl,h2⟩
 ·exact .inr ⟨ha,hb.keep (k b (by rw[Z];simp)),hc⟩
theorem zwo(x:Tr)(sk si:Sl):∀u∈Jr x sk si,u.oneCell'=true:=by
 intro u hu
 simp[Jr]at hu
 rcases hu with rfl|rfl|rfl|rfl <;> simp[Value.oneCell',slV]
theorem z8o{ks:List Bt}(H:OKeys h ks bk sk){s:Bt}(hv:Blk h bv #[.string s])(hn:ks.length<=1048576)
  (hK:∀(sk':Sl) (h':Za) (kb:Nat),OKeys h' (ks++[s]) [kb] sk'->(kb∈bk\/h.size<=kb)->h.size<=h'.size->(∀c,c<h.size->c∉bk->h'[c]?=h[c]?)->K (.slice sk'.a sk'.len sk'.cap) h'):
  XRun Tp (AU #[23,23] 23 #[.slice sk.a sk.len sk.cap,.slice (some ⟨bv,0,none⟩) 1 cv]) h K:=by
 obtain⟨l1,l2,l3,l4⟩:=H
 obtain⟨b,cs,aa,hb,Z⟩:∃b cs,RowO h sk b cs 1/\(b∈bk\/h.size<=b)/\cut cs 0 (sk.len*1)=ks.map Dw:=by
  rcases l4 with⟨rfl,rfl,h0⟩|⟨b,cs,rfl,e1,e2,e3,e4⟩
  ·refine⟨h.size,#[],⟨by omega,.inl ⟨l1,h0⟩⟩,.inr (Av _),?_⟩
   rw[l1];rfl
  ·exact⟨b,cs,⟨by omega,.inr ⟨e1,e2,by omega⟩⟩,.inl (by simp),by rw[l1,C5];exact e4⟩
 have ab:∀c∈bk,c<h.size:=by
  intro c hc
  rcases l4 with⟨_,rfl,_⟩|⟨b,cs,rfl,_,e2,_⟩
  ·cases hc
  ·simp at hc;subst hc;exact e2.lt
 refine znh (vs:=[.string s]) z7o aa hv rfl (λu hu=>by simp at hu;subst hu;simp[Value.oneCell']) (by omega) (by omega) λs' h' b' cs' N=>?_
 rw[Z]at N
 have hl:(ks++[s]).length=sk.len+1:=by simp[l1]
 refine hK s' h' b' ⟨by rw[hl];exact N.len,by rw[hl];omega,by rw[hl];exact N.cap,.inr ⟨b',cs',rfl,N.a,N.blk,by have:=N.size;omega,?_⟩⟩ ?_ N.grow λc hc hn=>N.old c hc λe=>?_
 ·rw[hl]
  have:=N.cut
  rw[C5]at this
  rw[this];simp
 ·rcases N.new with e|e
  ·rw[e];exact hb
  ·exact .inr e
 ·rcases N.new with e2|e2
  ·rcases hb with e3|e3
   ·exact hn (by rw[e,e2];exact e3)
   ·omega
  ·omega
theorem z3j{g h:Za}{x:Tr}{bf:Nat->List Nat}(H:OTp g x sk si bk bb b cs bf)(kb:∀c∈bb,h[c]?=g[c]?){w:Tr}{wk wi:Sl}(hv:Blk h bv (Jr w wk wi).toArray)(hn:x.items.length<=1000000000)
  (hK:∀(si':Sl) (h':Za) (b':Nat) (cs':Array Value),si'.a=some ⟨b',0,none⟩->si'.len=x.items.length+1->x.items.length+1<=si'.cap->Blk h' b' cs'->si'.cap*4<=cs'.size->cut cs' 0 ((x.items.length+1)*4)=cut cs 0 (x.items.length*4)++Jr w wk wi ->
   ((b'=b/\b∈bb)\/h.size<=b')->h.size<=h'.size->(∀c,c<h.size->c∉bb->h'[c]?=h[c]?)->K (.slice si'.a si'.len si'.cap) h'):
  XRun Tp (AU #[24,24] 24 #[.slice si.a si.len si.cap,.slice (some ⟨bv,0,none⟩) 1 cv]) h K:=by
 have Z:=H.hn.1
 obtain⟨b0,ae,af⟩:∃b0,RowO h si b0 cs 4/\((b0=b/\b∈bb)\/b0=h.size):=by
  have ab:=OTp.row H (h':=h) kb
  rcases H.hz with⟨h0,_,h2⟩|⟨ah,_⟩
  ·exact⟨h.size,⟨ab.le,.inl ⟨by rw[Z,h0];rfl,h2⟩⟩,.inr rfl⟩
  ·exact⟨b,ab,.inl ⟨rfl,by rw[ah];simp⟩⟩
 refine znh (vs:=Jr w wk wi) z2v ae hv rfl (zwo w wk wi) (by omega) (by omega) λs' h' b' cs' N=>?_
 rw[Z]at N
 have aa:(b'=b/\b∈bb)\/h.size<=b':=by
  rcases N.new with e|e
  ·rcases af with⟨e2,hm⟩|e2
   ·exact .inl ⟨by rw[e,e2],hm⟩
   ·exact .inr (by omega)
  ·exact .inr e
 refine hK s' h' b' cs' N.a N.len N.cap N.blk N.size N.cut aa N.grow λc hc hn=>N.old c hc λe=>?_
 rcases aa with⟨e2,hm⟩|e2
 ·exact hn (by rw[e,e2];exact hm)
 ·omega
end
section
variable {g':Za} {s:Bt} {bv cv:Nat} {K:Za -> Prop}
structure BT (lo hi:Nat) (g:Za) (b0:Nat) (v:Tr) (sk si:Sl) (bk bb:List Nat) (b:Nat) (cs:Array Value) (bf:Nat->List Nat):Prop where
 box:Blk g b0 (Jr v sk si).toArray
 p:OTp g v sk si bk bb b cs bf
 ok:∀c∈bk,lo<=c/\c<hi/\c≠b0
 ob:∀c∈bb,lo<=c/\c<hi/\c≠b0
 oi:∀i,i<v.items.length->∀c∈bf i,lo<=c/\c<hi/\c≠b0
 lb:lo<=b0
 hg:hi<=g.size
def Own(lo hi:Nat)(g:Za)(b0:Nat)(v:Tr)(sk si:Sl):Prop:=∃(bk bb:List Nat) (b:Nat) (cs:Array Value) (bf:Nat->List Nat),BT lo hi g b0 v sk si bk bb b cs bf
section
variable {lo hi : Nat} {g : Za} {b0 : Nat} {v : Tr} {sk si : Sl}
theorem Own.box(H:Own lo hi g b0 v sk si):Blk g b0 (Jr v sk si).toArray:=by
 obtain⟨bk,bb,b,cs,bf,B⟩:=H;exact B.box
theorem Own.low(H:Own lo hi g b0 v sk si):lo<=b0:=by
 obtain⟨bk,bb,b,cs,bf,B⟩:=H;exact B.lb
theorem BT.move{bk bb:List Nat}{b:Nat}{cs:Array Value}{bf:Nat->List Nat}(B:BT lo hi g b0 v sk si bk bb b cs bf)(f:∀c,c∈bk\/c∈bb\/(∃i,i<v.items.length/\c∈bf i)->g'[c]?=g[c]?):OTp g' v sk si bk bb b cs bf:=
 ⟨B.p.keys.frame λc hc=>f c (.inl hc),B.p.hn,by
  rcases B.p.hz with h|⟨h1,h2,h3,h4⟩
  ·exact .inl h
  ·exact .inr ⟨h1,h2,h3.keep (f b (.inr (.inl (by rw[h1];simp)))),h4⟩,λi hi=>(B.p.hi i hi).frame λc hc=>f c (.inr (.inr ⟨i,hi,hc⟩)),B.p.nk,B.p.d1,B.p.d2,B.p.d3,B.p.d4⟩
theorem Own.keep(H:Own lo hi g b0 v sk si)(k:Keep g.size g g'):Own lo hi g' b0 v sk si:=by
 obtain⟨bk,bb,b,cs,bf,B⟩:=H
 have hz:=k.size
 have hg:=B.hg
 refine⟨bk,bb,b,cs,bf,B.box.ofKeep k,B.move λc hc=>k.get c ?_,B.ok,B.ob,B.oi,B.lb,by omega⟩
 rcases hc with hc|hc|⟨i,hi,hc⟩
 ·have:=(B.ok c hc).2.1;omega
 ·have:=(B.ob c hc).2.1;omega
 ·have:=(B.oi i hi c hc).2.1;omega
theorem Own.ot(H:Own lo hi g b0 v sk si):∃bs:List Nat,OT g v bs (Jr v sk si)/\∀c∈bs,lo<=c/\c≠b0:=by
 obtain⟨bk,bb,b,cs,bf,B⟩:=H
 refine⟨_,B.p.ot,λc hc=>?_⟩
 rcases zz9.1 hc with h|h|⟨i,hi,h⟩
 ·exact⟨(B.ok c h).1,(B.ok c h).2.2⟩
 ·exact⟨(B.ob c h).1,(B.ob c h).2.2⟩
 ·exact⟨(B.oi i hi c h).1,(B.oi i hi c h).2.2⟩
theorem Own.new{k:Int}(B:Blk g b0 (Jr (.mk k s [] []) ⟨none,0,0⟩ ⟨none,0,0⟩).toArray)(h:lo<=b0)(hh:hi<=g.size):Own lo hi g b0 (.mk k s [] []) ⟨none,0,0⟩ ⟨none,0,0⟩:=
 ⟨[],[],0,#[],λ_=>[],B,⟨⟨rfl,Da _,Da _,.inl ⟨rfl,rfl,rfl⟩⟩,⟨rfl,Da _,Da _⟩,.inl ⟨rfl,rfl,rfl⟩,λi hi=>absurd hi (Nat.not_lt_zero i),List.nodup_nil,λc hc=>(by cases hc),λc hc=>(by cases hc),λc hc=>(by cases hc),λi j hi=>absurd hi (Nat.not_lt_zero i)⟩,λc hc=>(by cases hc),λc hc=>(by cases hc),λi hi=>absurd hi (Nat.not_lt_zero i),h,hh⟩
theorem qe2:Z6 Tp 23=true:=by kernel_rfl
theorem qe3:Qh Tp 23=1:=by kernel_rfl
theorem qe4:Z6 Tp 24=true:=by kernel_rfl
theorem qe5:Qh Tp 24=1:=by kernel_rfl
theorem Own.key(H:Own lo hi g b0 v sk si)(am:lo<=g.size)(hn:v.keys.length<=1048576)(hv:Blk g bv #[.string s])
  (hK:∀(g':Za) (s':Sl),Own lo g'.size g' b0 (.mk v.kind v.text (v.keys++[s]) v.items) s' si->Keep lo g g'->g.size<=g'.size->K g'):
  XRun Tp (AU #[23,23] 23 #[.slice sk.a sk.len sk.cap,.slice (some ⟨bv,0,none⟩) 1 cv]) g (λw g1=>∃x:Sl,w=.slice x.a x.len x.cap/\XRunU Tp (AI 23 (.pointer (some ⟨b0,2,none⟩)) (.slice x.a x.len x.cap)) g1 K):=by
 obtain⟨bk,bb,b,cs,bf,B⟩:=H
 refine z8o B.p.keys hv hn λs' g1 kb ko kn z1 f1=>⟨s',rfl,?_⟩
 have aj:=B.box.lt
 have hg:=B.hg
 have ab:∀c∈bk,lo<=c/\c<g.size/\c≠b0:=λc hc=>by have:=B.ok c hc;exact⟨this.1,by omega,this.2.2⟩
 have Z:∀c∈bb,lo<=c/\c<g.size/\c≠b0:=λc hc=>by have:=B.ob c hc;exact⟨this.1,by omega,this.2.2⟩
 have aa:∀i,i<v.items.length->∀c∈bf i,lo<=c/\c<g.size/\c≠b0:=λi hi c hc=>by have:=B.oi i hi c hc;exact⟨this.1,by omega,this.2.2⟩
 have ai:b0∉bk:=λh=>(ab b0 h).2.2 rfl
 refine Ji qe2 qe3 (B.box.keep (f1 b0 aj ai)) (by show 2<4;omega) rfl λg2 u1 u2 u3=>?_
 have ak:kb<g1.size:=by
  obtain⟨_,_,_,h|⟨b',cs',e,_,h,_⟩⟩:=ko
  ·exact absurd h.1 (by simp)
  ·rw[Ca]at e;rw[e.1];exact h.lt
 have af:lo<=kb/\kb≠b0:=by
  rcases kn with h|h
  ·exact⟨(ab kb h).1,(ab kb h).2.2⟩
  ·exact⟨by omega,by omega⟩
 have ae:∀c,c<g.size->c∉bk->c≠kb:=λc hc hn e=>by
  subst e
  rcases kn with h|h
  ·exact hn h
  ·omega
 have fr:∀c,c<g.size->c∉bk->c≠b0->g2[c]?=g[c]?:=λc hc hn h0=>(u3 c h0).trans (f1 c hc hn)
 have ah:∀i,i<v.items.length->∀c∈bf i,c∉bk:=λi hi c hc h=>B.p.d2 c h i hi hc
 refine hK g2 s' ⟨[kb],bb,b,cs,bf,u1,⟨ko.frame λc hc=>u3 c ?_,B.p.hn,?_,λi hi=>(B.p.hi i hi).frame λc hc=>fr c (aa i hi c hc).2.1 (ah i hi c hc) (aa i hi c hc).2.2,by simp,λc hc=>?_,λc hc i hi hm=>?_,B.p.d3,B.p.d4⟩,λc hc=>?_,λc hc=>?_,λi hi c hc=>?_,B.lb,Av _⟩ ⟨by omega,λj hj=>fr j (by omega) (λh=>?_) ?_⟩ (by omega)
 ·rw[BQ.1 hc];exact af.2
 ·rcases B.p.hz with h|⟨h1,h2,h3,h4⟩
  ·exact .inl h
  ·have hm:b∈bb:=by rw[h1];simp
   exact .inr ⟨h1,h2,h3.keep (fr b (Z b hm).2.1 (λh=>B.p.d1 b h hm) (Z b hm).2.2),h4⟩
 ·rw[BQ.1 hc]
  intro hm
  exact ae kb (Z kb hm).2.1 (λh=>B.p.d1 kb h hm) rfl
 ·rw[BQ.1 hc]at hm
  exact ae kb (aa i hi kb hm).2.1 (ah i hi kb hm) rfl
 ·rw[BQ.1 hc];exact⟨af.1,by omega,af.2⟩
 ·have:=Z c hc;exact⟨this.1,by omega,this.2.2⟩
 ·have:=aa i hi c hc;exact⟨this.1,by omega,this.2.2⟩
 ·have:=(ab j h).1;omega
 ·have:=B.lb;omega
theorem Own.item(H:Own lo hi g b0 v sk si)(ap:lo<=g.size)(hn:v.items.length<=1000000){w:Tr}{wk wi:Sl}(hv:Blk g bv (Jr w wk wi).toArray){bw:List Nat}(ow:OT g w bw (Jr w wk wi))(an:bv∉bw)(hw:∀c∈bw,lo<=c/\c≠b0/\hi<=c)
  (hK:∀(g':Za) (s':Sl),Own lo g'.size g' b0 (.mk v.kind v.text v.keys (v.items++[w])) sk s'->Keep lo g g'->g.size<=g'.size->K g'):
  XRun Tp (AU #[24,24] 24 #[.slice si.a si.len si.cap,.slice (some ⟨bv,0,none⟩) 1 cv]) g (λu g1=>∃x:Sl,u=.slice x.a x.len x.cap/\XRunU Tp (AI 24 (.pointer (some ⟨b0,3,none⟩)) (.slice x.a x.len x.cap)) g1 K):=by
 obtain⟨bk,bb,b,cs,bf,B⟩:=H
 refine z3j B.p (λc hc=>rfl) hv (by omega) λs' g1 b' cs' e1 e2 e3 e4 e5 e6 ak z1 f1=>⟨s',rfl,?_⟩
 have am:=B.box.lt
 have hg:=B.hg
 have ab:∀c∈bk,lo<=c/\c<g.size/\c≠b0:=λc hc=>by have:=B.ok c hc;exact⟨this.1,by omega,this.2.2⟩
 have af:∀c∈bb,lo<=c/\c<g.size/\c≠b0:=λc hc=>by have:=B.ob c hc;exact⟨this.1,by omega,this.2.2⟩
 have aa:∀i,i<v.items.length->∀c∈bf i,lo<=c/\c<g.size/\c≠b0:=λi hi c hc=>by have:=B.oi i hi c hc;exact⟨this.1,by omega,this.2.2⟩
 have ae:∀c∈bw,c∉bk/\c∉bb/\∀i,i<v.items.length->c∉bf i:=λc hc=>by
  have h1:=(hw c hc).2.2
  exact⟨λh=>by have:=(B.ok c h).2.1;omega,λh=>by have:=(B.ob c h).2.1;omega,λi hi h=>by have:=(B.oi i hi c h).2.1;omega⟩
 have aj:b0∉bb:=λh=>(B.ob b0 h).2.2 rfl
 refine Ji qe4 qe5 (B.box.keep (f1 b0 am aj)) (by show 3<4;omega) rfl λg2 u1 u2 u3=>?_
 have Z:lo<=b'/\b'≠b0:=by
  rcases ak with⟨h,hm⟩|h
  ·rw[h];exact⟨(af b hm).1,(af b hm).2.2⟩
  ·exact⟨by omega,by omega⟩
 have ah:∀c,c<g.size->c∉bb->c≠b':=λc hc hn e=>by
  subst e
  rcases ak with⟨h,hm⟩|h
  ·rw[h]at hn;exact hn hm
  ·omega
 have fr:∀c,c<g.size->c∉bb->c≠b0->g2[c]?=g[c]?:=λc hc hn h0=>(u3 c h0).trans (f1 c hc hn)
 have ai:∀i,i<v.items.length->∀c∈bf i,c∉bb:=λi hi c hc h=>B.p.d3 c h i hi hc
 have N:=OTp.ins (h':=g2) B.p (k:=v.items.length) (Av _) (w:=w) (bw:=bw) (cw:=Jr w wk wi) (ow.frame λc hc=>fr c (ow.lt c hc) (ae c hc).2.1 (hw c hc).2.1)
  (λi hi c hc=>fr c (aa i hi c hc).2.1 (ai i hi c hc) (aa i hi c hc).2.2) e1 (e4.keep (u3 b' Z.2)) e2 e3 e5 (by omega)
  (by
   have hl:(cut cs 0 (v.items.length*4)).length<=v.items.length*4:=by unfold cut;rw[Bc];omega
   rw[e6,Cv hl,BJ hl,Bu])
  (λi hi hm=>ah b' (aa i hi b' hm).2.1 (ai i hi b' hm) rfl) (λhm=>ah b' (ow.lt b' hm) (ae b' hm).2.1 rfl) (λc hc i hi=>(ae c hc).2.2 i hi)
  (B.p.keys.frame λc hc=>fr c (ab c hc).2.1 (B.p.d1 c hc) (ab c hc).2.2) B.p.nk (λhm=>ah b' (ab b' hm).2.1 (B.p.d1 b' hm) rfl) (λc hc i hi=>B.p.d2 c hc i hi) (λc hc hm=>(ae c hm).1 hc)
 rw[BL,List.drop_length]at N
 refine hK g2 s' ⟨bk,[b'],b',cs',_,u1,N,λc hc=>?_,λc hc=>?_,λi hi c hc=>?_,B.lb,Av _⟩ ⟨by omega,λj hj=>fr j (by omega) (λh=>?_) ?_⟩ (by omega)
 ·have:=ab c hc;exact⟨this.1,by omega,this.2.2⟩
 ·rw[BQ.1 hc];exact⟨Z.1,by have:=e4.lt;omega,Z.2⟩
 ·have hc:c∈(if i<v.items.length then bf i else if i=v.items.length then bw else bf (i-1)):=hc
  have hi:i<v.items.length+1:=by
   have:(v.items++[w]).length=v.items.length+1:=by simp
   rw[<-this];exact hi
  split at hc
  ·rename_i h;have:=aa i h c hc;exact⟨this.1,by omega,this.2.2⟩
  ·rw[if_pos (by omega)]at hc
   have:=ow.lt c hc
   exact⟨(hw c hc).1,by omega,(hw c hc).2.1⟩
 ·have:=(af j h).1;omega
 ·have:=B.lb;omega
end
end
end Go.X
end
section
namespace Go.X
open Go Go.X Go.Proofs Go.RowKit
section
variable {h:Za} {l:Bs} {K:Value -> Za -> Prop} {lo:Nat}
theorem zen{c:UInt8}(hK:K (.int .i64 (Lib.indexByte l c)) h):XC Tp 212 #[.string (bl l),.int .u8 (c.toNat:Int)] h K:=by
 refine XC.of_calls λB d=>(Ya (bl l) (c.toNat:Int) (mk B d h)).mono ?_
 rintro e w' ⟨rfl,rfl⟩
 refine⟨_,rfl,rfl,rfl,rfl,?_⟩
 have e1:(bl l).data.toList=l:=Yh l
 rw[e1,qas];exact hK
def z0e(F:FuncId)(A C:Array Value)(lo:Nat)(p:UInt8->Bool)(h0:Za):Prop:=
 Zp Tp F=true/\∀(c:UInt8) (h:Za) (K:Value->Za->Prop),Keep lo h0 h->(∀h',Keep lo h h'->K (.bool (p c)) h')->XC Tp F (A++#[.int .u8 (c.toNat:Int)]++C) h K
theorem z8p{F:FuncId}{A C:Array Value}{p:UInt8->Bool}(H:z0e F A C lo p h)(hl:l.length<=1152921504606846976)(hK:∀h',Keep lo h h'->K (.int .i64 (J7 p l:Int)) h'):
  XC Tp 256 #[.string (bl l),.func (.func F) A C] h K:=by
 obtain⟨hF,H⟩:=H
 apply zwe
 rw[Zf]
 refine⟨λi g=>∃k:Nat,i=(k:Int)/\k<=l.length/\Keep lo h g/\∀j (hj:j<k) (aa:j<l.length),p l[j]=true,λi _=>l.length-i.toNat,⟨0,rfl,by omega,Keep.refl _ _,λj hj=>by omega⟩,?_⟩
 rintro i g ⟨k,rfl,hk,kg,hp⟩
 refine⟨λhx=>?_,λhx=>?_⟩
 ·have Z:k<l.length:=by have:=of_decide_eq_true hx;omega
  refine⟨⟨by omega,by omega⟩,hF,?_⟩
  rw[Yd,AK,zts Z]
  refine H _ _ _ kg λh' k'=>⟨_,rfl,λhz=>?_,λhz=>?_⟩
  ·have e:J7 p l=k:=znd hk (λj hj=>hp j hj (by omega)) (λ_=>by simpa using hz)
   rw[<-e];exact hK h' (kg.trans k' (Av _))
  ·rw[zj4 Z (by omega)]
   refine⟨⟨k+1,rfl,by omega,kg.trans k' (Av _),λj hj aa=>?_⟩,by show l.length-((k+1:Nat):Int).toNat<l.length-((k:Nat):Int).toNat;omega⟩
   rcases A1 j k with h9|h9
   ·exact hp j h9 aa
   ·have:j=k:=by omega
    subst this
    simpa using hz
 ·have Z:k=l.length:=by have:=of_decide_eq_false hx;omega
  have e:J7 p l=l.length:=znd (Av _) (λj hj=>hp j (by omega) hj) (λhh=>absurd hh (by omega))
  rw[<-e];exact hK g kg
theorem zjk{b:Nat}(hb:Blk h b #[.string (bl l)])(aa:b<lo):z0e 292 #[] #[.pointer (some ⟨b,0,none⟩)] lo (Y5 l) h:=by
 refine⟨by kernel_rfl,λc g K kg hK=>?_⟩
 show XC Tp 292 #[.int .u8 (c.toNat:Int),.pointer (some ⟨b,0,none⟩)] g K
 apply zj7
 have Z:Blk g b #[.string (bl l)]:=by
  obtain⟨T,e⟩:=hb
  exact⟨T,by rw[kg.get b aa];exact e⟩
 refine⟨bl l,Z.cell rfl,zen ⟨_,rfl,?_⟩⟩
 have e:decide (Lib.indexByte l c>=0)=Y5 l c:=by
  unfold Y5
  rw[A6,decide_eq_true_eq,decide_eq_true_eq]
  exact(Ww c l).2
 rw[e];exact hK g (Keep.refl _ _)
theorem zsi{gl M:Fr}(hM:Fr.le gl M)(ag:AgM M h):z0e 259 #[] #[] h.size (Y5 Yx) h:=by
 refine⟨by kernel_rfl,λc g K kg hK=>?_⟩
 have e:(bif decide ((c.toNat:Int)>=97)then decide ((c.toNat:Int)<=122)else false)=Y5 Yx c:=by
  have Z:(BS 256).all (λn=>(bif decide ((n:Int)>=97)then decide ((n:Int)<=122)else false)==Y5 Yx (Be n))=true:=by kernel_rfl
  have:=A5.1 Z c.toNat (BF.2 c.toNat_lt)
  rw[beq_iff_eq,UInt8.ofNat_toNat]at this
  exact this
 refine(PC.px (gl:=gl) (args:=[Arg.mk (.int .u8) (c.toNat:Int)]) (rt:=[.bool]) (R:=λb=>b=Y5 Yx c) ?_ hM (ag.keep kg) (Qw (a:=Arg.mk (.int .u8) _) (zbp _ _) Yk)).go λv h' M' r L hv hr=>?_
 ·apply zpp;exact e
 ·obtain rfl:=z4t hv
  rw[hr]
  exact hK h' (L.keep.mono kg.size)
end
section
variable {K:Value -> Za -> Prop} {h:Za} {a e:Int} {M:Fr} {v:Value}
theorem qdv:Z6 Tp 90=true:=by kernel_rfl
theorem qdw:Qh Tp 90=3:=by kernel_rfl
abbrev zp1(k f t:Int):List Value:=[.int .i64 k,.int .i64 f,.int .i64 t]
theorem z8q{g:Za}{b:Nat}{x y z p q r:Int}(B:Blk g b (zp1 x y z).toArray){K:Za->Prop}(hK:∀g',(∀j,j≠b->g'[j]?=g[j]?)->g'.size=g.size->Blk g' b (zp1 p q r).toArray->K g'):
  XRunU Tp (AI 90 (.pointer (some ⟨b,0,none⟩)) (.agg #[.int .i64 p,.int .i64 q,.int .i64 r])) g K:=by
 refine zhc (vs:=zp1 p q r) qdv B rfl qdw (Av 3) (λu hu=>?_) λg' q1 q2 q3=>hK g' q3 q2 q1
 simp at hu
 rcases hu with rfl|rfl|rfl <;> rfl
theorem z0f{c:Nat}{a k t:Int}(hc:Blk h c #[.int .i64 a])(hK:∀h',Keep h.size h h'->K (.tuple #[.agg #[.int .i64 k,.int .i64 a,.int .i64 t],.int .i64 0]) h'):
  XC Tp 254 #[.int .i64 k,.int .i64 t,.pointer (some ⟨c,0,none⟩)] h K:=by
 apply zm1
 intro h1
 have k1:Keep h.size h h1:=Keep.push _ _ (Av _)
 have B1:Blk h1 h.size (zp1 0 0 0).toArray:=Blk.new _ _ _
 have Z:Blk h1 c #[.int .i64 a]:=hc.ofKeep k1
 refine⟨a,Z.cell rfl,z8q B1 λg' q1 q2 q3=>⟨k,a,t,q3.ld,hK g' (k1.trans ⟨by omega,λi hi=>q1 i (by omega)⟩ (Av _))⟩⟩
theorem qdx{x:Int×Int×Int}(h:ze0 M [.pair (.int .i64) (.pair (.int .i64) (.int .i64)),.int .i64] (x,e) v):v=.tuple #[.agg #[.int .i64 x.1,.int .i64 x.2.1,.int .i64 x.2.2],.int .i64 e]:=by
 obtain⟨vs,⟨v1,rest,rfl,hx,v2,rfl,hy⟩,rfl⟩:=h
 rw[Zy hy]
 unfold RdV at hx
 simp only[zom,if_true]at hx
 obtain⟨cs,rfl,c1,c2,rfl,e1,c3,c4,rfl,e3,e4⟩:=hx
 have e1:c1=[.int .i64 x.1]:=e1
 have e3:c3=[.int .i64 x.2.1]:=e3
 have e4:c4=[.int .i64 x.2.2]:=e4
 subst e1 e3 e4
 rfl
theorem z0g{gl M:Fr}(hM:Fr.le gl M)(ag:AgM M h)(hK:∀h',Keep h.size h h'->K (.tuple #[.agg #[.int .i64 0,.int .i64 a,.int .i64 a],.int .i64 e]) h'):
  XC Tp 255 #[.int .i64 a,.int .i64 e] h K:=by
 refine(PC.px (gl:=gl) (args:=[Arg.mk (.int .i64) a,Arg.mk (.int .i64) e]) (rt:=[.pair (.int .i64) (.pair (.int .i64) (.int .i64)),.int .i64]) (R:=λr=>r=((0,(a,a)),e)) ?_ hM ag (Qw (a:=Arg.mk (.int .i64) _) (zbp _ _) (Qw (a:=Arg.mk (.int .i64) _) (zbp _ _) Yk))).go λv h' M' r L hv hr=>?_
 ·apply zm8;rfl
 ·subst hr
  rw[qdx hv]
  exact hK h' L.keep
theorem z0h{l:Bs}(hK:∀h',Keep h.size h h'->h'.size=h.size+1->Blk h' h.size #[.string (bl l)]->K (.func (.func 292) #[] #[.pointer (some ⟨h.size,0,none⟩)]) h'):
  XC Tp 257 #[.string (bl l)] h K:=by
 apply zpj
 intro h1
 exact hK h1 (Keep.push _ _ (Av _)) (AM _) (Blk.new _ _ _)
def zp2(s:Bs)(a:Nat):Value:=if(J5 s a).2.2=0 then .tuple #[.agg #[.int .i64 (J5 s a).1,.int .i64 (a:Int),.int .i64 ((J5 s a).2.1:Int)],.int .i64 0]else .tuple #[.agg #[.int .i64 0,.int .i64 ((J5 s a).2.1:Int),.int .i64 ((J5 s a).2.1:Int)],.int .i64 (J5 s a).2.2]
theorem qen{x:Bool×Bt×Int}(h:ze0 M [.pair .bool (.pair .str (.int .i64)),.int .i64] (x,e) v):v=.tuple #[.agg #[.bool x.1,.string x.2.1,.int .i64 x.2.2],.int .i64 e]:=by
 obtain⟨vs,⟨v1,rest,rfl,hx,v2,rfl,hy⟩,rfl⟩:=h
 rw[Zy hy]
 unfold RdV at hx
 simp only[zom,if_true]at hx
 obtain⟨cs,rfl,c1,c2,rfl,e1,c3,c4,rfl,e3,e4⟩:=hx
 have e1:c1=[.bool x.1]:=e1
 have e3:c3=[.string x.2.1]:=e3
 have e4:c4=[.int .i64 x.2.2]:=e4
 subst e1 e3 e4
 rfl
end
section
variable {gl:Fr} {s:Bs} {a t:Nat} {k:Int}
theorem qbh(l:Bs)(c:UInt8):decide (Lib.indexByte l c>=0)=Y5 l c:=by
 unfold Y5
 rw[A6,decide_eq_true_eq,decide_eq_true_eq]
 exact(Ww c l).2
theorem z3k:(BS 256).all (λn=>(bif ((n:Int)==45)then true else(bif decide ((n:Int)>=48)then decide ((n:Int)<=57)else false))==Y5 zhr (Be n))=true:=by kernel_rfl
theorem z8r(c:UInt8):(bif ((c.toNat:Int)==45)then true else(bif decide ((c.toNat:Int)>=48)then decide ((c.toNat:Int)<=57)else false))=Y5 zhr c:=by
 have:=A5.1 z3k c.toNat (BF.2 c.toNat_lt)
 rw[beq_iff_eq,UInt8.ofNat_toNat]at this
 exact this
theorem z3l{R:Int->Prop}(h:R (zf0 s)):PC Tp gl 260 [Arg.mk .str (bl s)] [.int .i64] R:=by
 apply zr3
 have e:∀l:Bs,((bl s:Bt).toList==((⟨l.toArray⟩:Bt):Bt).toList)=decide (s=l):=λl=>zmv s l
 have e1:=e [116,114,117,101];have e2:=e [102,97,108,115,101];have e3:=e [110,117,108,108]
 rw[e1,e2,e3]
 unfold zf0 at h
 refine⟨λhx=>?_,λhx=>⟨λhy=>?_,λhy=>⟨λhz=>?_,λhz=>?_⟩⟩⟩
 ·rw[if_pos (of_decide_eq_true hx)]at h;exact h
 ·rw[if_neg (of_decide_eq_false hx),if_pos (of_decide_eq_true hy)]at h;exact h
 ·rw[if_neg (of_decide_eq_false hx),if_neg (of_decide_eq_false hy),if_pos (of_decide_eq_true hz)]at h;exact h
 ·rw[if_neg (of_decide_eq_false hx),if_neg (of_decide_eq_false hy),if_neg (of_decide_eq_false hz)]at h;exact h
theorem z0i{c:UInt8}{t:Bs}(h:s.drop a=c::t):J5 s a=
  if c∈zcm then(2+Lib.indexByte zcm c,a+1,0)
  else if c∈Wt then(1,a+J7 (Y5 Wt) (s.drop a),0)
  else if c=34 then(if(Qt s a).2.2=0 then(8,(Qt s a).2.1,0)else(0,(Qt s a).2.1,(Qt s a).2.2))
  else if c∈zhr then(if(Zh ((s.drop a).take (J7 (Y5 zdl) (s.drop a)))).2=0 then(9,a+J7 (Y5 zdl) (s.drop a),0)else(0,a,(Zh ((s.drop a).take (J7 (Y5 zdl) (s.drop a)))).2))
  else if zf0 ((s.drop a).take (J7 (Y5 Yx) (s.drop a)))=0 then(0,a,2)else(zf0 ((s.drop a).take (J7 (Y5 Yx) (s.drop a))),a+J7 (Y5 Yx) (s.drop a),0):=by
 unfold J5;rw[h]
theorem zf2(h:J5 s a=(k,t,0)):zp2 s a=.tuple #[.agg #[.int .i64 k,.int .i64 (a:Int),.int .i64 (t:Int)],.int .i64 0]:=by unfold zp2;rw[h];rfl
theorem zh0{k e:Int}(h:J5 s a=(k,t,e))(he:¬e=0):zp2 s a=.tuple #[.agg #[.int .i64 0,.int .i64 (t:Int),.int .i64 (t:Int)],.int .i64 e]:=by unfold zp2;rw[h,if_neg he]
set_option maxHeartbeats 2000000 in
theorem qbi{gl M:Fr}(hg:GL gl)(hM:Fr.le gl M){h:Za}(ag:AgM M h)(hs:s.length<=65536)(ha:a<s.length){K:Value->Za->Prop}(hK:∀h',Keep h.size h h'->K (zp2 s a) h'):
  XC Tp 198 #[.string (bl s),.int .i64 (a:Int)] h K:=by
 have hd:s.drop a=s[a]::s.drop (a+1):=A9 ha
 have az:s.drop a≠[]:=by rw[hd];exact List.cons_ne_nil _ _
 have ay:(s.drop a).length=s.length-a:=AW
 have eV:=z0i hd
 generalize hc:s[a]=c at eV hd
 apply zrz
 intro h1 h2
 have z1:h1.size=h.size+1:=AM _
 have z2:h2.size=h1.size+1:=AM _
 have k1:Keep h.size h h1:=Keep.push _ _ (Av _)
 have k2:Keep h1.size h1 h2:=Keep.push _ _ (Av _)
 have ak:Keep h.size h h2:=k1.trans k2 (by omega)
 have B0:Blk h2 h.size #[.int .i64 (a:Int)]:=(Blk.new h #[.int .i64 (a:Int)] 3).ofKeep k2
 have B1:Blk h2 h1.size (zp1 0 0 0).toArray:=Blk.new _ _ _
 clear_value h1 h2
 have ae:AgM M h2:=ag.keep ak
 have done:∀(k f t e:Int) (g:Za),Keep h2.size h2 g->.tuple #[.agg #[.int .i64 k,.int .i64 f,.int .i64 t],.int .i64 e]=zp2 s a ->
   XRunU Tp (AI 90 (.pointer (some ⟨h1.size,0,none⟩)) (.agg #[.int .i64 k,.int .i64 f,.int .i64 t])) g (λg'=>∃r1 r2 r3:Int,Zb g' ⟨h1.size,0,none⟩ 0 [.int .i64 r1,.int .i64 r2,.int .i64 r3]/\K (.tuple #[.agg #[.int .i64 r1,.int .i64 r2,.int .i64 r3],.int .i64 e]) g'):=by
  intro k f t e g kg he
  refine z8q (B1.ofKeep kg) λg' q1 q2 q3=>⟨k,f,t,q3.ld,?_⟩
  rw[he]
  have hz:=kg.size
  exact hK g' ((ak.trans kg (by omega)).trans (c:=g') (m:=h.size) ⟨by omega,λi hi=>q1 i (by omega)⟩ (Av _))
 have ex:(bl s).extract (a:Int).toNat (s.length:Int).toNat=bl (s.drop a):=zph (n:=(a:Int)) rfl
 have b0:Zc (bl (s.drop a)) (0:Int).toNat=(c.toNat:Int):=by rw[Yd,hd];rfl
 rw[Zf]
 refine⟨(a:Int),B0.cell rfl,?_⟩
 rw[ex,Zf,b0]
 refine⟨⟨by omega,by omega,by omega⟩,⟨by omega,by omega⟩,?_⟩
 have bs:(⟨#[123,125,91,93,44,58]⟩:Bt)=bl zcm:=rfl
 have bb:(⟨#[32,9,10,13]⟩:Bt)=bl Wt:=rfl
 have bn:(⟨#[45,43,46,48,49,50,51,52,53,54,55,56,57,101,69]⟩:Bt)=bl zdl:=rfl
 rw[bs,bb,bn]
 have af:∀n:Nat,n<=s.length->Ar .i64 ((a:Int)+(n:Int))=((a+n:Nat):Int):=λn hn=>by rw[w64 (by omega)];omega
 refine zen ⟨_,rfl,?_⟩
 rw[qbh]
 refine⟨λhx=>?_,λhx=>?_⟩
 ·have hx:=of_decide_eq_true hx
  rw[if_pos hx]at eV
  have hr:0<=Lib.indexByte zcm c/\Lib.indexByte zcm c<6:=by
   have:∀c∈zcm,0<=Lib.indexByte zcm c/\Lib.indexByte zcm c<6:=by decide
   exact this c hx
  refine⟨(a:Int),B0.cell rfl,by kernel_rfl,?_⟩
  refine z0f B0 λg kg=>⟨_,_,_,_,rfl,done _ _ _ _ g kg ?_⟩
  rw[zf2 eV,w64 (n:=2+Lib.indexByte zcm c) (by omega),show Ar .i64 ((a:Int)+1)=((a+1:Nat):Int)from af 1 (by omega)]
 have hx:=of_decide_eq_false hx
 rw[if_neg hx]at eV
 refine zen ⟨_,rfl,?_⟩
 rw[qbh]
 have ai:=λp=>zz0 p (s.drop a)
 refine⟨λhy=>?_,λhy=>?_⟩
 ·have hy:=of_decide_eq_true hy
  rw[if_pos hy]at eV
  refine⟨(a:Int),B0.cell rfl,z0h λg kg zg Bg=>⟨_,rfl,kg.get h.size (by omega),?_⟩⟩
  refine z8p (lo:=g.size) (zjk Bg (by omega)) (by omega) λg2 Z=>⟨_,rfl,?_,by kernel_rfl,?_⟩
  ·rw[Z.get h.size (by omega)];exact kg.get h.size (by omega)
  have k3:Keep h2.size h2 g2:=kg.trans Z (by omega)
  refine z0f (B0.ofKeep k3) λg3 au=>⟨_,_,_,_,rfl,done _ _ _ _ g3 (k3.trans au k3.size) ?_⟩
  have:=ai (Y5 Wt)
  rw[zf2 eV,af _ (by omega)]
 have hy:=of_decide_eq_false hy
 rw[if_neg hy]at eV
 rw[show((c.toNat:Int)==34)=decide (c=34)from u8i (n:=34) (by omega),z8r]
 refine⟨λhz=>?_,λhz=>⟨λhw=>?_,λhw=>?_⟩⟩
 ·have hz:=of_decide_eq_true hz
  rw[if_pos hz]at eV
  refine⟨(a:Int),B0.cell rfl,?_⟩
  refine((qbf hg (t:=s) (a:=(a:Int)) (by omega) (R:=λr=>r=qbe s (a:Int)) rfl).px hM ae (Qw (a:=Arg.mk .str _) (rdStr _) (Qw (a:=Arg.mk (.int .i64) _) (zbp _ _) Yk))).go λv g M' r L hv hr=>?_
  have he:qbe s (a:Int)=(((Qt s a).2.1:Int),(Qt s a).2.2):=by
   unfold qbe;rw[if_neg (by omega),AK]
  rw[he]at hr
  subst hr
  rw[zp0 hv]
  refine⟨_,_,rfl,λaa=>⟨by kernel_rfl,?_⟩,λaa=>⟨by kernel_rfl,?_⟩⟩
  ·refine z0g hM (ae.keep L.keep) λg2 Z=>⟨_,_,_,_,rfl,done _ _ _ _ g2 (L.keep.trans Z L.keep.size) ?_⟩
   have hn:¬(Qt s a).2.2=0:=by simpa using aa
   rw[if_neg hn]at eV
   rw[zh0 eV hn]
  ·refine z0f (B0.ofKeep L.keep) λg2 Z=>⟨_,_,_,_,rfl,done _ _ _ _ g2 (L.keep.trans Z L.keep.size) ?_⟩
   have hn:(Qt s a).2.2=0:=by simpa using aa
   rw[if_pos hn]at eV
   rw[zf2 eV]
 ·have hz:=of_decide_eq_false hz
  have hw:=of_decide_eq_true hw
  rw[if_neg hz,if_pos hw]at eV
  refine⟨(a:Int),B0.cell rfl,z0h λg kg zg Bg=>⟨_,rfl,kg.get h.size (by omega),?_⟩⟩
  have ap:=ai (Y5 zdl)
  refine z8p (lo:=g.size) (zjk Bg (by omega)) (by omega) λg2 Z=>⟨_,rfl,?_,?_⟩
  ·rw[Z.get h.size (by omega)];exact kg.get h.size (by omega)
  have k3:Keep h2.size h2 g2:=kg.trans Z (by omega)
  rw[af _ (by omega)]
  have aj:(bl s).extract (a:Int).toNat ((a+J7 (Y5 zdl) (s.drop a):Nat):Int).toNat=bl ((s.drop a).take (J7 (Y5 zdl) (s.drop a))):=by
   rw[AK,AK,Jy,show a+J7 (Y5 zdl) (s.drop a)-a=J7 (Y5 zdl) (s.drop a)by omega]
  refine⟨(a:Int),(B0.ofKeep k3).cell rfl,⟨by omega,by omega,by omega⟩,?_⟩
  rw[aj]
  refine((zhz (gl:=gl) (s:=(s.drop a).take (J7 (Y5 zdl) (s.drop a))) (by rw[Bc];omega) (R:=λr=>r=(nmB (Zh ((s.drop a).take (J7 (Y5 zdl) (s.drop a)))).1,(Zh ((s.drop a).take (J7 (Y5 zdl) (s.drop a)))).2)) rfl).px hM (ae.keep k3) (Qw (a:=Arg.mk .str _) (rdStr _) Yk)).go λv g3 M' r L hv hr=>?_
  subst hr
  rw[qen hv]
  generalize hq:(s.drop a).take (J7 (Y5 zdl) (s.drop a))=w at eV
  refine⟨_,_,_,_,rfl,?_⟩
  intro ah
  have ar:Keep g3.size g3 ah:=Keep.push _ _ (Av _)
  have an:Blk ah g3.size #[.bool false,.string ⟨#[]⟩,.int .i64 0]:=Blk.new _ _ _
  have k4:Keep h2.size h2 ah:=(k3.trans L.keep k3.size).trans ar (by have:=L.keep.size;have:=k3.size;omega)
  clear_value ah
  refine zhc (vs:=[.bool (nmB (Zh w).1).1,.string (nmB (Zh w).1).2.1,.int .i64 (nmB (Zh w).1).2.2]) (by kernel_rfl) an rfl (by kernel_rfl) (Av 3) (λu hu=>?_) λam q1 q2 q3=>?_
  ·simp at hu
   rcases hu with rfl|rfl|rfl <;> rfl
  have k5:Keep h2.size h2 am:=k4.trans ⟨by omega,λi hi=>q3 i (by have:=L.keep.size;have:=k3.size;omega)⟩ (Av _)
  refine⟨λaa=>⟨(a:Int),(B0.ofKeep k5).cell rfl,by kernel_rfl,?_⟩,λaa=>⟨by kernel_rfl,?_⟩⟩
  ·refine z0g hM (ae.keep k5) λg4 ab=>⟨_,_,_,_,rfl,done _ _ _ _ g4 (k5.trans ab k5.size) ?_⟩
   have hn:¬(Zh w).2=0:=by simpa using aa
   rw[if_neg hn]at eV
   rw[zh0 eV hn]
  ·refine z0f (B0.ofKeep k5) λg4 ab=>⟨_,_,_,_,rfl,done _ _ _ _ g4 (k5.trans ab k5.size) ?_⟩
   have hn:(Zh w).2=0:=by simpa using aa
   rw[if_pos hn]at eV
   rw[zf2 eV]
 ·have hz:=of_decide_eq_false hz
  have hw:=of_decide_eq_false hw
  rw[if_neg hz,if_neg hw]at eV
  have ap:=ai (Y5 Yx)
  refine z8p (lo:=h2.size) (zsi hM ae) (by omega) λg2 Z=>⟨_,rfl,⟨by omega,by omega,by omega⟩,?_⟩
  have aj:(bl (s.drop a)).extract (0:Int).toNat ((J7 (Y5 Yx) (s.drop a):Nat):Int).toNat=bl ((s.drop a).take (J7 (Y5 Yx) (s.drop a))):=by
   rw[AK,Jy];rfl
  rw[aj]
  refine((z3l (gl:=gl) (s:=(s.drop a).take (J7 (Y5 Yx) (s.drop a))) (R:=λr=>r=zf0 ((s.drop a).take (J7 (Y5 Yx) (s.drop a)))) rfl).px hM (ae.keep Z) (Qw (a:=Arg.mk .str _) (rdStr _) Yk)).go λv g3 M' r L hv hr=>?_
  subst hr
  rw[qde hv]
  generalize hq:(s.drop a).take (J7 (Y5 Yx) (s.drop a))=w at eV
  have k5:Keep h2.size h2 g3:=Z.trans L.keep Z.size
  refine⟨_,rfl,λaa=>⟨(a:Int),(B0.ofKeep k5).cell rfl,by kernel_rfl,?_⟩,λaa=>⟨(a:Int),(B0.ofKeep k5).cell rfl,by kernel_rfl,?_⟩⟩
  ·refine z0f (B0.ofKeep k5) λg4 ab=>⟨_,_,_,_,rfl,done _ _ _ _ g4 (k5.trans ab k5.size) ?_⟩
   have hn:¬zf0 w=0:=by simpa using aa
   rw[if_neg hn]at eV
   rw[zf2 eV,af _ (by omega)]
  ·refine z0g hM (ae.keep k5) λg4 ab=>⟨_,_,_,_,rfl,done _ _ _ _ g4 (k5.trans ab k5.size) ?_⟩
   have hn:zf0 w=0:=by simpa using aa
   rw[if_pos hn]at eV
   rw[zh0 eV (by decide)]
end
end Go.X
end
section
namespace Go.X
open Go Go.Code
section
variable {ro:Option Nat} {n:Nat} {P:Program} {f:FuncId} {args:Array Value} {w:World} {o:Oper} {a:Act} {e:Env} {h:Za}
abbrev rf(ro:Option Nat):Fence:={ Fence.wide with round:=ro }
def zht(K:Act->World->Prop):Exit->Act->World->Prop
 |.normal,a,w=>K a w
 |_,_,_=>False
theorem Xm{K:Act->World->Prop}:¬LetsOut (zht K):=λ⟨_,_,h⟩=>h
theorem z3m{R:Ending->World->Prop}(h:Calls P f args w R):CallsIn (rf ro) n P f args w R:=by
 have h1:CallsIn Fence.wide n P f args w R:=callsIn_wide.2 h
 exact h1
theorem z8s{row:String}{R:Value->World->Prop}(h:Rows P row args w R):RowsIn (rf ro) n P row args w R:=by
 have h1:RowsIn Fence.wide n P row args w R:=λc cs _=>let ⟨v,w',r,s⟩:=h c cs;⟨v,w',r,stepsIn_wide.2 s⟩
 exact h1
def Jm(o:Oper):Bool:=match o.op with
 |.defer _=>false
 |_=>true
theorem zsj(h:Jm o=true):∀c,o.op≠.defer c:=by
 intro c e
 unfold Jm at h
 rw[e]at h;cases h
theorem qbj(hd:Jm o=true){K:Act->World->Prop}{Q:Exit->Act->World->Prop}(h:o.wp P a w K Q):o.wpIn (rf ro) n P a w K Q:=by
 refine⟨λ_ _=>trivial,?_⟩
 rw[Oper.semAt_eq _ _ _ (zsj hd)]
 unfold Oper.wp at h
 generalize (execOp a.eval o).run P w=r at *
 cases r with
 |ok x w'=>
  cases x with
  |enter f args=>exact⟨λhx=>(by cases hx),z3m h⟩
  |row row args=>exact⟨λhx=>(by cases hx),z8s h⟩
  |value v=>exact h
  |skip=>exact h
  |defer d=>exact h
  |_=>exact h.elim
 |halt x w'=>cases x <;> first|exact h|exact h.elim
theorem zjl{ro:Option Nat}{n:Nat}{P:Program}{ops:Array Oper}{K:Act->World->Prop}{Q:Exit->Act->World->Prop}: ∀(l l2:List Oper) (a:Act) (w:World),l.all Jm=true->wpList P ops (zht K) l a w->(∀a w,K a w->wpListIn (rf ro) n P ops Q l2 a w)->wpListIn (rf ro) n P ops Q (l++l2) a w
 |[],l2,a,w,_,h,hK=>hK a w h
 |o::l,l2,a,w,hd,h,hK=>by
  rw[List.all_cons,BP]at hd
  rw[A8]
  unfold wpListIn
  unfold wpList at h
  by_cases hw:BD o (yielded ops a.tmps)=true
  ·rw[if_pos hw]at h ⊢
   rcases h with h|⟨_,h⟩
   ·have h1:=qbj (ro:=ro) (n:=n) hd.1 h
    have h2:=Oper.wpIn_mono (λa w hq=>zjl l l2 a w hd.2 hq hK) h1
    refine⟨h2.1,?_⟩
    have h3:=h2.2
    revert h3
    generalize (o.semAt (rf ro).round a.eval).run P w=r
    cases r with
    |ok x w'=>
     cases x with
     |enter f args=>exact λh3=>⟨h3.1,CallsIn.mono h3.2 λe Z he=>by cases e <;> first|exact he|exact he.elim|exact(Xm he).elim⟩
     |round l f tmps assign body=>exact λh3=>⟨h3.1,RoundIn.mono h3.2 λe Z he=>by cases e <;> first|exact he|exact he.elim|exact(Xm he).elim⟩
     |_=>exact λh3=>h3
    |halt x w'=>cases x <;> first|exact λh3=>h3|exact λh3=>h3.elim
   ·exact(Xm h).elim
  ·rw[if_neg hw]at h ⊢
   exact⟨λ_ _=>trivial,zjl l l2 _ _ hd.2 h hK⟩
theorem zun{ro:Option Nat}{n:Nat}{P:Program}{md:Region.Mode}{ops:Array Oper}{K:Act->World->Prop}(hd:∀(i:Nat) (o:Oper),ops[i]?=some o->Jm o=true):∀(Z:Nat) (listed:Array Bool) (a:Act) (w:World),wpAny P md ops (zht K) Z listed a w->wpAnyIn (rf ro) n P md ops (zht K) Z listed a w
 |0,_,_,_,h=>h
 |Z+1,listed,a,w,h=>by
  refine⟨h.1,λi hi=>?_⟩
  have h2:=h.2 i hi
  unfold wpOp at h2
  unfold wpOpIn
  split at h2
  ·rename_i ho
   rw[ho];exact zun hd Z _ _ _ h2
  ·rename_i o ho
   rw[ho]
   simp only
   by_cases hw:BD o (yielded ops a.tmps)=true
   ·rw[if_pos hw]at h2 ⊢
    rcases h2 with h2|⟨_,h2⟩
    ·exact Oper.wpIn_mono (λa w hq=>zun hd Z _ a w hq) (qbj (hd i o ho) h2)
    ·exact(Xm h2).elim
   ·rw[if_neg hw]at h2 ⊢
    exact⟨λ_ _=>trivial,zun hd Z _ _ _ h2⟩
def zbv(D:List Deferred)(a:Act):Act:={ a with defers:=a.defers++D }
theorem z5d{D:List Deferred}{K:Act->World->Prop}{R:Act->World->Prop}(h:o.wp P a w K (zht R)):o.wp P (zbv D a) w (λa1 w1=>∃a0,a1=zbv D a0/\K a0 w1) (zht λa1 w1=>∃a0,a1=zbv D a0/\R a0 w1):=by
 unfold Oper.wp at h ⊢
 have he:(zbv D a).eval=a.eval:=rfl
 rw[he]
 have hp:∀d v,(zbv D a).put d v=zbv D (a.put d v):=λd v=>by cases d <;> rfl
 generalize (execOp a.eval o).run P w=r at *
 cases r with
 |ok x w'=>
  cases x with
  |enter f args=>exact Calls.mono h λe Z he=>by cases e with
    |returned v=>exact⟨_,hp _ _,he⟩
    |panicked ch=>exact he
    |outgrown=>exact(Xm he).elim
  |row row args=>exact Rows.mono h λv Z he=>⟨_,hp _ _,he⟩
  |value v=>exact⟨_,hp _ _,h⟩
  |skip=>exact⟨_,hp _ _,h⟩
  |defer d=>exact⟨(Act.put { a with defers:=d::a.defers } o.dst undef),(by cases o.dst <;> rfl),(show K (Act.put { a with defers:=d::a.defers } o.dst undef) w' from h)⟩
  |_=>exact h.elim
 |halt x w'=>cases x <;> first|exact h|exact h.elim
theorem zni{P:Program}{md:Region.Mode}{ops:Array Oper}{D:List Deferred}{K:Act->World->Prop}:∀(Z:Nat) (listed:Array Bool) (a:Act) (w:World),wpAny P md ops (zht K) Z listed a w->wpAny P md ops (zht λa1 w1=>∃a0,a1=zbv D a0/\K a0 w1) Z listed (zbv D a) w
 |0,_,a,_,h=>⟨h.1,a,rfl,h.2⟩
 |Z+1,listed,a,w,h=>by
  refine⟨λhn=>⟨a,rfl,h.1 hn⟩,λi hi=>?_⟩
  have h2:=h.2 i hi
  unfold wpOp at h2 ⊢
  have hy:yielded ops (zbv D a).tmps=yielded ops a.tmps:=rfl
  split at h2
  ·exact zni Z _ _ _ h2
  ·rename_i o ho
   rw[hy]
   by_cases hw:BD o (yielded ops a.tmps)=true
   ·rw[if_pos hw]at h2 ⊢
    rcases h2 with h2|⟨_,h2⟩
    ·exact .inl (Oper.wp_mono (λa1 w1 ⟨a0,e,hq⟩=>by rw[e];exact zni Z _ a0 w1 hq) (z5d h2))
    ·exact(Xm h2).elim
   ·rw[if_neg hw]at h2 ⊢
    have hp:(zbv D a).put o.dst undef=zbv D (a.put o.dst undef):=by cases o.dst <;> rfl
    rw[hp]
    exact zni Z _ _ _ h2
def YX(P:Program)(l:Nat)(args:Array Value)(h:Za)(K:Value->Za->Prop):Prop:=
 ∀(m:Nat) (B:World) (d:Nat),∃fn tmps assign body,(Instr.yield l args).run P (mk B d h)=.ok (.round l fn tmps assign body) (mk B d h) /\
  RoundIn (rf none) m P l fn tmps assign body (mk B d h) λe w'=>∃v d' h',e=.returned v/\w'=mk B d' h'/\K v h'
def qeo(o:Oper):Bool:=match o.op with
 |.call c=>match c.callee with
  |.value x=>!(zar x)
  |_=>false
 |_=>false
def zp3:List Oper->Option (List Oper×Oper×List Oper)
 |[]=>none
 |o::l=>bif qeo o then some ([],o,l)else match zp3 l with
  |some (pre,o',post)=>some (o::pre,o',post)
  |none=>none
theorem z0j{l:List Oper}:∀{pre Z:List Oper} {o:Oper},zp3 l=some (pre,o,Z)->l=pre++o::Z:=by
 induction l with
 |nil=>intro pre Z o h;cases h
 |cons x l ih=>
  intro pre Z o h
  rw[zp3]at h
  cases hd:qeo x with
  |true=>
   rw[hd,cond_true]at h
   have h:=AL h
   have h1:=congrArg Prod.fst h
   have h2:=congrArg (λq=>q.2.1) h
   have h3:=congrArg (λq=>q.2.2) h
   simp only at h1 h2 h3
   rw[<-h1,<-h2,<-h3];rfl
  |false=>
   rw[hd,cond_false]at h
   cases hs:zp3 l with
   |none=>rw[hs]at h;cases h
   |some q=>
    obtain⟨ab,o',aa⟩:=q
    rw[hs]at h
    have h:=AL h
    have h1:=congrArg Prod.fst h
    have h2:=congrArg (λq=>q.2.1) h
    have h3:=congrArg (λq=>q.2.2) h
    simp only at h1 h2 h3
    rw[ih hs,<-h1,<-h2,<-h3];rfl
def zuo(P:Program)(o:Oper)(e:Env)(h:Za)(K:Value->Za->Prop):Prop:=match o.op with
 |.call c=>match c.callee with
  |.value x=>match zaq e [] x with
   |some (.func (.yield l) A C)=>bif (bif (Nat.beq A.size 0)then(Nat.beq C.size 0)else false)then(bif known e [] c.args.toList then YX P l (c.args.map (rho e [])) h λv h'=>typed P o.type v λv'=>K v' h' else False)else False
   |_=>False
  |_=>False
 |_=>False
theorem zp4{n m:Nat}{K:Value->Za->Prop}(H:zuo P o e h K)(hs:Sat n e a)(B:World)(d:Nat){next:Act->World->Prop}{Q:Exit->Act->World->Prop}
  (hn:∀v d' h',K v h'->next (a.put o.dst v) (mk B d' h')):o.wpIn (rf none) m P a (mk B d h) next Q:=by
 unfold zuo at H
 split at H
 ·rename_i c ho
  split at H
  ·rename_i x hx
   split at H
   ·rename_i l A C hl
    obtain⟨hA,hC,H⟩:A=#[]/\C=#[]/\(bif known e [] c.args.toList then YX P l (c.args.map (rho e [])) h λv h'=>typed P o.type v λv'=>K v' h' else False):=by
     cases h1:Nat.beq A.size 0 with
     |false=>rw[h1]at H;exact Dz H
     |true=>
      cases h2:Nat.beq C.size 0 with
      |false=>rw[h1,h2]at H;exact Dz H
      |true=>rw[h1,h2]at H;exact⟨Array.eq_empty_of_size_eq_zero (Az h1),Array.eq_empty_of_size_eq_zero (Az h2),H⟩
    subst hA;subst hC
    cases hk:known e [] c.args.toList with
    |false=>rw[hk]at H;exact Dz H
    |true=>
     rw[hk]at H
     simp only[cond_true]at H
     obtain⟨fn,tmps,assign,body,h1,h2⟩:=H (m-1) B d
     have hv:a.eval x=.func (.yield l) #[] #[]:=Qg hs (c:=[]) trivial hl
     have Z:c.args.map a.eval=c.args.map (rho e []):=by
      apply Array.map_congr_left
      intro y hy
      exact Y2 hs (c:=[]) trivial hk y (by simpa using hy)
     have hr:(o.semAt (rf none).round a.eval).run P (mk B d h)=.ok (.round l fn tmps assign body) (mk B d h):=by
      show(execOp a.eval o).run P (mk B d h)=_
      simp only[execOp,ho,resolve,hx,hv,DU,Sem.run_bind,Sem.run_pure,Result.andThen_ok,invoke]
      rw[Z]
      simpa using h1
     refine⟨λ_ _=>trivial,?_⟩
     rw[hr]
     refine⟨λhx=>(by cases hx),h2.mono ?_⟩
     rintro e' w' ⟨v,d',h',rfl,rfl,h3⟩
     exact hn _ _ _ (Jg h3)
   ·exact Dz H
  ·exact Dz H
 ·exact Dz H
def zsk(P:Program)(n:Nat)(tl:List (Nat×Nat))(id:Nat)(ops:Array Oper)(Z:Bool)(K:Env->Za->Prop)(e:Env)(h:Za):Prop:=
 match zp3 ops.toList with
 |none=>regionF P n tl id ops Z K e h
 |some (pre,o,post)=>bif Z then False else bif (pre.all Jm&&post.all Jm)then(match o.guard with
  |none=>bif Z5 n [] o.dst then wR P n ops (λe1 h1=>zuo P o e1 h1 λv h2=>wR P n ops K post (putO e1 o.dst [] v) h2) pre e h else False
  |some _=>False)else False
theorem znj(hm:P.follows .mixedOrders=true){tl:List (Nat×Nat)}{id:Nat}{ops:Array Oper}{aa:Bool}{K:Env->Za->Prop}
  (H:zsk P n tl id ops aa K e h) (m:Nat) (B:World) (d:Nat) (hs:Sat n e a) {Q:Exit->Act->World->Prop}
  (hQ:∀e' a' d' h',Sat n e' a'->Same (Qx ops.toList) a a'->K e' h'->Q .normal a' (mk B d' h')):(Em id ops aa).wpIn (rf none) m P Q a (mk B d h):=by
 unfold zsk at H
 split at H
 ·exact wpIn_wide.2 (ze8 hm H B d hs hQ)
 ·rename_i pre o Z ai
  have hl:=z0j ai
  cases aa with
  |true=>exact Dz H
  |false=>
   simp only[cond_false]at H
   cases hnd:(pre.all Jm&&Z.all Jm)with
   |false=>rw[hnd]at H;exact Dz H
   |true=>
    rw[hnd]at H
    simp only[cond_true]at H
    rw[BP]at hnd
    split at H
    ·rename_i hg
     cases hd:Z5 n [] o.dst with
     |false=>rw[hd]at H;exact Dz H
     |true=>
      rw[hd]at H
      simp only[cond_true]at H
      refine wpIn_region_list ?_
      have ae:∀x∈Qx pre,x∈Qx ops.toList:=λx hx=>by rw[hl,Jw];exact AJ _ hx
      have ab:∀i,o.dst=some i->i∈Qx ops.toList:=λi hi=>by rw[hl,Jw];exact AO _ (by simp[Qx,hi])
      have ah:∀x∈Qx Z,x∈Qx ops.toList:=λx hx=>by
       rw[hl,Jw]
       refine AO _ ?_
       unfold Qx
       split
       ·exact Aw _ hx
       ·exact hx
      rw[hl]
      refine zjl (K:=λa1 w1=>∃e1 d1 h1,w1=mk B d1 h1/\Sat n e1 a1/\Same (Qx ops.toList) a a1/\zuo P o e1 h1 λv h2=>wR P n ops K Z (putO e1 o.dst [] v) h2) pre (o::Z) a _ hnd.1 (zct B pre e h a d H hs λe' a' d' h' q1 q2 q3=>⟨e',d',h',rfl,q1,q2.mono ae,q3⟩) ?_
      rintro a1 w1 ⟨e1,d1,h1,rfl,s1,m1,q1⟩
      unfold wpListIn
      have af:BD o (yielded ops a1.tmps)=true:=by simp[BD,hg]
      rw[if_pos af]
      refine zp4 q1 s1 B d1 λv d2 h2 q2=>?_
      have s2:Sat n (putO e1 o.dst [] v) (a1.put o.dst v):=s1.putO hd (λ_=>rfl) (λhv=>absurd trivial hv)
      rw[<-Bu Z]
      refine zjl (K:=λa' w'=>Q .normal a' w') Z [] _ _ hnd.2 (zct B Z _ _ _ _ q2 s2 λe' a' d' h' r1 r2 r3=>?_) λa w h=>h
      exact hQ e' a' d' h' r1 ((m1.trans (Same.put a1 o.dst v ab)).trans (r2.mono ah)) r3
    ·exact Dz H
def WI(P:Program)(n:Nat)(pl:Plan):Code->zdq->Env->Za->Prop
 |.skip,Q,e,h=>Q .normal e h
 |.ret,Q,e,h=>Q .ret e h
 |.exit id,Q,e,h=>Q (.exit id) e h
 |.label _,Q,e,h=>Q .normal e h
 |.goto l,Q,e,h=>Q (.goto l) e h
 |.region id ops draw,Q,e,h=>zsk P n pl.tails id ops draw (λe h=>Q .normal e h) e h
 |.seq x y,Q,e,h=>match z1m pl.joins (Yi y)with
  |none=>WI P n pl x (zq1 (λe h=>WI P n pl y Q e h) Q) e h
  |some J=>z9z J (λe h=>WI P n pl y Q e h) (λK=>WI P n pl x (zq1 K Q) e h) (zb7 (Wq x) e)
 |.cond c x y,Q,e,h=>match zaq e [] c with
  |some (.bool b)=>(b=true->WI P n pl x Q e h)/\(b=false->WI P n pl y Q e h)
  |_=>False
 |.block id x,Q,e,h=>WI P n pl x (zil id Q) e h
 |.loop x,Q,e,h=>match z1m pl.loops (Yi x)with
  |some J=>z90 J (λQn e h=>WI P n pl x (zq1 Qn Q) e h) (zb7 (Wq x) e) e h
  |none=>False
 |_,_,_,_=>False
theorem z3n(hm:P.follows .mixedOrders=true){pl:Plan}:∀(c:Code) (Q:zdq) (e:Env) (h:Za),WI P n pl c Q e h ->
  ∀(m:Nat) (B:World) (d:Nat) (a:Act),Sat n e a->c.wpIn (rf none) m P (z92 n B (Wq c) a Q) a (mk B d h):=by
 intro c
 induction c with
 |skip=>exact λQ e h H m B d a hs=>wpIn_skip ⟨e,d,h,rfl,hs,Same.refl _ _,H⟩
 |ret=>exact λQ e h H m B d a hs=>wpIn_ret ⟨e,d,h,rfl,hs,Same.refl _ _,H⟩
 |exit id=>exact λQ e h H m B d a hs=>wpIn_exit ⟨e,d,h,rfl,hs,Same.refl _ _,H⟩
 |label l=>exact λQ e h H m B d a hs=>wpIn_label ⟨e,d,h,rfl,hs,Same.refl _ _,H⟩
 |goto l=>exact λQ e h H m B d a hs=>wpIn_goto ⟨e,d,h,rfl,hs,Same.refl _ _,H⟩
 |region id ops aC=>
  exact λQ e h H m B d a hs=>znj hm H m B d hs λe' a' d' h' q1 q2 q3=>⟨e',d',h',rfl,q1,q2,q3⟩
 |seq x y aa ab=>
  intro Q e h H m B d a hs
  simp only[WI]at H
  have hl:∀i∈Wq x,i∈Wq (x.seq y):=λi hi=>AJ _ hi
  have hr:∀i∈Wq y,i∈Wq (x.seq y):=λi hi=>AO _ hi
  split at H
  ·refine wpIn_seq (wpIn_mono (aa _ _ _ H m B d a hs) ?_)
   rintro ex a1 w1 ⟨e1,d1,h1,rfl,s1,m1,q1⟩
   cases ex with
   |normal=>
    refine wpIn_mono (ab _ _ _ q1 m B d1 a1 s1) ?_
    rintro ex a2 w2 ⟨e2,d2,h2,rfl,s2,m2,q2⟩
    exact⟨e2,d2,h2,rfl,s2,(m1.mono hl).trans (m2.mono hr),q2⟩
   |_=>exact⟨e1,d1,h1,rfl,s1,m1.mono hl,q1⟩
  ·rename_i J hJ
   have H':=H (mkC (Yq J) λvs=>λh=>WI P n pl y Q (Xu J vs++zb7 (Wq x) e) h) (zl6 λvs h hq=>hq)
   refine wpIn_seq (wpIn_mono (aa _ _ _ H' m B d a hs) ?_)
   rintro ex a1 w1 ⟨e1,d1,h1,rfl,s1,m1,q1⟩
   cases ex with
   |normal=>
    obtain⟨vs,q,hv,hq,hk⟩:=zgf q1
    have an:=zl5 hq
    subst an
    have az:Sat n (Xu J vs++zb7 (Wq x) e) a1:=ze9 hs s1.defers s1.size m1 (Yf s1 hv)
    refine wpIn_mono (ab _ _ _ hk m B d1 a1 az) ?_
    rintro ex a2 w2 ⟨e2,d2,h2,rfl,s2,m2,q2⟩
    exact⟨e2,d2,h2,rfl,s2,(m1.mono hl).trans (m2.mono hr),q2⟩
   |_=>exact⟨e1,d1,h1,rfl,s1,m1.mono hl,q1⟩
 |cond c x y aa ab=>
  intro Q e h H m B d a hs
  simp only[WI]at H
  have hl:∀i∈Wq x,i∈Wq (Ei c x y):=λi hi=>AJ _ hi
  have hr:∀i∈Wq y,i∈Wq (Ei c x y):=λi hi=>AO _ hi
  split at H
  ·rename_i b hb
   refine wpIn_cond_split (Qg hs (c:=[]) trivial hb) (λaB=>?_) (λar=>?_)
   ·refine wpIn_mono (aa _ _ _ (H.1 aB) m B d a hs) ?_
    rintro ex a2 w2 ⟨e2,d2,h2,rfl,s2,m2,q2⟩
    exact⟨e2,d2,h2,rfl,s2,m2.mono hl,q2⟩
   ·refine wpIn_mono (ab _ _ _ (H.2 ar) m B d a hs) ?_
    rintro ex a2 w2 ⟨e2,d2,h2,rfl,s2,m2,q2⟩
    exact⟨e2,d2,h2,rfl,s2,m2.mono hr,q2⟩
  ·exact H.elim
 |block id x ih=>
  intro Q e h H m B d a hs
  refine wpIn_block (wpIn_mono (ih _ _ _ H m B d a hs) ?_)
  rintro ex a1 w1 ⟨e1,d1,h1,rfl,s1,m1,q1⟩
  cases ex with
  |exit i=>
   simp only[zil]at q1
   simp only[Exit.inBlock]
   by_cases hb:Nat.beq i id=true
   ·rw[if_pos (Az hb)]
    simp only[hb,cond_true]at q1
    exact⟨e1,d1,h1,rfl,s1,m1,q1⟩
   ·rw[if_neg (λhe=>hb (by rw[he];simp))]
    simp only[hb,cond_false]at q1
    exact⟨e1,d1,h1,rfl,s1,m1,q1⟩
  |_=>exact⟨e1,d1,h1,rfl,s1,m1,q1⟩
 |loop x ih=>
  intro Q e h H m B d a hs
  simp only[WI]at H
  split at H
  ·rename_i J hJ
   obtain⟨I,μ,h0,ae⟩:=H
   obtain⟨au,p0,ah,ap,am⟩:=zgf h0
   let F:=zva (Yq J) I μ
   let at_:Act->Option ((Za->Prop)×(Za->Nat)):=λa1=>(zc5 (λi=>some (Zl a1 i)) J).bind λvs=>zn4 (Yq J) vs F
   refine wpIn_loop (λa1 w1=>∃d1 h1 vs p,w1=mk B d1 h1/\a1.defers=[]/\a1.tmps.size=n/\Same (Wq x) a a1/\zc5 (λi=>some (Zl a1 i)) J=some vs/\zn4 (Yq J) vs F=some p/\p.1 h1)
    (λa1 w1=>match at_ a1 with|some p=>p.2 w1.heap|none=>0) ⟨d,h,au,p0,rfl,hs.defers,hs.size,Same.refl _ _,Yf hs ah,ap,am⟩ ?_
   rintro a1 w1 ⟨d1,h1,vs,p,rfl,aA,ak,Z,hv,hp,hI⟩
   have s1:Sat n (Xu J vs++zb7 (Wq x) e) a1:=ze9 hs aA ak Z hv
   have hb:=zik hp ae h1 hI
   refine wpIn_mono (ih _ _ _ hb m B d1 a1 s1) ?_
   rintro ex a2 w2 ⟨e2,d2,h2,rfl,s2,m2,q2⟩
   cases ex with
   |normal=>
    obtain⟨aj,q,af,hq,ai,ay⟩:=zgf q2
    refine⟨⟨d2,h2,aj,q,rfl,s2.defers,s2.size,Z.trans m2,Yf s2 af,hq,ai⟩,?_⟩
    have e1:at_ a1=some p:=by simp only[at_,hv,CX];exact hp
    have e2:at_ a2=some q:=by simp only[at_,Yf s2 af,CX];exact hq
    rw[e1,e2]
    exact ay
   |_=>exact⟨e2,d2,h2,rfl,s2,Z.trans m2,q2⟩
  ·exact H.elim
 |_=>exact λQ e h H=>H.elim
def XCI(P:Program)(f:FuncId)(args:Array Value)(h:Za)(R:Value->Za->Prop):Prop:=
 ∀(m:Nat) (B:World) (d:Nat),CallsIn (rf none) m P f args (mk B d h) λe w'=>∃v d' h',e=.returned v/\w'=mk B d' h'/\R v h'
theorem zsl(hm:P.follows .mixedOrders=true)(pl:Plan)(vs:List Value){fn:Func}{rs:List ResultVar}(hf:P.funcs[f]?=some fn)(hb:Xd fn=true)(hr:fn.results.toList=rs)(hn:fn.ntmps=n)
  (hz:Nat.ble vs.length n=true) {R:Value->Za->Prop} (H:WI P n pl (codeOf fn) (qcc P rs R) (zxi 0 vs) h):XCI P f vs.toArray h R:=by
 have Z:fn.body=some (codeOf fn):=by
  unfold Xd at hb
  unfold codeOf
  split at hb
  ·rename_i c hc;rw[hc]
  ·cases hb
 intro m B d
 subst hn
 refine callsIn_of_wp hf Z trivial ?_ rfl
 have ab:vs.length<=fn.ntmps:=Cd hz
 have hs:Sat fn.ntmps (zxi 0 vs) { tmps:=vs.toArray++Br (fn.ntmps-vs.toArray.size) undef,defers:=[] }:=by
  refine⟨rfl,by simp;omega,?_⟩
  refine zcx vs.toArray _ vs 0 λj v hj=>?_
  have aa:j<vs.length:=by
   rcases A1 j vs.length with h|h
   ·exact h
   ·rw[Ce h]at hj;cases hj
  simp only[AX,BO]
  rw[CN (by simpa using aa)]
  simp[hj]
 refine wpIn_mono (z3n hm (codeOf fn) _ _ _ H m B d _ hs) ?_
 rintro ex a w ⟨e1,d1,h1,rfl,s1,m1,q1⟩
 cases ex with
 |normal=>
  obtain⟨v,hv,hq⟩:=Xc s1 hr q1
  exact⟨s1.defers,v,hq B d1,v,d1,h1,rfl,rfl,hv⟩
 |ret=>
  obtain⟨v,hv,hq⟩:=Xc s1 hr q1
  exact⟨s1.defers,v,hq B d1,v,d1,h1,rfl,rfl,hv⟩
 |_=>exact q1.elim
end
end Go.X
end
section
namespace Go.X
section
variable {P:Program} {n m id:Nat} {ro:Option Nat} {e:Env} {h:Za} {a:Act}
theorem znk{P:Program}{ops:Array Oper}{D:List Deferred}{K:Act->World->Prop}:∀(l:List Oper) (a:Act) (w:World),wpList P ops (zht K) l a w->wpList P ops (zht λa1 w1=>∃a0,a1=zbv D a0/\K a0 w1) l (zbv D a) w
 |[],a,w,h=>⟨a,rfl,h⟩
 |o::l,a,w,h=>by
  unfold wpList at h ⊢
  have hy:yielded ops (zbv D a).tmps=yielded ops a.tmps:=rfl
  rw[hy]
  by_cases hw:BD o (yielded ops a.tmps)=true
  ·rw[if_pos hw]at h ⊢
   rcases h with h|⟨_,h⟩
   ·exact .inl (Oper.wp_mono (λa1 w1 ⟨a0,e,hq⟩=>by rw[e];exact znk l a0 w1 hq) (z5d h))
   ·exact(Xm h).elim
  ·rw[if_neg hw]at h ⊢
   have hp:(zbv D a).put o.dst undef=zbv D (a.put o.dst undef):=by cases o.dst <;> rfl
   rw[hp]
   exact znk l _ w h
def qcq(P:Program)(n:Nat)(ops:Array Oper)(Z:Bool)(K:Env->Za->Prop)(e:Env)(h:Za):Prop:=
 bif ops.toList.all Jm then(bif Z then(bif zjs ops then wI P n h true ops (λe'=>wB7 P n ops h K true (hvL ops).length [] (hvL ops) e' h) (Xt [] (Xz ops [] ops.size) ops.size) e else False)else wR P n ops K ops.toList e h)else False
theorem zln(hm:P.follows .mixedOrders=true){D:List Deferred}{ops:Array Oper}{Z:Bool}{K:Env->Za->Prop}(H:qcq P n ops Z K e h)(B:World)(d:Nat)(hs:Sat n e a){Q:Exit->Act->World->Prop}
  (hQ:∀e' a' d' h',Sat n e' a'->K e' h'->Q .normal (zbv D a') (mk B d' h')):(Em id ops Z).wpIn (rf ro) m P Q (zbv D a) (mk B d h):=by
 unfold qcq at H
 cases hd:ops.toList.all Jm with
 |false=>rw[hd]at H;exact H.elim
 |true=>
  rw[hd,cond_true]at H
  have aa:∀a1 w1,(∃a0,a1=zbv D a0/\∃e' d' h',w1=mk B d' h'/\Sat n e' a0/\K e' h')->Q .normal a1 w1:=by
   rintro a1 w1 ⟨a0,rfl,e',d',h',rfl,q1,q2⟩;exact hQ e' a0 d' h' q1 q2
  cases Z with
  |false=>
   refine wpIn_region_list ?_
   rw[<-Bu ops.toList]
   exact zjl _ [] _ _ hd (znk (K:=λa0 w1=>∃e' d' h',w1=mk B d' h'/\Sat n e' a0/\K e' h') _ _ _ (zct B _ _ _ _ _ H hs λe' a' d' h' q1 q2 q3=>⟨e',d',h',rfl,q1,q3⟩)) aa
  |true=>
   rw[cond_true]at H
   cases hB:zjs ops with
   |false=>rw[hB]at H;exact H.elim
   |true=>
    rw[hB]at H
    have h0:wpAny P .any ops (zht λa0 w1=>∃e' d' h',w1=mk B d' h'/\Sat n e' a0/\K e' h') ops.size (Br ops.size false) a (mk B (d+1) h):=
     zge B hB H hs (λe' a' d' h' q1 q2 q3=>⟨e',d',h',rfl,q1,q3⟩) (d+1)
    refine wpIn_mono (wpIn_region_any (Q:=zht λa1 w1=>∃a0,a1=zbv D a0/\∃e' d' h',w1=mk B d' h'/\Sat n e' a0/\K e' h') hm (zun (λi o ho=>?_) _ _ _ _ (zni _ _ _ _ h0))) λx a' w' hx=>?_
    ·rw[A5]at hd
     obtain⟨ab,e⟩:=Au.1 ho
     exact hd o (by rw[<-e];simp)
    ·cases x with
     |normal=>exact aa _ _ hx
     |_=>exact hx.elim
def WG(P:Program)(n:Nat):Code->zdq->Env->Za->Prop
 |.skip,Q,e,h=>Q .normal e h
 |.ret,Q,e,h=>Q .ret e h
 |.exit id,Q,e,h=>Q (.exit id) e h
 |.region _ ops draw,Q,e,h=>qcq P n ops draw (λe h=>Q .normal e h) e h
 |.seq x y,Q,e,h=>WG P n x (zq1 (λe h=>WG P n y Q e h) Q) e h
 |.cond c x y,Q,e,h=>match zaq e [] c with
  |some (.bool b)=>(b=true->WG P n x Q e h)/\(b=false->WG P n y Q e h)
  |_=>False
 |.block id x,Q,e,h=>WG P n x (zil id Q) e h
 |_,_,_,_=>False
def z8t(n:Nat)(B:World)(D:List Deferred)(Q:zdq):Exit->Act->World->Prop:=
 λx a w=>∃e d h a0,a=zbv D a0/\w=mk B d h/\Sat n e a0/\Q x e h
theorem qbk{B:World}{D:List Deferred}{Q:zdq}:∀ex a w,z8t n B D (zil id Q) ex a w->Exit.inBlock id (z8t n B D Q) ex a w:=by
 rintro ex a1 w1 ⟨e1,d1,h1,a0,rfl,rfl,s1,q1⟩
 cases ex with
 |exit i=>
  simp only[zil]at q1
  simp only[Exit.inBlock]
  by_cases hb:Nat.beq i id=true
  ·rw[if_pos (Az hb)]
   simp only[hb,cond_true]at q1
   exact⟨e1,d1,h1,a0,rfl,rfl,s1,q1⟩
  ·rw[if_neg (λhe=>hb (by rw[he];simp))]
   simp only[hb,cond_false]at q1
   exact⟨e1,d1,h1,a0,rfl,rfl,s1,q1⟩
 |_=>exact⟨e1,d1,h1,a0,rfl,rfl,s1,q1⟩
theorem zup(hm:P.follows .mixedOrders=true){D:List Deferred}:∀(c:Code) (Q:zdq) (e:Env) (h:Za),WG P n c Q e h ->
  ∀(B:World) (d:Nat) (a:Act),Sat n e a->c.wpIn (rf ro) m P (z8t n B D Q) (zbv D a) (mk B d h):=by
 intro c
 induction c with
 |skip=>exact λQ e h H B d a hs=>wpIn_skip ⟨e,d,h,a,rfl,rfl,hs,H⟩
 |ret=>exact λQ e h H B d a hs=>wpIn_ret ⟨e,d,h,a,rfl,rfl,hs,H⟩
 |exit id=>exact λQ e h H B d a hs=>wpIn_exit ⟨e,d,h,a,rfl,rfl,hs,H⟩
 |region id ops af=>exact λQ e h H B d a hs=>zln hm H B d hs λe' a' d' h' q1 q2=>⟨e',d',h',a',rfl,rfl,q1,q2⟩
 |seq x y Z aa=>
  intro Q e h H B d a hs
  refine wpIn_seq (wpIn_mono (Z _ _ _ H B d a hs) ?_)
  rintro ex a1 w1 ⟨e1,d1,h1,a0,rfl,rfl,s1,q1⟩
  cases ex with
  |normal=>exact aa _ _ _ q1 B d1 a0 s1
  |_=>exact⟨e1,d1,h1,a0,rfl,rfl,s1,q1⟩
 |cond c x y Z aa=>
  intro Q e h H B d a hs
  simp only[WG]at H
  split at H
  ·rename_i b hb
   have hc:(zbv D a).eval c=.bool b:=Qg hs (c:=[]) trivial hb
   exact wpIn_cond_split hc (λae=>Z _ _ _ (H.1 ae) B d a hs) (λab=>aa _ _ _ (H.2 ab) B d a hs)
  ·exact H.elim
 |block id x ih=>
  intro Q e h H B d a hs
  exact wpIn_block (wpIn_mono (ih _ _ _ H B d a hs) qbk)
 |_=>exact λQ e h H=>H.elim
abbrev zuq:=LoopState->Option Code->Loop
def qe6(rec:zuq)(l:Nat)(K:Value->Za->Prop):zdq
 |.normal,_,h=>h[l]?=some (.loop (rec .busy none))/\K (.bool true) (h.setIfInBounds l (.loop (rec .ready none)))
 |.ret,_,h=>h[l]?=some (.loop (rec .busy none))/\K (.bool false) (h.setIfInBounds l (.loop (rec .done (some .ret))))
 |_,_,_=>False
def zhd(P:Program)(n:Nat)(Z bd:Code)(rec:zuq)(l:Nat)(K:Value->Za->Prop)(e:Env)(h:Za):Prop:=
 WG P n Z (λx e1 h1=>match x with
  |.normal=>h1[l]?=some (.loop (rec .ready none))/\WG P n bd (qe6 rec l K) e1 (h1.setIfInBounds l (.loop (rec .busy none)))
  |_=>False) e h
theorem zur(a:Act):zbv [] a=a:=by unfold zbv;rw[Bu]
def z8u:Env->List Nat->List Value->Env
 |e,p::ps,v::vs=>z8u (putO e (some p) [] v) ps vs
 |e,_,_=>e
def zwp:Array Value->List Nat->List Value->Array Value
 |t,p::ps,v::vs=>zwp (t.setIfInBounds p v) ps vs
 |t,_,_=>t
theorem zlo:∀(ps:List Nat) (vs:List Value) (t:Array Value),(ps.zip vs).foldl (λ(t:Array Value) (x:Tmp×Value)=>t.setIfInBounds x.1 x.2) t=zwp t ps vs
 |[],_,_=>rfl
 |_::_,[],_=>rfl
 |p::ps,v::vs,t=>zlo ps vs (t.setIfInBounds p v)
theorem zp5{n:Nat}:∀(ps:List Nat) (vs:List Value) (e:Env) (a:Act),(∀p∈ps,Z5 n [] (some p)=true)->Sat n e a->Sat n (z8u e ps vs) { tmps:=zwp a.tmps ps vs,defers:=[] }
 |[],vs,e,a,_,hs=>by
  have:=hs.defers
  cases a;simp only at this;subst this;exact hs
 |p::ps,[],e,a,_,hs=>by
  have:=hs.defers
  cases a;simp only at this;subst this;exact hs
 |p::ps,v::vs,e,a,h,hs=>zp5 ps vs _ (a.put (some p) v) (λq hq=>h q (Aw _ hq)) (hs.putO (h p AC) (λ_=>rfl) (λhv=>absurd trivial hv))
theorem z5e(hm:P.follows .mixedOrders=true){n l:Nat}{ps:List Nat}{ab bd:Code}{fn:FuncId}{D:Nat}(aj:∀p∈ps,Z5 n [] (some p)=true)
  {rec:zuq} (Z:rec=λst pe=>{ state:=st,pending:=pe,fn:=fn,tmps:=a.tmps,params:=ps.toArray,assign:=ab,body:=bd,defers:=D })
  {vs:List Value} (hv:ps.length=vs.length) (hs:Sat n e a) (hl:h[l]?=some (.loop (rec .ready none))) {K:Value->Za->Prop}
  (H:zhd P n ab bd rec l K (z8u e ps vs) h):YX P l vs.toArray h K:=by
 intro m B d
 have ai:(mk B d h).heap[l]?=some (.loop (rec .ready none)):=hl
 have hy:=run_yield (P:=P) (w:=mk B d h) (args:=vs.toArray) ai (by rw[Z];show vs.toArray.size=ps.toArray.size;simp[hv])
 refine⟨_,_,_,_,hy,?_⟩
 rw[Z]at hy ⊢
 have s2:=zp5 ps vs e a aj hs
 have key:RoundIn (rf none) m P l fn (zwp a.tmps ps vs) ab bd (mk B d h) (λe w'=>∃v d' h',e=.returned v/\w'=mk B d' h'/\K v h'):=by
  refine roundIn_of_wpIn (F:=rf none) trivial ?_
  have hF:(rf none).inRound l=rf (some l):=rfl
  rw[hF,<-zur { tmps:=zwp a.tmps ps vs,defers:=[] }]
  refine wpIn_mono (zup hm ab _ _ _ H B d _ s2) ?_
  rintro ex a1 w1 ⟨e1,d1,h1,a0,rfl,rfl,s1,q1⟩
  cases ex with
  |normal=>
   obtain⟨k3,k4⟩:=q1
   have ak:(mk B d1 h1).heap[l]?=some (.loop (rec .ready none)):=k3
   have hb:=run_beginRound (P:=P) ak (by rw[Z])
   refine⟨_,hb,?_⟩
   have ae:({ rec .ready none with state:=.busy }:Loop)=rec .busy none:=by rw[Z]
   rw[ae]
   refine wpIn_mono (zup hm bd _ _ _ k4 B d1 a0 s1) ?_
   rintro ex a2 w2 ⟨e2,d2,h2,a3,rfl,rfl,s3,q2⟩
   cases ex with
   |normal=>
    obtain⟨k6,k7⟩:=q2
    have af:(mk B d2 h2).heap[l]?=some (.loop (rec .busy none)):=k6
    have aa:=run_endRound (P:=P) none af
    refine⟨_,_,aa,.bool true,d2,h2.setIfInBounds l (.loop (rec .ready none)),rfl,?_,k7⟩
    have ah:({ rec .busy none with state:=if(none:Option Code).isNone then .ready else .done,pending:=none }:Loop)=rec .ready none:=by rw[Z];rfl
    rw[ah];rfl
   |ret=>
    obtain⟨k6,k7⟩:=q2
    have af:(mk B d2 h2).heap[l]?=some (.loop (rec .busy none)):=k6
    have aa:=run_endRound (P:=P) (some .ret) af
    refine⟨_,_,aa,.bool false,d2,h2.setIfInBounds l (.loop (rec .done (some .ret))),rfl,?_,k7⟩
    have ah:({ rec .busy none with state:=if(some Code.ret:Option Code).isNone then .ready else .done,pending:=some .ret }:Loop)=rec .done (some .ret):=by rw[Z];rfl
    rw[ah];rfl
   |_=>exact q2.elim
  |_=>exact q1.elim
 show RoundIn (rf none) m P l fn (Array.foldl (λ(t:Array Value) (x:Tmp×Value)=>t.setIfInBounds x.1 x.2) a.tmps (ps.toArray.zip vs.toArray)) _ _ _ _
 have zs:Array.foldl (λ(t:Array Value) (x:Tmp×Value)=>t.setIfInBounds x.1 x.2) a.tmps (ps.toArray.zip vs.toArray)=zwp a.tmps ps vs:=by rw[<-zlo];simp
 rw[zs]
 exact key
def rfA:Code->Code
 |.rangeFunc _ _ x _=>x
 |.seq x y=>match rfA x with
  |.skip=>rfA y
  |c=>c
 |.block _ x=>rfA x
 |_=>.skip
def rfB:Code->Code
 |.rangeFunc _ _ _ y=>y
 |.seq x y=>match rfB x with
  |.skip=>rfB y
  |c=>c
 |.block _ x=>rfB x
 |_=>.skip
def marks(ds:List Nat):List Deferred:=ds.map λb=>{ target:=.collected b,args:=#[] }
abbrev zjm:=Exit->List Nat->Env->Za->Prop
def qdy(K:List Nat->Env->Za->Prop)(Q:zjm):zjm
 |.normal,ds,e,h=>K ds e h
 |x,ds,e,h=>Q x ds e h
def z5f(id:Nat)(Q:zjm):zjm
 |.exit i,ds,e,h=>bif Nat.beq i id then Q .normal ds e h else Q (.exit i) ds e h
 |x,ds,e,h=>Q x ds e h
def znl(rec:zuq)(l:Nat)(N R:Za->Prop)(h:Za):Prop:=
 (h[l]?=some (.loop (rec .ready none))/\N (h.setIfInBounds l (.loop (rec .exhausted none))))\/(h[l]?=some (.loop (rec .done (some .ret)))/\R (h.setIfInBounds l (.loop (rec .exhausted (some .ret)))))
def z5g(P:Program)(n:Nat)(p1 p2:Nat)(Z bd:Code)(v:Value)(Q:zjm)(ds:List Nat)(e:Env)(h:Za):Prop:=
 bif Z5 n [] (some p1)&&Z5 n [] (some p2)then(∃g lb,v=.func (.func g) #[] lb/\Zp P g=true/\∀rec:zuq,
  (∀{v1 v2:Value} {h2:Za} {K:Value->Za->Prop},h2[h.size+1]?=some (.loop (rec .ready none))->zhd P n Z bd rec (h.size+1) K (putO (putO e (some p1) [] v1) (some p2) [] v2) h2->YX P (h.size+1) #[v1,v2] h2 K) ->
  XCI P g (#[.func (.yield (h.size+1)) #[] #[]]++lb) ((h.push (.deferred (some []))).push (.loop (rec .ready none))) λ_ h5=>znl rec (h.size+1) (λh6=>Q .normal (h.size::ds) e h6) (λh6=>Q .ret (h.size::ds) e h6) h5)else False
def z0k(P:Program)(n:Nat)(p1:Nat)(Z bd:Code)(v:Value)(Q:zjm)(ds:List Nat)(e:Env)(h:Za):Prop:=
 bif Z5 n [] (some p1)then(∃g lb,v=.func (.func g) #[] lb/\Zp P g=true/\∀rec:zuq,
  (∀{v1:Value} {h2:Za} {K:Value->Za->Prop},h2[h.size+1]?=some (.loop (rec .ready none))->zhd P n Z bd rec (h.size+1) K (putO e (some p1) [] v1) h2->YX P (h.size+1) #[v1] h2 K) ->
  XCI P g (#[.func (.yield (h.size+1)) #[] #[]]++lb) ((h.push (.deferred (some []))).push (.loop (rec .ready none))) λ_ h5=>znl rec (h.size+1) (λh6=>Q .normal (h.size::ds) e h6) (λh6=>Q .ret (h.size::ds) e h6) h5)else False
def WD(P:Program)(n:Nat):Code->zjm->List Nat->Env->Za->Prop
 |.skip,Q,ds,e,h=>Q .normal ds e h
 |.ret,Q,ds,e,h=>Q .ret ds e h
 |.exit id,Q,ds,e,h=>Q (.exit id) ds e h
 |.region _ ops draw,Q,ds,e,h=>qcq P n ops draw (λe h=>Q .normal ds e h) e h
 |.seq x y,Q,ds,e,h=>WD P n x (qdy (λds e h=>WD P n y Q ds e h) Q) ds e h
 |.cond c x y,Q,ds,e,h=>match zaq e [] c with
  |some (.bool b)=>(b=true->WD P n x Q ds e h)/\(b=false->WD P n y Q ds e h)
  |_=>False
 |.block id x,Q,ds,e,h=>WD P n x (z5f id Q) ds e h
 |.rangeFunc g ps asg bd,Q,ds,e,h=>match zaq e [] g,ps.toList with
  |some v,[p1,p2]=>z5g P n p1 p2 asg bd v Q ds e h
  |some v,[p1]=>z0k P n p1 asg bd v Q ds e h
  |_,_=>False
 |_,_,_,_,_=>False
def qbl(n:Nat)(B:World)(Q:zjm):Exit->Act->World->Prop:=
 λx a w=>∃ds e d h a0,a=zbv (marks ds) a0/\w=mk B d h/\Sat n e a0/\Q x ds e h
theorem zhe(ai:1<=m){ps:Array Nat}{ae bd:Code}{gf:FuncId}{lb:Array Value}(hg:Zp P gf=true){g:Operand}{Q:zjm}{ds:List Nat}(hs:Sat n e a)(hc:(zbv (marks ds) a).eval g=.func (.func gf) #[] lb)
  (HR:∀fn (rec:zuq),rec=(λst pe=>{ state:=st,pending:=pe,fn:=fn,tmps:=a.tmps,params:=ps,assign:=ae,body:=bd,defers:=h.size }) ->
   XCI P gf (#[.func (.yield (h.size+1)) #[] #[]]++lb) ((h.push (.deferred (some []))).push (.loop (rec .ready none))) λ_ h5=>znl rec (h.size+1) (λh6=>Q .normal (h.size::ds) e h6) (λh6=>Q .ret (h.size::ds) e h6) h5)
  (B:World) (d:Nat):(Code.rangeFunc g ps ae bd).wpIn (rf none) m P (qbl n B Q) (zbv (marks ds) a) (mk B d h):=by
 refine wpIn_rangeFunc λah _=>?_
 obtain⟨rec,Z⟩:∃rec:zuq,rec=λst pe=>{ state:=st,pending:=pe,fn:=ah,tmps:=a.tmps,params:=ps,assign:=ae,body:=bd,defers:=h.size }:=⟨_,rfl⟩
 have aj:=HR ah rec Z
 refine⟨h.size+1,[{ target:=.collected h.size,args:=#[] }],mk B d ((h.push (.deferred (some []))).push (.loop (rec .ready none))),{ target:=.fn (.func gf) lb,args:=#[.func (.yield (h.size+1)) #[] #[]] },mk B d ((h.push (.deferred (some []))).push (.loop (rec .ready none))),gf,
  #[.func (.yield (h.size+1)) #[] #[]]++lb,mk B d ((h.push (.deferred (some []))).push (.loop (rec .ready none))),?_,?_,λ_ _=>trivial,?_,λ_=>ai,?_⟩
 ·rw[Z];exact run_enterLoop_outer _ _ _ _ _
 ·simp only[resolve,hc]
  simp[go_sem,DU]
 ·simp only[invoke]
  exact zb4 hg _ _
 ·have ha:({ zbv (marks ds) a with defers:=[{ target:=.collected h.size,args:=#[] }]++(zbv (marks ds) a).defers }:Act)=zbv (marks (h.size::ds)) a:=by
   unfold zbv marks;simp only[hs.defers];rfl
  rw[ha]
  refine CallsIn.mono (aj (m-1) B d) ?_
  rintro e' w' ⟨v,d5,h5,rfl,rfl,af⟩
  rcases af with⟨ab,hN⟩|⟨ab,hR⟩
  ·have aa:(mk B d5 h5).heap[h.size+1]?=some (.loop (rec .ready none)):=ab
   have he:=run_endLoop (P:=P) aa (by rw[Z];intro hx;cases hx)
   have e1:({ rec .ready none with state:=.exhausted }:Loop)=rec .exhausted none:=by rw[Z]
   have e2:(rec .ready none).pending=none:=by rw[Z]
   rw[e1,e2]at he
   exact⟨none,_,he,_,e,d5,_,a,rfl,rfl,hs,hN⟩
  ·have aa:(mk B d5 h5).heap[h.size+1]?=some (.loop (rec .done (some .ret))):=ab
   have he:=run_endLoop (P:=P) aa (by rw[Z];intro hx;cases hx)
   have e1:({ rec .done (some .ret)with state:=.exhausted }:Loop)=rec .exhausted (some .ret):=by rw[Z]
   have e2:(rec .done (some .ret)).pending=some .ret:=by rw[Z]
   rw[e1,e2]at he
   exact⟨some .ret,_,he,wpIn_ret ⟨_,e,d5,_,a,rfl,rfl,hs,hR⟩⟩
theorem z3o(hm:P.follows .mixedOrders=true)(ak:1<=m):∀(c:Code) (Q:zjm) (ds:List Nat) (e:Env) (h:Za),WD P n c Q ds e h ->
  ∀(B:World) (d:Nat) (a:Act),Sat n e a->c.wpIn (rf none) m P (qbl n B Q) (zbv (marks ds) a) (mk B d h):=by
 intro c
 induction c with
 |skip=>exact λQ ds e h H B d a hs=>wpIn_skip ⟨ds,e,d,h,a,rfl,rfl,hs,H⟩
 |ret=>exact λQ ds e h H B d a hs=>wpIn_ret ⟨ds,e,d,h,a,rfl,rfl,hs,H⟩
 |exit id=>exact λQ ds e h H B d a hs=>wpIn_exit ⟨ds,e,d,h,a,rfl,rfl,hs,H⟩
 |region id ops ap=>exact λQ ds e h H B d a hs=>zln hm H B d hs λe' a' d' h' q1 q2=>⟨ds,e',d',h',a',rfl,rfl,q1,q2⟩
 |seq x y af aj=>
  intro Q ds e h H B d a hs
  refine wpIn_seq (wpIn_mono (af _ _ _ _ H B d a hs) ?_)
  rintro ex a1 w1 ⟨ae,e1,d1,h1,a0,rfl,rfl,s1,q1⟩
  cases ex with
  |normal=>exact aj _ _ _ _ q1 B d1 a0 s1
  |_=>exact⟨ae,e1,d1,h1,a0,rfl,rfl,s1,q1⟩
 |cond c x y af aj=>
  intro Q ds e h H B d a hs
  simp only[WD]at H
  split at H
  ·rename_i b hb
   have hc:(zbv (marks ds) a).eval c=.bool b:=Qg hs (c:=[]) trivial hb
   exact wpIn_cond_split hc (λan=>af _ _ _ _ (H.1 an) B d a hs) (λam=>aj _ _ _ _ (H.2 am) B d a hs)
  ·exact H.elim
 |block id x ih=>
  intro Q ds e h H B d a hs
  refine wpIn_block (wpIn_mono (ih _ _ _ _ H B d a hs) ?_)
  rintro ex a1 w1 ⟨ae,e1,d1,h1,a0,rfl,rfl,s1,q1⟩
  cases ex with
  |exit i=>
   simp only[z5f]at q1
   simp only[Exit.inBlock]
   by_cases hb:Nat.beq i id=true
   ·rw[if_pos (Az hb)]
    simp only[hb,cond_true]at q1
    exact⟨ae,e1,d1,h1,a0,rfl,rfl,s1,q1⟩
   ·rw[if_neg (λhe=>hb (by rw[he];simp))]
    simp only[hb,cond_false]at q1
    exact⟨ae,e1,d1,h1,a0,rfl,rfl,s1,q1⟩
  |_=>exact⟨ae,e1,d1,h1,a0,rfl,rfl,s1,q1⟩
 |rangeFunc g ps ay bd au ar=>
  intro Q ds e h H B d a hs
  simp only[WD]at H
  split at H
  ·rename_i v p1 p2 hv ai
   have aa:ps=#[p1,p2]:=by rw[<-Array.toList_inj];exact ai
   subst aa
   unfold z5g at H
   cases Z:(Z5 n [] (some p1)&&Z5 n [] (some p2))with
   |false=>rw[Z]at H;exact H.elim
   |true=>
    rw[Z]at H
    rw[BP]at Z
    obtain⟨gf,lb,rfl,hg,HR⟩:=H
    exact zhe ak hg hs (Qg hs (c:=[]) trivial hv) (λfn rec ab=>HR rec (λ {v1 v2 h2 K} hl ah=>z5e hm (ps:=[p1,p2]) (vs:=[v1,v2]) (by intro p hp;simp only[Ay,DX,or_false]at hp;rcases hp with rfl|rfl;exact Z.1;exact Z.2) ab rfl hs hl ah)) B d
  ·rename_i v p1 hv ai
   have aa:ps=#[p1]:=by rw[<-Array.toList_inj];exact ai
   subst aa
   unfold z0k at H
   cases Z:Z5 n [] (some p1)with
   |false=>rw[Z]at H;exact H.elim
   |true=>
    rw[Z]at H
    obtain⟨gf,lb,rfl,hg,HR⟩:=H
    exact zhe ak hg hs (Qg hs (c:=[]) trivial hv) (λfn rec ab=>HR rec (λ {v1 h2 K} hl ah=>z5e hm (ps:=[p1]) (vs:=[v1]) (by intro p hp;simp only[Ay,DX,or_false]at hp;subst hp;exact Z) ab rfl hs hl ah)) B d
  ·exact H.elim
 |_=>exact λQ ds e h H=>H.elim
def takeD:List Nat->(Za->Prop)->Za->Prop
 |[],K,h=>K h
 |b::ds,K,h=>h[b]?=some (.deferred (some []))/\takeD ds K (h.setIfInBounds b (.deferred none))
def qe7(P:Program)(rs:List ResultVar)(R:Value->Za->Prop):zjm
 |.normal,ds,e,h=>takeD ds (λh'=>zxj P h' e rs λvs=>R (zim vs) h') h
 |.ret,ds,e,h=>takeD ds (λh'=>zxj P h' e rs λvs=>R (zim vs) h') h
 |_,_,_,_=>False
theorem zeo{P:Program}{fn:Func}{n:Nat}{rs:List ResultVar}(hr:fn.results.toList=rs){e:Env}{a:Act}(hs:Sat n e a){B:World}{R:Value->Za->Prop}{D:Nat}:∀(ds:List Nat) (d:Nat) (h:Za),takeD ds (λh'=>zxj P h' e rs λvs=>R (zim vs) h') h ->
  LeavesInM Fence.wide D P fn a.tmps (λe w'=>∃v d' h',e=.returned v/\w'=mk B d' h'/\R v h') (marks ds) .returning (mk B d h)
 |[],d,h,H=>by
  obtain⟨v,hv,hq⟩:=Xc hs hr H
  exact⟨v,hq B d,v,d,h,rfl,rfl,hv⟩
 |b::ds,d,h,⟨h1,H⟩=>by
  have Z:(mk B d h).heap[b]?=some (.deferred (some [])):=h1
  exact⟨by simp,.inl ⟨_,_,rfl,run_takeDeferred (P:=P) Z,zeo hr hs ds d _ H⟩⟩
theorem zsm(hm:P.follows .mixedOrders=true)(vs:List Value){f:FuncId}{fn:Func}{rs:List ResultVar}(hf:P.funcs[f]?=some fn)(hb:Xd fn=true)(hr:fn.results.toList=rs)(hn:fn.ntmps=n)(hz:Nat.ble vs.length n=true){R:Value->Za->Prop}{F:Prop}(H:F)(ef:F=WD P n (codeOf fn) (qe7 P rs R) [] (zxi 0 vs) h):XC P f vs.toArray h R:=by
 have Z:fn.body=some (codeOf fn):=by
  unfold Xd at hb
  unfold codeOf
  split at hb
  ·rename_i c hc;rw[hc]
  ·cases hb
 intro B d
 refine callsIn_wide.1 (callsIn_of_wp_marks (F:=Fence.wide) (n:=1) hf Z trivial ?_ rfl)
 subst hn
 have ab:vs.length<=fn.ntmps:=Cd hz
 have hs:Sat fn.ntmps (zxi 0 vs) { tmps:=vs.toArray++Br (fn.ntmps-vs.toArray.size) undef,defers:=[] }:=by
  refine⟨rfl,by simp;omega,?_⟩
  refine zcx vs.toArray _ vs 0 λj v hj=>?_
  have aa:j<vs.length:=by
   rcases A1 j vs.length with h|h
   ·exact h
   ·rw[Ce h]at hj;cases hj
  simp only[AX,BO]
  rw[CN (by simpa using aa)]
  simp[hj]
 have:=z3o hm (m:=1) (by omega) (codeOf fn) _ [] _ _ (ef ▸ H) B d _ hs
 rw[show marks []=[]from rfl,zur]at this
 refine wpIn_mono this ?_
 rintro ex a w ⟨ds,e1,d1,h1,a0,rfl,rfl,s1,q1⟩
 have hd:(zbv (marks ds) a0).defers=marks ds:=by unfold zbv;rw[s1.defers];rfl
 have ht:(zbv (marks ds) a0).tmps=a0.tmps:=rfl
 cases ex with
 |normal=>show LeavesInM _ _ _ _ _ _ _ _ _;rw[hd,ht];exact zeo hr s1 ds d1 h1 q1
 |ret=>show LeavesInM _ _ _ _ _ _ _ _ _;rw[hd,ht];exact zeo hr s1 ds d1 h1 q1
 |_=>exact q1.elim
end
section
theorem zp6(aa:Nat)(c1:Addr)(h:Za)(R:Value->Za->Prop)
  (H:∃aA:Bt,Ze h c1=some (.string aA)/\((decide ((((aA).size:Int):Int)>65536))=true->YX Tp aa #[.agg #[.int .i64 0,.int .i64 0,.int .i64 0],.int .i64 3] h (λaL aJ=>∃aE:Bool,aL=.bool aE/\R (.tuple #[]) aJ))/\((decide ((((aA).size:Int):Int)>65536))=false->∃(aC:Int->Za->Prop) (aI:Int->Za->Nat),aC 0 h/\∀ab:Int,∀az:Za,aC ab az->(∃ah:Bt,Ze az c1=some (.string ah)/\((decide ((ab:Int)<((ah).size:Int)))=true->∃ai:Bt,Ze az c1=some (.string ai)/\XC Tp 198 #[.string ai,.int .i64 ab] az (λaH am=>∃ar:Int,∃an:Int,∃ap:Int,∃Z:Int,aH=.tuple #[.agg #[.int .i64 ar,.int .i64 an,.int .i64 ap],.int .i64 Z]/\let aF:Za:=DO am (.cells #[.int .i64 0,.int .i64 0,.int .i64 0] 90);XRunU Tp (AI 90 (.pointer (some ⟨Bi am,0,none⟩)) (.agg #[.int .i64 ar,.int .i64 an,.int .i64 ap])) aF (λaB=>∃au:Int,∃ay:Int,∃ak:Int,Zb aB ⟨Bi am,0,none⟩ 0 [.int .i64 au,.int .i64 ay,.int .i64 ak]/\YX Tp aa #[.agg #[.int .i64 au,.int .i64 ay,.int .i64 ak],.int .i64 Z] aB (λaG aj=>∃ae:Bool,aG=.bool ae/\((bif (!ae)then true else((Z:Int) != 0))=true->R (.tuple #[]) aj)/\((bif (!ae)then true else((Z:Int) != 0))=false->∃af:Int,Ze aj (AD (AD ⟨Bi am,0,none⟩ 1) 1)=some (.int .i64 af)/\(aC af aj/\aI af aj<aI ab az))))))/\((decide ((ab:Int)<((ah).size:Int)))=false->R (.tuple #[]) az)))):
  XCI Tp 197 #[.func (.yield aa) #[] #[],.pointer (some c1)] h R:=
 zsl Tryz.mixed ⟨[],[(3,[(3,.one (.int .i64))])],[]⟩ [.func (.yield aa) #[] #[],.pointer (some c1)] (rs:=[]) (n:=34) Tryz.func197 (by kernel_rfl) (by kernel_rfl) (by kernel_rfl) (by kernel_rfl) (Eq.mp (by kernel_rfl) H)
theorem znm(s0:Bt)(h:Za)(R:Value->Za->Prop)
  (H:let ak:Za:=DO h (.cells #[.slice none 0 0] 83);let aj:Za:=DO ak (.cells #[.int .i64 0] 3);let aE:Za:=DO aj (.cells #[.int .i64 0] 27);let aJ:Za:=DO aE (.cells #[.slice none 0 0] 83);XC Tp 113 #[.string s0] aJ (λaL aa=>∃ap:Value,aL=ap/\∃(am:FuncId) (an:Array Value),ap=.func (.func am) #[] an/\Zp Tp am=true/\∀ah:zuq,(∀{aB ay:Value} {aF:Za} {ar:Value->Za->Prop},aF[(Bi aa+1)]?=some (.loop (ah .ready none))->zhd Tp 25 (rfA (codeOf Tryz.f60)) (rfB (codeOf Tryz.f60)) ah (Bi aa+1) ar (putO (putO [(9,[],ap),(8,[],.string s0),(5,[],.pointer (some ⟨Bi aE,0,none⟩)),(4,[],.pointer (some ⟨Bi aj,0,none⟩)),(3,[],.pointer (some ⟨Bi ak,0,none⟩)),(2,[],.pointer (some ⟨Bi h,0,none⟩)),(0,[],.string s0)] (some 10) [] aB) (some 11) [] ay) aF->YX Tp (Bi aa+1) #[aB,ay] aF ar)->XCI Tp am (#[.func (.yield (Bi aa+1)) #[] #[]]++an) (DO (DO aa (.deferred (some []))) (.loop (ah .ready none))) λ_ aG=>znl ah (Bi aa+1) (λab=>∃Z:Sl,Ze ab ⟨Bi aE,0,none⟩=some (.slice Z.a Z.len Z.cap)/\XRunU Tp (AI 83 (.pointer (some ⟨Bi h,0,none⟩)) (.slice Z.a Z.len Z.cap)) ab (λaI=>XRunU Tp (AI 3 (.pointer (some ⟨Bi ak,0,none⟩)) (.int .i64 ((s0).size:Int))) aI (λaH=>XRunU Tp (AI 27 (.pointer (some ⟨Bi aj,0,none⟩)) (.int .i64 0)) aH (λai=>(ai)[Bi aa]?=some (.deferred (some []))/\∃af:Sl,Ze (Array.setIfInBounds ai (Bi aa) (.deferred none)) ⟨Bi h,0,none⟩=some (.slice af.a af.len af.cap)/\∃au:Int,Ze (Array.setIfInBounds ai (Bi aa) (.deferred none)) ⟨Bi ak,0,none⟩=some (.int .i64 au)/\∃az:Int,Ze (Array.setIfInBounds ai (Bi aa) (.deferred none)) ⟨Bi aj,0,none⟩=some (.int .i64 az)/\R (.tuple #[.slice af.a af.len af.cap,.int .i64 au,.int .i64 az]) (Array.setIfInBounds ai (Bi aa) (.deferred none)))))) (λab=>(ab)[Bi aa]?=some (.deferred (some []))/\∃ae:Sl,Ze (Array.setIfInBounds ab (Bi aa) (.deferred none)) ⟨Bi h,0,none⟩=some (.slice ae.a ae.len ae.cap)/\∃aC:Int,Ze (Array.setIfInBounds ab (Bi aa) (.deferred none)) ⟨Bi ak,0,none⟩=some (.int .i64 aC)/\∃aA:Int,Ze (Array.setIfInBounds ab (Bi aa) (.deferred none)) ⟨Bi aj,0,none⟩=some (.int .i64 aA)/\R (.tuple #[.slice ae.a ae.len ae.cap,.int .i64 aC,.int .i64 aA]) (Array.setIfInBounds ab (Bi aa) (.deferred none))) aG)):
  XC Tp 60 #[.string s0] h R:=
 zsm Tryz.mixed [.string s0] (rs:=[.cell 2 83,.cell 3 3,.cell 4 27]) (n:=25) Tryz.func60 (by kernel_rfl) (by kernel_rfl) (by kernel_rfl) (by kernel_rfl) H (by kernel_rfl)
theorem zf3(x9:Value)(x8:Value)(x5:Addr)(x4:Addr)(x3:Addr)(x2:Addr)(x0:Value)(ak:Int)(aj:Int)(am:Int)(an:Int)(rec:zuq)(l:Nat)(K:Value->Za->Prop)(h:Za)
  (H:let aA:Za:=DO h (.cells #[.int .i64 0,.int .i64 0,.int .i64 0] 90);XRunU Tp (AI 90 (.pointer (some ⟨Bi h,0,none⟩)) (.agg #[.int .i64 ak,.int .i64 aj,.int .i64 am])) aA (λar=>(ar)[l]?=some (.loop (rec .ready none))/\let ab:Za:=Array.setIfInBounds ar l (.loop (rec .busy none));(((an:Int) != 0)=true->∃ai:Int,Ze ab (AD (AD ⟨Bi h,0,none⟩ 1) 0)=some (.int .i64 ai)/\XRunU Tp (AI 83 (.pointer (some x2)) (.slice none 0 0)) ab (λap=>(ap)[((AD (AD ⟨Bi h,0,none⟩ 1) 0):Addr).block]?=(ab)[((AD (AD ⟨Bi h,0,none⟩ 1) 0):Addr).block]?/\XRunU Tp (AI 3 (.pointer (some x3)) (.int .i64 ai)) ap (λaC=>XRunU Tp (AI 27 (.pointer (some x4)) (.int .i64 an)) aC (λay=>(ay)[l]?=some (.loop (rec .busy none))/\K (.bool false) (Array.setIfInBounds ay l (.loop (rec .done (some .ret))))))))/\(((an:Int) != 0)=false->∃aa:Sl,Ze ab x5=some (.slice aa.a aa.len aa.cap)/\∃ah:Int,∃af:Int,∃ae:Int,Zb ab ⟨Bi h,0,none⟩ 0 [.int .i64 ah,.int .i64 af,.int .i64 ae]/\let aB:Za:=DO ab (.cells #[.int .i64 ah,.int .i64 af,.int .i64 ae] 90);XRun Tp (AU #[83,83] 83 #[.slice aa.a aa.len aa.cap,.slice (some ⟨Bi ab,0,none⟩) 1 1]) aB (λaE az=>∃Z:Sl,aE=.slice Z.a Z.len Z.cap/\XRunU Tp (AI 83 (.pointer (some x5)) (.slice Z.a Z.len Z.cap)) az (λau=>(au)[l]?=some (.loop (rec .busy none))/\K (.bool true) (Array.setIfInBounds au l (.loop (rec .ready none)))))))):
  zhd Tp 25 (rfA (codeOf Tryz.f60)) (rfB (codeOf Tryz.f60)) rec l K [(11,[],.int .i64 an),(10,[],.agg #[.int .i64 ak,.int .i64 aj,.int .i64 am]),(9,[],x9),(8,[],x8),(5,[],.pointer (some x5)),(4,[],.pointer (some x4)),(3,[],.pointer (some x3)),(2,[],.pointer (some x2)),(0,[],x0)] h:=
 Eq.mp (by kernel_rfl) H
end
end Go.X
end
section
namespace Go.X
open Go Go.X Go.Proofs Go.RowKit
section
variable {g:Za} {i:Nat} {k f t:Int} {x9 x8 x0:Value} {K:Value -> Za -> Prop}
abbrev tTk:Ty:=.pair (.int .i64) (.pair (.int .i64) (.int .i64))
theorem z5h:ElemT Tp 83 90 (.agg #[.int .i64 0,.int .i64 0,.int .i64 0]) (sz tTk) 24:=⟨by kernel_rfl,⟨Tryz.t90,by kernel_rfl,by kernel_rfl,by kernel_rfl,by kernel_rfl⟩,rfl,by decide⟩
theorem z8v:Z6 Tp 83=true:=by kernel_rfl
theorem z8w:Qh Tp 83=1:=by kernel_rfl
theorem qbm:Z6 Tp 3=true:=by kernel_rfl
theorem qbn:Qh Tp 3=1:=by kernel_rfl
theorem qbo:Z6 Tp 27=true:=by kernel_rfl
theorem qbp:Qh Tp 27=1:=by kernel_rfl
theorem z5i{M:Fr}(k f t:Int):Rd M tTk (k,(f,t)) (zp1 k f t):=⟨[.int .i64 k],[.int .i64 f,.int .i64 t],rfl,rfl,[.int .i64 f],[.int .i64 t],rfl,rfl,rfl⟩
structure TkS (h:Za) (M:Fr) (b2 b3 b4 b5 bc D l:Nat) (rec:zuq) (s:Bs) (out:List Tk) (sl:Sl) (bs:List Nat) (g:Za):Prop where
 keep:Keep h.size h g
 c:Blk g bc #[.string (bl s)]
 d:g[D]?=some (.deferred (some []))
 rc:g[l]?=some (.loop (rec .ready none))
 r2:Blk g b2 #[.slice none 0 0]
 r3:Blk g b3 #[.int .i64 0]
 r4:Blk g b4 #[.int .i64 0]
 r5:Blk g b5 #[slV sl]
 o:ORow (l+1) g M tTk out sl bs
structure Apart (h:Za) (b2 b3 b4 b5 bc D l:Nat):Prop where
 lo:h.size<=b2
 a3:b2<b3
 a4:b3<b4
 a5:b4<b5
 ac:b5<bc
 aD:bc<D
 al:l=D+1
theorem Qu{i j:Nat}{o:Obj}(h:j≠i):(g.setIfInBounds i o)[j]?=g[j]?:=A3 (Ne.symm h)
theorem set_self{o:Obj}(h:i<g.size):(g.setIfInBounds i o)[i]?=some o:=Array.getElem?_setIfInBounds_self_of_lt h
theorem Blk.fr{g g':Za}{b:Nat}{cs:Array Value}(H:Blk g b cs)(e:g'[b]?=g[b]?):Blk g' b cs:=H.keep e
theorem lt_of_some{o:Obj}(h:g[i]?=some o):i<g.size:=(Au.1 h).1
section
variable {h : Za} {M : Fr} {b2 b3 b4 b5 bc D l : Nat} {rec : zuq} {s : Bs} {out : List Tk} {sl : Sl} {bs : List Nat} {g : Za}
set_option maxRecDepth 100000 in
set_option maxHeartbeats 1000000 in
theorem TkS.round(A:Apart h b2 b3 b4 b5 bc D l)(ag:AgM M h)(S:TkS h M b2 b3 b4 b5 bc D l rec s out sl bs g)(hn:out.length<=100000)
  (hK:∀g' aC ai,TkS h M b2 b3 b4 b5 bc D l rec s (out++[(k,(f,t))]) aC ai g'->g.size<=g'.size->(∀j,j<g.size->j≠b5->j≠l->j∉bs->g'[j]?=g[j]?)->K (.bool true) g'):
  zhd Tp 25 (rfA (codeOf Tryz.f60)) (rfB (codeOf Tryz.f60)) rec l K [(11,[],.int .i64 0),(10,[],.agg #[.int .i64 k,.int .i64 f,.int .i64 t]),(9,[],x9),(8,[],x8),(5,[],.pointer (some ⟨b5,0,none⟩)),(4,[],.pointer (some ⟨b4,0,none⟩)),(3,[],.pointer (some ⟨b3,0,none⟩)),(2,[],.pointer (some ⟨b2,0,none⟩)),(0,[],x0)] g:=by
 apply zf3
 intro ab
 have aG:Keep g.size g ab:=Keep.push _ _ (Av _)
 have aM:ab.size=g.size+1:=AM _
 have aE:Blk ab g.size (zp1 0 0 0).toArray:=Blk.new _ _ _
 clear_value ab
 have ll:=lt_of_some S.rc
 have:=A.lo;have:=A.a3;have:=A.a4;have:=A.a5;have:=A.ac;have:=A.aD;have:=A.al
 refine z8q aE λaf q1 q2 q3=>?_
 have an:∀j,j<g.size->af[j]?=g[j]?:=λj hj=>by rw[q1 j (by omega)];exact aG.get j hj
 refine⟨by rw[an l ll];exact S.rc,?_⟩
 intro Z
 have aj:∀j,j≠l->Z[j]?=af[j]?:=λj hj=>Qu hj
 have aJ:Z[l]?=some (.loop (rec .busy none)):=set_self (by omega)
 have aL:Z.size=af.size:=Bm
 clear_value Z
 refine⟨λhx=>by simp at hx,λ_=>?_⟩
 have B5:Blk Z b5 #[slV sl]:=S.r5.keep (by rw[aj b5 (by omega),an b5 (by omega)])
 have Bt:Blk Z g.size (zp1 k f t).toArray:=q3.keep (aj g.size (by omega))
 refine⟨sl,B5.cell rfl,k,f,t,Bt.ld,?_⟩
 intro aa
 have ap:Keep Z.size Z aa:=Keep.push _ _ (Av _)
 have aO:aa.size=Z.size+1:=AM _
 have aH:Blk aa Z.size (zp1 k f t).toArray:=Blk.new _ _ _
 clear_value aa
 have ar:∀j,j<g.size->j≠l->aa[j]?=g[j]?:=λj hj hl=>by rw[ap.get j (by omega),aj j hl,an j hj]
 have aA:AgM M aa:=λb c e=>by
  obtain⟨T,m,e'⟩:=(ag.keep S.keep) b c e
  have hb:=ag.lt e
  exact⟨T,m,by rw[ar b (by have:=S.keep.size;omega) (by omega)];exact e'⟩
 have aF:ORow (l+1) aa M tTk out sl bs:=S.o.frame (λc hc=>by
  have:=S.o.own c hc
  exact ar c this.2.1 (by omega)) (Fr.le.refl _) (λc hc=>(S.o.own c hc).2.2)
 refine ORow.app z5h (by omega) aA aF (by omega) aH (z5i k f t) (by omega) λs' aI ai am aP aN ak=>⟨s',rfl,?_⟩
 have ah:∀c∈bs,l+1<=c:=λc hc=>(S.o.own c hc).1
 have aB:Blk aI b5 #[slV sl]:=B5.keep (by
  rw[ak b5 (by omega) (λhm=>by have:=ah _ hm;omega)]
  exact ap.get b5 (by omega))
 refine Ji z8v z8w aB (by show 0<1;omega) rfl λae u1 u3 u2=>?_
 have az:∀j,j<g.size->j≠l->j≠b5->j∉bs->ae[j]?=g[j]?:=λj hj hl h5 hm=>by rw[u2 j h5,ak j (by omega) hm,ar j hj hl]
 have au:ae[l]?=some (.loop (rec .busy none)):=by
  rw[u2 l (by omega),ak l (by omega) (λhm=>by have:=ah _ hm;omega),ap.get l (by omega)];exact aJ
 refine⟨au,hK _ s' ai ?_ ?_ ?_⟩
 ·have ay:=lt_of_some au
  have bx:∀j,j<l->j≠b5->(ae.setIfInBounds l (.loop (rec .ready none)))[j]?=g[j]?:=λj hj h5=>by
   rw[Qu (by omega)]
   exact az j (by omega) (by omega) h5 (λhm=>by have:=ah _ hm;omega)
  refine⟨S.keep.trans ⟨?_,λj hj=>bx j (by omega) (by omega)⟩ (Av _),S.c.keep (bx bc (by omega) (by omega)),(bx D (by omega) (by omega)).trans S.d,set_self ay,S.r2.keep (bx b2 (by omega) (by omega)),S.r3.keep (bx b3 (by omega) (by omega)),S.r4.keep (bx b4 (by omega) (by omega)),?_,?_⟩
  ·rw[Bm]
   have:=S.keep.size;omega
  ·exact Blk.keep u1 (Qu (by omega))
  ·refine am.frame (λc hc=>?_) (Fr.le.refl _) (λc hc=>(am.own c hc).2.2)
   have:=(am.own c hc).1
   rw[Qu (by omega),u2 c (by omega)]
 ·rw[Bm];omega
 ·intro j hj h5 hl hm
  rw[Qu hl];exact az j hj hl h5 hm
set_option maxRecDepth 100000 in
set_option maxHeartbeats 1000000 in
theorem TkS.err(A:Apart h b2 b3 b4 b5 bc D l)(S:TkS h M b2 b3 b4 b5 bc D l rec s out sl bs g){k f t e:Int}(he:¬e=0)
  (hK:∀g',Keep h.size h g'->g'[D]?=some (.deferred (some []))->g'[l]?=some (.loop (rec .done (some .ret)))->Blk g' b2 #[.slice none 0 0]->Blk g' b3 #[.int .i64 f]->Blk g' b4 #[.int .i64 e]->K (.bool false) g'):
  zhd Tp 25 (rfA (codeOf Tryz.f60)) (rfB (codeOf Tryz.f60)) rec l K [(11,[],.int .i64 e),(10,[],.agg #[.int .i64 k,.int .i64 f,.int .i64 t]),(9,[],x9),(8,[],x8),(5,[],.pointer (some ⟨b5,0,none⟩)),(4,[],.pointer (some ⟨b4,0,none⟩)),(3,[],.pointer (some ⟨b3,0,none⟩)),(2,[],.pointer (some ⟨b2,0,none⟩)),(0,[],x0)] g:=by
 apply zf3
 intro ab
 have aj:Keep g.size g ab:=Keep.push _ _ (Av _)
 have au:ab.size=g.size+1:=AM _
 have an:Blk ab g.size (zp1 0 0 0).toArray:=Blk.new _ _ _
 clear_value ab
 have ll:=lt_of_some S.rc
 have:=A.lo;have:=A.a3;have:=A.a4;have:=A.a5;have:=A.ac;have:=A.aD;have:=A.al
 refine z8q an λae q1 q2 q3=>?_
 have af:∀j,j<g.size->ae[j]?=g[j]?:=λj hj=>by rw[q1 j (by omega)];exact aj.get j hj
 refine⟨by rw[af l ll];exact S.rc,?_⟩
 intro aa
 have ai:∀j,j≠l->aa[j]?=ae[j]?:=λj hj=>Qu hj
 have am:aa[l]?=some (.loop (rec .busy none)):=set_self (by omega)
 have ar:aa.size=ae.size:=Bm
 clear_value aa
 refine⟨λ_=>?_,λhx=>by simp[he]at hx⟩
 have Bt:Blk aa g.size (zp1 k f t).toArray:=q3.keep (ai g.size (by omega))
 have Z:∀j,j<g.size->j≠l->aa[j]?=g[j]?:=λj hj hl=>(ai j hl).trans (af j hj)
 refine⟨f,?_,?_⟩
 ·rw[Qd,Qd];exact Bt.cell rfl
 refine Ji z8v z8w (S.r2.keep (Z b2 (by omega) (by omega))) (by show 0<1;omega) rfl λap u1 u3 u2=>⟨?_,?_⟩
 ·rw[Qd,Qd];exact u2 g.size (by omega)
 refine Ji qbm qbn (S.r3.keep ((u2 b3 (by omega)).trans (Z b3 (by omega) (by omega)))) (by show 0<1;omega) rfl λay v1 v3 v2=>?_
 refine Ji qbo qbp (S.r4.keep ((v2 b4 (by omega)).trans ((u2 b4 (by omega)).trans (Z b4 (by omega) (by omega))))) (by show 0<1;omega) rfl λak w1 w3 w2=>?_
 have ah:ak[l]?=some (.loop (rec .busy none)):=by rw[w2 l (by omega),v2 l (by omega),u2 l (by omega)];exact am
 refine⟨ah,hK _ ?_ ?_ (set_self (lt_of_some ah)) ?_ ?_ ?_⟩
 ·refine S.keep.trans ⟨by rw[Bm];have:=S.keep.size;omega,λj hj=>?_⟩ (Av _)
  rw[Qu (by omega),w2 j (by omega),v2 j (by omega),u2 j (by omega)]
  exact Z j (by have:=S.keep.size;omega) (by omega)
 ·rw[Qu (by omega),w2 D (by omega),v2 D (by omega),u2 D (by omega),Z D (by omega) (by omega)];exact S.d
 ·exact Blk.keep u1 (by rw[Qu (by omega),w2 b2 (by omega),v2 b2 (by omega)])
 ·exact Blk.keep v1 (by rw[Qu (by omega),w2 b3 (by omega)])
 ·exact Blk.keep w1 (Qu (by omega))
end
end
section
variable {M:Fr} {s:Bs} {g g':Za} {k a e lf:Int} {O:Nat -> Prop} {lo bp b c:Nat} {rs:Sl} {cs:Array Value}
theorem z8x{t:Ty}{x:El t}{xs:List (El t)}{s:Sl}(h:Rd M (.row t) (x::xs) [slV s]):Rd M (.row t) xs [slV ⟨zjr s.a (sz t) 1 s.cap,s.len-1,s.cap-1⟩]:=by
 obtain⟨h1,h2,h3⟩:=rowLen h
 rw[AN]at h1 h2 h3
 refine⟨_,rfl,zjr s.a (sz t) 1 s.cap,s.cap-1,?_,⟨by omega,by omega⟩,?_⟩
 ·show slV _=_
  unfold slV;rw[h1];rfl
 ·by_cases he:xs=[]
  ·exact .inl he
  ·have hp:=BC.2 he
   obtain⟨b,o,cs,e1,e2,e3⟩:∃b o cs,s.a=some ⟨b,o,none⟩/\M b=some cs/\∀i (hi:i<(x::xs).length),Rd M t (x::xs)[i] (cut cs (o+i*sz t) (sz t)):=by
    obtain⟨w,e,a,c,q,hn,hx⟩:=h
    simp only[Ca,and_true]at e
    subst e
    simp only[slV,A4]at q
    rcases hx with hx|⟨b,o,cs,e1,e2,e3⟩
    ·cases hx
    ·exact⟨b,o,cs,by rw[q.1,e1],e2,e3⟩
   refine .inr ⟨b,o+sz t,cs,?_,e2,λi hi=>?_⟩
   ·unfold zjr
    rw[if_neg (by omega),e1,D6,Qd,DK]
   ·have:=e3 (i+1) (by simp;omega)
    rw[List.getElem_cons_succ]at this
    rw[show o+sz t+i*sz t=o+(i+1)*sz t by rw[C8];omega]
    exact this
theorem z9p(ag:AgM M g){xs:List Tk}{s:Sl}(H:Rd M (.row tTk) xs [slV s]){k:Nat}(hk:k<xs.length):∃b o,s.a=some ⟨b,o,none⟩/\Ze g ⟨b,o+k*3,none⟩=some (.int .i64 xs[k].1)/\Ze g ⟨b,o+k*3+1,none⟩=some (.int .i64 xs[k].2.1)/\Ze g ⟨b,o+k*3+2,none⟩=some (.int .i64 xs[k].2.2):=by
 obtain⟨b,o,cs,e1,e2,e3⟩:=Go.X.rowAt H hk
 refine⟨b,o,e1,?_⟩
 obtain⟨c1,c2,e,h1,c3,c4,h2,h3,h4⟩:=e3
 have h1:c1=[.int .i64 xs[k].1]:=h1
 have h3:c3=[.int .i64 xs[k].2.1]:=h3
 have h4:c4=[.int .i64 xs[k].2.2]:=h4
 subst h1 h3 h4 h2
 have e:cut cs (o+k*3) 3=zp1 xs[k].1 xs[k].2.1 xs[k].2.2:=e
 have L:=z2k (vs:=zp1 xs[k].1 xs[k].2.1 xs[k].2.2) (o:=o+k*3) (i:=0) ag e2 (by rw[CM];exact e)
 obtain⟨l1,l2,l3,_⟩:=L
 rw[Qd]at l1 l2 l3
 exact⟨l1,l2,l3⟩
def ppC(s:Bs)(rs:Sl)(lf last:Int)(sl:Sl)(a e:Int):List Value:=[.string (bl s),slV rs,.int .i64 lf,.int .i64 last,slV sl,.int .i64 a,.int .i64 e]
def ppO(bp:Nat)(na:NA)(sl:Sl)(b c:Nat):Prop:=c=bp\/nsO na sl b c
structure PW (lo:Nat) (g:Za) (M:Fr) (bp:Nat) (s:Bs) (rest:List Tk) (last a e:Int) (rs:Sl) (lf:Int) (na:NA) (sl:Sl) (b:Nat) (cs:Array Value):Prop where
 blk:Blk g bp (ppC s rs lf last sl a e).toArray
 rd:Rd M (.row tTk) rest [slV rs]
 ns:NS lo g M na sl b cs
 ag:AgM M g
 bl:lo<=bp/\M bp=none
 nb:¬nsO na sl b bp
def PaS(lo:Nat)(g:Za)(M:Fr)(bp:Nat)(s:Bs)(st:PSt)(a e:Int)(O:Nat->Prop):Prop:=
 ∃(rs:Sl) (lf:Int) (na:NA) (sl:Sl) (b:Nat) (cs:Array Value),PW lo g M bp s st.rest st.last a e rs lf na sl b cs/\na.map (·.1)=st.nodes/\O=ppO bp na sl b
structure Stp (g:Za) (O:Nat->Prop) (g':Za) (O':Nat->Prop):Prop where
 le:g.size<=g'.size
 sub:∀c,O' c->O c\/g.size<=c
 fr:∀j,j<g.size->¬O j->g'[j]?=g[j]?
theorem Stp.refl(g:Za)(O:Nat->Prop):Stp g O g O:=⟨Av _,λc h=>.inl h,λj _ _=>rfl⟩
theorem Stp.trans{g g' Z:Za}{O O' aa:Nat->Prop}(a:Stp g O g' O')(b:Stp g' O' Z aa):Stp g O Z aa:=by
 have:=a.le;have:=b.le
 refine⟨by omega,λc h=>?_,λj hj hn=>?_⟩
 ·rcases b.sub c h with h|h
  ·exact a.sub c h
  ·exact .inr (by omega)
 ·rw[b.fr j (by omega) (λh=>?_)]
  ·exact a.fr j hj hn
  ·rcases a.sub j h with h|h
   ·exact hn h
   ·omega
theorem Stp.keep(k:Keep g.size g g'):Stp g O g' O:=⟨k.size,λc h=>.inl h,λj hj _=>k.get j hj⟩
theorem PW.own{rest:List Tk}{last a e:Int}{na:NA}{sl:Sl}(H:PW lo g M bp s rest last a e rs lf na sl b cs)(h:ppO bp na sl b c):lo<=c/\c<g.size/\M c=none:=by
 rcases h with rfl|h
 ·exact⟨H.bl.1,H.blk.lt,H.bl.2⟩
 ·exact H.ns.own h
theorem PaS.own{st:PSt}(H:PaS lo g M bp s st a e O)(h:O c):lo<=c/\c<g.size/\M c=none:=by
 obtain⟨rs,lf,na,sl,b,cs,W,_,rfl⟩:=H
 exact W.own h
theorem zp7(ag:AgM M g)(f:∀j,j<g.size->M j≠none->g'[j]?=g[j]?):AgM M g':=λb c e=>by
 obtain⟨T,m,e'⟩:=ag b c e
 exact⟨T,m,by rw[f b (ag.lt e) (by rw[e];simp)];exact e'⟩
theorem PaS.frame{st:PSt}(H:PaS lo g M bp s st a e O)(hz:g.size<=g'.size)(f:∀c,c<g.size->(O c\/M c≠none)->g'[c]?=g[c]?):PaS lo g' M bp s st a e O:=by
 obtain⟨rs,lf,na,sl,b,cs,W,h1,rfl⟩:=H
 refine⟨rs,lf,na,sl,b,cs,⟨W.blk.keep (f bp W.blk.lt (.inl (.inl rfl))),W.rd,W.ns.frame hz λc hc=>f c (W.ns.own hc).2.1 (.inl (.inr hc)),zp7 W.ag λj hj hm=>f j hj (.inr hm),W.bl,W.nb⟩,h1,rfl⟩
theorem PaS.keep{st:PSt}(H:PaS lo g M bp s st a e O)(k:Keep g.size g g'):PaS lo g' M bp s st a e O:=H.frame k.size λc hc _=>k.get c hc
theorem PaS.ag{st:PSt}(H:PaS lo g M bp s st a e O):AgM M g:=by
 obtain⟨rs,lf,na,sl,b,cs,W,_,_⟩:=H;exact W.ag
theorem PW.put{rest rest':List Tk}{last last' a a' e e':Int}{rs rs':Sl}{lf lf':Int}{na:NA}{sl:Sl}(H:PW lo g M bp s rest last a e rs lf na sl b cs)(B:Blk g' bp (ppC s rs' lf' last' sl a' e').toArray)(r:Rd M (.row tTk) rest' [slV rs'])(hz:g'.size=g.size)(f:∀j,j≠bp->g'[j]?=g[j]?):PW lo g' M bp s rest' last' a' e' rs' lf' na sl b cs:=
 ⟨B,r,H.ns.frame (by omega) λc hc=>f c λh=>H.nb (h ▸ hc),zp7 H.ag λj _ hm=>f j λh=>hm (h ▸ H.bl.2),H.bl,H.nb⟩
section
variable {lo : Nat} {g : Za} {M : Fr} {bp : Nat} {s : Bs} {st : PSt} {a e : Int} {O : Nat -> Prop} {K : Value -> Za -> Prop}
theorem znn(H:PaS lo g M bp s st a e O)(hK:K (.int .i64 st.kind) g):XC Tp 115 #[.pointer (some ⟨bp,0,none⟩)] g K:=by
 obtain⟨rs,lf,na,sl,b,cs,W,h1,rfl⟩:=H
 apply zec
 have hl:=(rowLen W.rd).1
 refine⟨_,rfl,rs,by rw[Qd];exact W.blk.cell rfl,λhx=>?_,λhx=>⟨_,rfl,rs,by rw[Qd];exact W.blk.cell rfl,?_⟩⟩
 ·have hx:rs.len=0:=by simpa using hx
  have:st.rest=[]:=Bj.1 (by omega)
  unfold PSt.kind at hK
  rw[this]at hK;exact hK
 ·have hx:rs.len≠0:=by simpa using hx
  cases hr:st.rest with
  |nil=>rw[hr]at hl;exact absurd hl hx
  |cons t r=>
   have rd:=W.rd
   rw[hr]at rd
   obtain⟨tb,o,e1,e2,e3,e4⟩:=z9p W.ag rd (k:=0) (by simp)
   refine⟨_,⟨e1,by omega,by omega⟩,t.1,?_,?_⟩
   ·rw[Qd,Qd];exact e2
   ·unfold PSt.kind at hK;rw[hr]at hK;exact hK
theorem z0l(H:PaS lo g M bp s st a e O)(hK:K (.int .i64 (st.here s.length)) g):XC Tp 121 #[.pointer (some ⟨bp,0,none⟩)] g K:=by
 obtain⟨rs,lf,na,sl,b,cs,W,h1,rfl⟩:=H
 apply zeg
 have hl:=(rowLen W.rd).1
 refine⟨_,rfl,rs,by rw[Qd];exact W.blk.cell rfl,λhx=>?_,λhx=>⟨_,rfl,rs,by rw[Qd];exact W.blk.cell rfl,?_⟩⟩
 ·have hx:rs.len=0:=by simpa using hx
  have:st.rest=[]:=Bj.1 (by omega)
  unfold PSt.here at hK
  rw[this]at hK
  refine⟨_,rfl,bl s,by rw[Qd];exact W.blk.cell rfl,?_⟩
  rw[Zf];exact hK
 ·have hx:rs.len≠0:=by simpa using hx
  cases hr:st.rest with
  |nil=>rw[hr]at hl;exact absurd hl hx
  |cons t r=>
   have rd:=W.rd
   rw[hr]at rd
   obtain⟨tb,o,e1,e2,e3,e4⟩:=z9p W.ag rd (k:=0) (by simp)
   refine⟨_,⟨e1,by omega,by omega⟩,t.2.1,?_,?_⟩
   ·rw[Qd,Qd,Qd];exact e3
   ·unfold PSt.here at hK;rw[hr]at hK;exact hK
theorem z5j:Z6 Tp 3=true:=by kernel_rfl
theorem z5k:Qh Tp 3=1:=by kernel_rfl
theorem qdz:Z6 Tp 27=true:=by kernel_rfl
theorem qd0:Qh Tp 27=1:=by kernel_rfl
theorem qbq:Z6 Tp 58=true:=by kernel_rfl
theorem qbr:Qh Tp 58=2:=by kernel_rfl
theorem qbs:Z6 Tp 83=true:=by kernel_rfl
theorem qbt:Qh Tp 83=1:=by kernel_rfl
theorem Stp.same(hz:g'.size=g.size)(hb:O bp)(f:∀j,j≠bp->g'[j]?=g[j]?):Stp g O g' O:=⟨by omega,λc h=>.inl h,λj hj hn=>f j λe=>hn (e ▸ hb)⟩
theorem zbl(H:PaS lo g M bp s st a e O){x:Int}(hK:∀g',PaS lo g' M bp s st (st.here s.length) x O->Stp g O g' O->K (.bool false) g'):XC Tp 62 #[.pointer (some ⟨bp,0,none⟩),.int .i64 x] g K:=by
 apply zeb
 refine z0l H ⟨_,rfl,_,rfl,?_⟩
 obtain⟨rs,lf,na,sl,b,cs,W,h1,rfl⟩:=H
 rw[Qd]
 refine Ji z5j z5k W.blk (by show 5<7;omega) rfl λg1 u1 u2 u3=>⟨_,rfl,?_⟩
 rw[Qd]
 refine Ji qdz qd0 u1 (by show 6<7;omega) rfl λg2 v1 v2 v3=>?_
 have f:∀j,j≠bp->g2[j]?=g[j]?:=λj hj=>(v3 j hj).trans (u3 j hj)
 exact hK g2 ⟨rs,lf,na,sl,b,cs,W.put (rest':=st.rest) (last':=st.last) (a':=st.here s.length) (e':=x) (rs':=rs) (lf':=lf) v1 W.rd (by omega) f,h1,rfl⟩ (Stp.same (by omega) (.inl rfl) f)
theorem zsn(H:PaS lo g M bp s st a e O)(hr:st.rest≠[])(hK:∀g',PaS lo g' M bp s st.skip a e O->Stp g O g' O->K (.tuple #[]) g'):XC Tp 116 #[.pointer (some ⟨bp,0,none⟩)] g K:=by
 apply zed
 obtain⟨rs,lf,na,sl,b,cs,W,h1,rfl⟩:=H
 obtain⟨hl,_,hc⟩:=rowLen W.rd
 obtain⟨t,r,er⟩:=BK hr
 have rd:=W.rd
 rw[er]at rd hl hc
 rw[AN]at hl hc
 obtain⟨tb,o,e1,e2,e3,e4⟩:=z9p W.ag rd (k:=0) (by simp)
 refine⟨_,rfl,rs,by rw[Qd];exact W.blk.cell rfl,_,⟨e1,by omega,by omega⟩,t.2.1,t.2.2,?_,_,rfl,rs,by rw[Qd];exact W.blk.cell rfl,.inl rfl,⟨by omega,by omega,by omega,by omega⟩,_,rfl,?_⟩
 ·rw[Qd,Qd]
  exact⟨by rw[Qd];exact e3,by rw[Qd];exact e4,trivial⟩
 rw[Qd]
 refine zhc (vs:=[.int .i64 t.2.1,.int .i64 t.2.2]) qbq W.blk rfl qbr (by show 2+2<=7;omega) (λu hu=>?_) λg1 u1 u2 u3=>⟨_,rfl,?_⟩
 ·simp at hu;rcases hu with rfl|rfl <;> rfl
 rw[Qd]
 refine Ji qbs qbt u1 (by rw[zm2 (by show 2+2<=7;omega)];show 1<7;omega) rfl λg2 v1 v2 v3=>?_
 have f:∀j,j≠bp->g2[j]?=g[j]?:=λj hj=>(v3 j hj).trans (u3 j hj)
 have Z:=z8x rd
 rw[AK,AK]at v1
 have v1:Blk g2 bp (ppC s ⟨zjr rs.a (sz tTk) 1 rs.cap,rs.len-1,rs.cap-1⟩ t.2.1 t.2.2 sl a e).toArray:=v1
 have es:st.skip=⟨r,t.2.2,st.nodes⟩:=by unfold PSt.skip;rw[er]
 rw[es]at hK
 exact hK g2 ⟨_,t.2.1,na,sl,b,cs,W.put v1 Z (by omega) f,h1,rfl⟩ (Stp.same (by omega) (.inl rfl) f)
theorem PSt.ne_of_kind{st:PSt}(h:st.kind=k)(hk:k≠0):st.rest≠[]:=λe=>by
 unfold PSt.kind at h;rw[e]at h;exact hk h.symm
theorem zh1(H:PaS lo g M bp s st a e O)(hk:k≠0)(hY:st.kind=k->∀g',PaS lo g' M bp s st.skip a e O->Stp g O g' O->K (.bool true) g')(hN:st.kind≠k->K (.bool false) g):XC Tp 199 #[.pointer (some ⟨bp,0,none⟩),.int .i64 k] g K:=by
 apply zda
 refine znn H ⟨_,rfl,λhx=>hN (by simpa using hx),λhx=>?_⟩
 have hx:st.kind=k:=by simpa using hx
 exact zsn H (PSt.ne_of_kind hx hk) λg' p q=>⟨rfl,hY hx g' p q⟩
end
end
section
variable {M:Fr} {g:Za} {s:Sl} {k b f:Nat} {t:Bs}
theorem qd1(ag:AgM M g){xs:List Int}(H:Rd M (.row (.int .i64)) xs [slV s])(hk:k<xs.length):∃b o,s.a=some ⟨b,o,none⟩/\Ze g ⟨b,o+k*1,none⟩=some (.int .i64 xs[k]):=by
 obtain⟨b,o,cs,e1,e2,e3⟩:=Go.X.rowAt H hk
 exact⟨b,o,e1,zyr ag e2 e3⟩
theorem qe8(ag:AgM M g){xs:List Nd}(H:Rd M (.row tNd) xs [slV s])(hk:k<xs.length):∃(b o:Nat) (ks ps:Sl),s.a=some ⟨b,o,none⟩/\Zb g ⟨b,o+k*7,none⟩ 0 [.int .i64 xs[k].1,.int .i64 xs[k].2.1.1,.int .i64 xs[k].2.1.2,.int .i64 xs[k].2.2.1.1,.int .i64 xs[k].2.2.1.2,slV ks,slV ps]/\Rd M (.row (.int .i64)) xs[k].2.2.2.1 [slV ks]:=by
 obtain⟨b,o,cs,e1,e2,e3⟩:=Go.X.rowAt H hk
 obtain⟨c1,r1,q1,a1,c2,r2,q2,⟨d1,d2,q3,a2,a3⟩,c3,r3,q4,⟨d3,d4,q5,a4,a5⟩,c4,c5,q6,a6,a7⟩:=e3
 have a1:c1=[.int .i64 xs[k].1]:=a1
 have a2:d1=[.int .i64 xs[k].2.1.1]:=a2
 have a3:d2=[.int .i64 xs[k].2.1.2]:=a3
 have a4:d3=[.int .i64 xs[k].2.2.1.1]:=a4
 have a5:d4=[.int .i64 xs[k].2.2.1.2]:=a5
 obtain⟨ks,rfl⟩:∃ks:Sl,c4=[slV ks]:=by
  obtain⟨w,e,a,c,q,_⟩:=a6
  exact⟨⟨a,_,c⟩,by rw[e,q];rfl⟩
 obtain⟨ps,rfl⟩:∃ps:Sl,c5=[slV ps]:=by
  obtain⟨w,e,a,c,q,_⟩:=a7
  exact⟨⟨a,_,c⟩,by rw[e,q];rfl⟩
 subst a1 a2 a3 a4 a5 q3 q5 q6 q4 q2
 refine⟨b,o,ks,ps,e1,?_,a6⟩
 exact z2k (o:=o+k*7) (i:=0) ag e2 (by rw[CM];exact q1)
theorem qe9:Z6 Tp 62=true:=by kernel_rfl
theorem qfa:Qh Tp 62=7:=by kernel_rfl
theorem qd2:Z6 Tp 26=true:=by kernel_rfl
theorem qd3:Qh Tp 26=4:=by kernel_rfl
theorem zbm{x y z w:Value}(B:Blk g b #[x,y,z,w]){k:Int}{s:Bt}{sk si:Sl}{K:Za->Prop}(hK:∀g',(∀j,j≠b->g'[j]?=g[j]?)->g'.size=g.size->Blk g' b #[.int .i64 k,.string s,slV sk,slV si]->K g'):
  XRunU Tp (AI 26 (.pointer (some ⟨b,0,none⟩)) (.agg #[.int .i64 k,.string s,slV sk,slV si])) g K:=by
 refine zhc (vs:=[.int .i64 k,.string s,slV sk,slV si]) qd2 B rfl qd3 (Av _) (λu hu=>?_) λg' q1 q2 q3=>hK g' q3 q2 q1
 simp at hu;rcases hu with rfl|rfl|rfl|rfl <;> rfl
def zbw(t:Bs)(nodes:List Nd)(f:Nat)(x:Nd)(n:Nat):Tr:=.mk x.1 (bl (zbu x.1 (Q6 t x.2.1))) (if x.1=6 then(x.2.2.2.1.take n).map λc=>bl (zjj t nodes c)else []) ((x.2.2.2.1.take n).map λc=>Je t nodes f c.toNat)
theorem z0m{nodes:List Nd}{x:Nd}(hx:nodes[k]?=some x):zbw t nodes f x x.2.2.2.1.length=Je t nodes (f+1) k:=by
 unfold zbw;rw[Je,hx,BL]
theorem zwq{nodes:List Nd}{x:Nd}{n:Nat}(hn:n<x.2.2.2.1.length):zbw t nodes f x (n+1)=.mk x.1 (bl (zbu x.1 (Q6 t x.2.1))) (if x.1=6 then(zbw t nodes f x n).keys++[bl (zjj t nodes x.2.2.2.1[n])]else(zbw t nodes f x n).keys) ((zbw t nodes f x n).items++[Je t nodes f x.2.2.2.1[n].toNat]):=by
 unfold zbw
 rw[Ba hn,CG,CG]
 by_cases h6:x.1=6
 ·simp only[h6,if_true];rfl
 ·simp only[h6,if_false];rfl
section
variable {t : Bs} {nodes : List Nd} {lvs : List Nat} {gl : Fr}
theorem z8y{u v:Value}(B:Blk g b #[u,v]):Zb g ⟨b,0,none⟩ 0 [u,v]:=B.ld (cs:=[u,v])
def qfb(F:FuncId)(t:Bs)(nodes:List Nd)(gl:Fr)(k:Nat)(Z:List Value)(v:Tr):Prop:=
 ∀(h:Za) (M:Fr) (ds:Sl),Fr.le gl M->AgM M h->Rd M (.row tNd) nodes [slV ds]->∀(K:Value->Za->Prop),(∀(h':Za) (bs:List Nat) (sk si:Sl),Keep h.size h h'->OT h' v bs (Jr v sk si)->(∀b∈bs,h.size<=b)->K (.agg #[.int .i64 v.kind,.string v.text,slV sk,slV si]) h') ->
  XC Tp F ([Value.agg #[.string (bl t),slV ds],Ep .i64 (k:Int)]++Z).toArray h K
set_option maxRecDepth 100000 in
set_option maxHeartbeats 4000000 in
theorem z0n(hg:GL gl)(ht:t.length<=65536)(G:GoodN lvs nodes)(bO:∀x∈nodes,x.2.2.2.1.length<=200000):∀(f k l:Nat) (L:Int),lvs[k]?=some l->33-l<=f->1<=L->L<=(l:Int)->qfb 59 t nodes gl k [.int .i64 L] (Je t nodes f k)
 |0,k,l,L,hl,hf,_,_=>by have:=G.lv k l hl;omega
 |f+1,k,l,L,hl,hf,hL1,hL2=>by
  intro h M ds hM ag rd K hK
  have bi:k<nodes.length:=by have:=(AQ.1 hl).1;have:=G.len;omega
  have hx:nodes[k]?=some nodes[k]:=AE bi
  have cF:=G.lv k l hl
  have aI:=G.kid k l nodes[k] hx hl
  have b9:=bO _ (BG bi)
  generalize ck:nodes[k]=x at hx aI b9
  have cO:=(rowLen rd).1
  show XC Tp _ #[.agg #[.string (bl t),slV ds],.int .i64 (k:Int),.int .i64 L] h K
  apply zpi
  intro h1 h2
  have k1:Keep h.size h h1:=Keep.push _ _ (Av _)
  have k2:Keep h1.size h1 h2:=Keep.push _ _ (Av _)
  have z1:h1.size=h.size+1:=AM _
  have z2:h2.size=h1.size+1:=AM _
  have D1:Blk h1 h.size #[.string (bl t),slV ds]:=Blk.new _ _ _
  have R2:Blk h2 h1.size #[.int .i64 0,.string ⟨#[]⟩,.slice none 0 0,.slice none 0 0]:=Blk.new _ _ _
  clear_value h1 h2
  have bJ:Keep h.size h h2:=k1.trans (c:=h2) (m:=h.size) ⟨k2.size,λj hj=>k2.get j (by omega)⟩ (Av _)
  have D2:=D1.keep (k2.get h.size (by omega))
  have cB:=ag.keep bJ
  obtain⟨nb,no,ks,ps,e1,e2,e3⟩:=qe8 cB rd bi
  rw[ck]at e2 e3
  have cE:=(rowLen e3).1
  refine⟨ds,by rw[Qd];exact D2.cell rfl,_,⟨e1,by omega,by omega⟩,x.1,x.2.1.1,x.2.1.2,x.2.2.1.1,x.2.2.1.2,ks,ps,?_,?_⟩
  ·rw[Qd,AK];exact e2
  intro aU
  have cy:Keep h2.size h2 aU:=Keep.push _ _ (Av _)
  have cG:aU.size=h2.size+1:=AM _
  have cj:Blk aU h2.size #[.int .i64 0,.int .i64 0,.int .i64 0,.int .i64 0,.int .i64 0,.slice none 0 0,.slice none 0 0]:=Blk.new _ _ _
  clear_value aU
  refine zhc (vs:=ndC (x,⟨ks,[],ps,[]⟩)) qe9 cj rfl qfa (Av _) (z0c _) λZ ak cZ cC=>?_
  have ak:Blk Z h2.size #[.int .i64 x.1,.int .i64 x.2.1.1,.int .i64 x.2.1.2,.int .i64 x.2.2.1.1,.int .i64 x.2.2.1.2,slV ks,slV ps]:=ak
  have aB:Keep h2.size h2 Z:=⟨by omega,λj hj=>(cC j (by omega)).trans (cy.get j hj)⟩
  have aS:Keep h.size h Z:=bJ.trans (c:=Z) (m:=h.size) ⟨aB.size,λj hj=>aB.get j (by omega)⟩ (Av _)
  have bm:=D2.keep (aB.get h.size (by omega))
  have co:=R2.keep (aB.get h1.size (by omega))
  intro bz bE
  have bQ:∀(vb:Nat) (aP:Za),Z.size<=vb->Keep Z.size Z aP->Blk aP vb #[.int .i64 x.1,.string (bl (zbu x.1 (Q6 t x.2.1))),.slice none 0 0,.slice none 0 0]->bz ⟨vb,0,none⟩ aP:=by
   intro vb aP b8 br bT
   refine bE ⟨vb,0,none⟩ aP ?_
   have cd:=ak.keep (br.get h2.size (by omega))
   have cb:=bT.lt
   refine⟨ks,by rw[Qd];exact cd.cell rfl,λi ae=>∃(n:Nat) (sk si:Sl),i=(n:Int)/\n<=x.2.2.2.1.length/\Own Z.size ae.size ae vb (zbw t nodes f x n) sk si/\Keep Z.size Z ae,λi _=>x.2.2.2.1.length-i.toNat,⟨0,⟨none,0,0⟩,⟨none,0,0⟩,rfl,by omega,?_,br⟩,?_⟩
   ·have e0:zbw t nodes f x 0=.mk x.1 (bl (zbu x.1 (Q6 t x.2.1))) [] []:=by unfold zbw;simp
    rw[e0]
    exact Own.new bT b8 (Av _)
   rintro i ae ⟨n,sk,si,rfl,hn,ap,ai⟩
   have bF:=ak.keep (ai.get h2.size (by omega))
   have bH:=bm.keep (ai.get h.size (by omega))
   have ca:=co.keep (ai.get h1.size (by omega))
   have a8:Keep h.size h ae:=aS.trans (c:=ae) (m:=h.size) ⟨ai.size,λj hj=>ai.get j (by omega)⟩ (Av _)
   have a7:=ag.keep a8
   have cM:=ai.size
   refine⟨λaG=>?_,λcc=>?_⟩
   ·have aG:n<x.2.2.2.1.length:=by have:=of_decide_eq_true aG;omega
    obtain⟨j,ej,cV,bj⟩:=aI _ (BG aG)
    have hj:j<nodes.length:=by have:=(AQ.1 bj).1;have:=G.len;omega
    have db:=G.lv j (l+1) bj
    obtain⟨ib,io,f1,f2⟩:=qd1 a7 e3 aG
    rw[ej]at f2
    refine⟨ks,by rw[Qd];exact bF.cell rfl,_,⟨f1,by omega,by omega⟩,(j:Int),by rw[Qd,AK];exact f2,ds,λ_=>by rw[Qd];exact bH.cell rfl,?_⟩
    have hc:(bif (bif (decide ((j:Int)<0))then true else(decide ((j:Int)>=((ds.len:Nat):Int))))then true else(decide (L>32)))=false:=by
     rw[decide_eq_false (by omega),cond_false,decide_eq_false (by omega),cond_false,decide_eq_false (by omega)]
    rw[hc]
    refine⟨λh=>(by cases h),λ_=>?_⟩
    intro cm bU
    have bB:nodes[j]?=some nodes[j]:=AE hj
    have bL:zjj t nodes x.2.2.2.1[n]=zwy t nodes[j]:=by unfold zjj;rw[ej,AK,bB]
    have aH:=zwq (t:=t) (nodes:=nodes) (f:=f) aG
    rw[bL,ej,AK]at aH
    have body:∀(aa:Za) (ks':List Bt) (sk':Sl),ks'=(if x.1=6 then(zbw t nodes f x n).keys++[bl (zwy t nodes[j])]else(zbw t nodes f x n).keys)->Own Z.size aa.size aa vb (.mk x.1 (bl (zbu x.1 (Q6 t x.2.1))) ks' (zbw t nodes f x n).items) sk' si->Keep Z.size Z aa->cm aa:=by
     intro aa ks' sk' cA be aN
     refine bU aa ?_
     have cJ:=aN.size
     have bZ:=bm.keep (aN.get h.size (by omega))
     have bY:Keep h.size h aa:=aS.trans (c:=aa) (m:=h.size) ⟨aN.size,λj hj=>aN.get j (by omega)⟩ (Av _)
     have aO:=be.box.lt
     refine⟨si,by rw[Qd];exact be.box.cell rfl,bl t,ds,z8y bZ,?_⟩
     rw[w64 (by omega)]
     refine z0n hg ht G bO f j (l+1) (L+1) bj (by omega) (by omega) (by omega) aa M ds hM (ag.keep bY) rd _ λaZ bw wk wi a6 ow bg=>⟨_,_,_,_,rfl,?_⟩
     have da:=a6.size
     refine⟨by rw[Qd];exact a6.get vb aO,?_⟩
     intro am
     have aT:Keep aZ.size aZ am:=Keep.push _ _ (Av _)
     have cH:am.size=aZ.size+1:=AM _
     have cq:Blk am aZ.size (Jr (Je t nodes f j) wk wi).toArray:=Blk.new _ _ _
     clear_value am
     refine⟨by rw[Qd];exact(aT.get vb (by omega)).trans (a6.get vb aO),?_⟩
     have au:Keep aa.size aa am:=a6.trans (c:=am) (m:=aa.size) ⟨aT.size,λj hj=>aT.get j (by omega)⟩ (Av _)
     have bI:Keep Z.size Z am:=aN.trans (c:=am) (m:=Z.size) ⟨au.size,λj hj=>au.get j (by omega)⟩ (Av _)
     have bG:(zbw t nodes f x n).items.length<=1000000:=by unfold zbw;simp;omega
     rw[Qd]
     refine Own.item (be.keep au) (by omega) bG cq (ow.frame λc hc=>aT.get c (ow.lt c hc)) (λhm=>by have:=ow.lt _ hm;omega) (λc hc=>⟨by have:=bg c hc;omega,by have:=bg c hc;omega,bg c hc⟩) λg' s2 O' k' z'=>⟨⟨n+1,sk',s2,by rw[w64 (by omega)];omega,by omega,?_,bI.trans (c:=g') (m:=Z.size) k' (Av _)⟩,?_⟩
     ·rw[aH,<-cA];exact O'
     ·show x.2.2.2.1.length-(Ar .i64 ((n:Int)+1)).toNat<x.2.2.2.1.length-(n:Int).toNat
      rw[w64 (by omega)];omega
    refine⟨x.1,by rw[Qd];exact bF.cell rfl,λh6=>?_,λh6=>?_⟩
    ·have h6:x.1=6:=by simpa using h6
     have aJ:=ap.box.lt
     refine⟨sk,by rw[Qd];exact ap.box.cell rfl,bl t,ds,z8y bH,?_⟩
     refine(z0d hg ht (nodes:=nodes) (k:=j) bB (R:=λr=>r=bl (zwy t nodes[j])) rfl).go hM a7 (Qw (a:=Arg.mk zul _) ⟨[.string (bl t),slV ds],rfl,[.string (bl t)],[slV ds],rfl,rfl,rd⟩ (Qw (a:=Arg.mk (.int .i64) _) (zbp _ _) Yk)) λv aV M' r Lt hv hr=>⟨r,qcl hv,?_⟩
     subst hr
     have aY:=Lt.keep
     have c8:=aY.size
     refine⟨by rw[Qd];exact aY.get vb aJ,?_⟩
     intro an
     have bh:Keep aV.size aV an:=Keep.push _ _ (Av _)
     have cQ:an.size=aV.size+1:=AM _
     have cg:Blk an aV.size #[.string (bl (zwy t nodes[j]))]:=Blk.new _ _ _
     clear_value an
     refine⟨by rw[Qd];exact(bh.get vb (by omega)).trans (aY.get vb aJ),?_⟩
     have ay:Keep ae.size ae an:=aY.trans (c:=an) (m:=ae.size) ⟨bh.size,λj hj=>bh.get j (by omega)⟩ (Av _)
     have bC:Keep Z.size Z an:=ai.trans (c:=an) (m:=Z.size) ⟨ay.size,λj hj=>ay.get j (by omega)⟩ (Av _)
     have bM:(zbw t nodes f x n).keys.length<=1048576:=by unfold zbw;simp[h6];omega
     rw[Qd]
     refine Own.key (ap.keep ay) (by omega) bM cg λg' s2 O' k' z'=>body g' _ s2 (by rw[if_pos h6]) O' (bC.trans (c:=g') (m:=Z.size) k' (Av _))
    ·have h6:¬x.1=6:=by simpa using h6
     exact body ae (zbw t nodes f x n).keys sk (by rw[if_neg h6]) ap ai
   ·have cz:n=x.2.2.2.1.length:=by have:=of_decide_eq_false cc;omega
    subst cz
    have eN:=z0m (t:=t) (f:=f) hx
    rw[eN]at ap
    refine⟨_,_,sk,si,ap.box.ld (cs:=Jr _ sk si),?_⟩
    refine zbm ca λg2 f2 z2 B2=>⟨_,_,sk,si,B2.ld (cs:=[_,_,slV sk,slV si]),?_⟩
    obtain⟨bs,ot,bS⟩:=ap.ot
    refine hK g2 bs sk si (a8.trans (c:=g2) (m:=h.size) ⟨by omega,λj hj=>f2 j (by omega)⟩ (Av _)) (ot.frame λc hc=>f2 c (by have:=(bS c hc).1;omega)) λc hc=>by have:=(bS c hc).1;omega
  have cT:=zlm t x.2.1
  have bq:∀{g:Za} {Q:Value->Za->Prop},AgM M g->(∀g',Keep g.size g g'->Q (.string (bl (Q6 t x.2.1))) g')->XC Tp 31 #[.agg #[.string (bl t),slV ds],.agg #[.int .i64 x.2.1.1,.int .i64 x.2.1.2]] g Q:=λ {g Q} agg hQ=>by
   refine(zum (gl:=gl) (t:=t) (nodes:=nodes) (p:=x.2.1) (R:=λr=>r=bl (Q6 t x.2.1)) rfl).go hM agg (Qw (a:=Arg.mk zul _) ⟨[.string (bl t),slV ds],rfl,[.string (bl t)],[slV ds],rfl,rfl,rd⟩ (Qw (a:=Arg.mk tSp _) ⟨[.int .i64 x.2.1.1,.int .i64 x.2.1.2],rfl,_,_,rfl,rfl,rfl⟩ Yk)) λv g' M' r L hv hr=>?_
   subst hr
   rw[qcl hv]
   exact hQ g' L.keep
  have bn:∀{g:Za} {Q:Value->Za->Prop},AgM M g->(∀g',Keep g.size g g'->Q (.string (bl (zbu x.1 (Q6 t x.2.1)))) g')->XC Tp 111 #[.int .i64 x.1,.string (bl (Q6 t x.2.1))] g Q:=λ {g Q} agg hQ=>by
   refine(z3i hg (k:=x.1) (t:=Q6 t x.2.1) (by omega) (R:=λr=>r=bl (zbu x.1 (Q6 t x.2.1))) rfl).go hM agg (Qw (a:=Arg.mk (.int .i64) _) (zbp _ _) (Qw (a:=Arg.mk .str _) (rdStr _) Yk)) λv g' M' r L hv hr=>?_
   subst hr
   rw[qcl hv]
   exact hQ g' L.keep
  have aj:=ag.keep aS
  have af:∀(hh hA:Za),Keep Z.size Z hh->Keep hh.size hh hA->Blk hA hh.size #[.int .i64 0,.string ⟨#[]⟩,.slice none 0 0,.slice none 0 0]->XRunU Tp (AI 26 (.pointer (some ⟨hh.size,0,none⟩)) (.agg #[.int .i64 x.1,.string (bl (zbu x.1 (Q6 t x.2.1))),.slice none 0 0,.slice none 0 0])) hA (λg=>bz ⟨hh.size,0,none⟩ g):=λhh hA kh kA BA=>
   zbm (sk:=⟨none,0,0⟩) (si:=⟨none,0,0⟩) BA λg2 f2 z2 B2=>bQ hh.size g2 kh.size (kh.trans (c:=g2) (m:=Z.size) ⟨by have:=kh.size;have:=kA.size;omega,λj hj=>by have:=kh.size;rw[f2 j (by omega)];exact kA.get j (by omega)⟩ (Av _)) B2
  have hX:∀{g:Za},Keep Z.size Z g->g[h2.size]?=Z[h2.size]?:=λk=>k.get h2.size (by omega)
  refine⟨x.1,by rw[Qd];exact ak.cell rfl,x.1,by rw[Qd];exact ak.cell rfl,bl t,ds,z8y bm,x.2.1.1,x.2.1.2,?_,bq aj λaM ab=>⟨_,rfl,by rw[Qd];exact hX ab,by rw[Qd];exact hX ab,bn (aj.keep ab) λah aC=>⟨_,rfl,?_,?_,?_⟩,?_⟩,?_⟩
  ·rw[Qd];exact⟨by rw[Qd];exact ak.cell rfl,by rw[Qd];exact ak.cell rfl,trivial⟩
  ·rw[Qd]
   exact hX (ab.trans (c:=ah) (m:=Z.size) ⟨aC.size,λj hj=>aC.get j (by have:=ab.size;omega)⟩ (Av _))
  ·intro cn
   have kk:Keep Z.size Z ah:=ab.trans (c:=ah) (m:=Z.size) ⟨aC.size,λj hj=>aC.get j (by have:=ab.size;omega)⟩ (Av _)
   exact af ah cn kk (Keep.push _ _ (Av _)) (Blk.new _ _ _)
  ·intro bo
   have kk:Keep Z.size Z ah:=ab.trans (c:=ah) (m:=Z.size) ⟨aC.size,λj hj=>aC.get j (by have:=ab.size;omega)⟩ (Av _)
   have bD:Keep ah.size ah bo:=Keep.push _ _ (Av _)
   refine⟨by rw[Qd];exact(bD.get h2.size (by have:=kk.size;omega)).trans (hX kk),?_⟩
   exact af ah bo kk bD (Blk.new _ _ _)
  ·intro aE
   have ba:Keep aM.size aM aE:=Keep.push _ _ (Av _)
   have cY:aE.size=aM.size+1:=AM _
   have cu:Blk aE aM.size #[.int .i64 0,.string ⟨#[]⟩,.slice none 0 0,.slice none 0 0]:=Blk.new _ _ _
   clear_value aE
   have c7:=ab.size
   have aA:Keep Z.size Z aE:=ab.trans (c:=aE) (m:=Z.size) ⟨ba.size,λj hj=>ba.get j (by omega)⟩ (Av _)
   refine⟨by rw[Qd];exact hX aA,by rw[Qd];exact hX aA,bn (aj.keep aA) λbP aL=>⟨_,rfl,?_,?_⟩⟩
   ·rw[Qd]
    exact hX (aA.trans (c:=bP) (m:=Z.size) ⟨aL.size,λj hj=>aL.get j (by omega)⟩ (Av _))
   ·exact af aM bP ab ⟨by have:=aL.size;omega,λj hj=>by rw[aL.get j (by omega)];exact ba.get j hj⟩ (cu.keep (aL.get _ (by omega)))
  ·intro a1
   have ar:Keep Z.size Z a1:=Keep.push _ _ (Av _)
   have cL:a1.size=Z.size+1:=AM _
   have cp:Blk a1 Z.size #[.int .i64 0,.string ⟨#[]⟩,.slice none 0 0,.slice none 0 0]:=Blk.new _ _ _
   clear_value a1
   refine⟨by rw[Qd];exact hX ar,ar.get h.size (by omega),by rw[Qd];exact hX ar,by rw[Qd];exact hX ar,bq (aj.keep ar) λbu aQ=>⟨_,rfl,?_⟩⟩
   have cP:=aQ.size
   have az:Keep Z.size Z bu:=ar.trans (c:=bu) (m:=Z.size) ⟨aQ.size,λj hj=>aQ.get j (by omega)⟩ (Av _)
   refine⟨by rw[Qd];exact hX az,by rw[Qd];exact hX az,bn (aj.keep az) λbA aF=>⟨_,rfl,?_,?_⟩⟩
   ·rw[Qd]
    exact hX (az.trans (c:=bA) (m:=Z.size) ⟨aF.size,λj hj=>aF.get j (by omega)⟩ (Av _))
   ·exact af Z bA (Keep.refl _ _) ⟨by have:=aF.size;omega,λj hj=>by rw[aF.get j (by omega),aQ.get j (by omega)];exact ar.get j hj⟩ ((cp.keep (aQ.get _ (by omega))).keep (aF.get _ (by omega)))
end
end
section
theorem qd4:Z6 Tp 46=true:=by kernel_rfl
theorem qd5:Qh Tp 46=3:=by kernel_rfl
section
variable {t : Bs} {nodes : List Nd} {lvs : List Nat} {gl : Fr}
end
end
section
variable {n bv cv:Nat} {t el ty:TypeId} {zv:Value} {ks:Sl} {K:Value -> Za -> Prop}
theorem NS.cell{lo:Nat}{g:Za}{M:Fr}{na:NA}{sl:Sl}{b:Nat}{cs:Array Value}(H:NS lo g M na sl b cs)(hn:n<na.length):sl.a=some ⟨b,0,none⟩/\Blk g b cs/\sl.cap≠0/\n*7+7<=cs.size/\∀(q:Nat) (v:Value),q<7->(ndC na[n])[q]?=some v->Ze g ⟨b,n*7+q,none⟩=some v:=by
 have Z:na.map ndC≠[]:=λh=>by rw[List.map_eq_nil_iff]at h;rw[h]at hn;simp at hn
 obtain⟨h1,h2⟩:=H.cr.blk Z
 obtain⟨h3,h4⟩:=H.cr.el n (ndC na[n]) (by rw[Ct,AE hn];rfl)
 refine⟨h1,h2,by have:=H.len;have:=H.cr.ro.le;omega,by omega,λq v hq hv=>h2.cell ?_⟩
 have:=zuk h4 hq
 rw[hv]at this
 rw[<-this,BI]
def axK(k:Int)(s':Sl)(Z:List Nat)(p:Nd×Ax):Nd×Ax:=((p.1.1,p.1.2.1,p.1.2.2.1,p.1.2.2.2.1++[k],p.1.2.2.2.2),⟨s',Z,p.2.ps,p.2.pb⟩)
def axP(k:Sp)(s':Sl)(Z:List Nat)(p:Nd×Ax):Nd×Ax:=((p.1.1,p.1.2.1,p.1.2.2.1,p.1.2.2.2.1,p.1.2.2.2.2++[k]),⟨p.2.ks,p.2.kb,s',Z⟩)
def axT(t:Int)(p:Nd×Ax):Nd×Ax:=(z8b t p.1,p.2)
theorem zep{f:Nd×Ax->Nd×Ax}{f':Nd->Nd}(h:∀p,(f p).1=f' p.1)(na:NA)(n:Nat):(na.modify n f).map (·.1)=(na.map (·.1)).modify n f':=by
 apply BB
 intro i
 rw[Ct,BX,BX,Ct]
 cases na[i]? with
 |none=>rfl
 |some p=>by_cases e:n=i <;> simp[e,h]
structure NSt (lo:Nat) (g:Za) (M:Fr) (na:NA) (sl:Sl) (b:Nat) (g':Za) (na':NA) (cs':Array Value):Prop where
 ns:NS lo g' M na' sl b cs'
 le:g.size<=g'.size
 sub:∀c,nsO na' sl b c->nsO na sl b c\/g.size<=c
 fr:∀j,j<g.size->¬nsO na sl b j->g'[j]?=g[j]?
section
variable {lo : Nat} {g : Za} {M : Fr} {na : NA} {sl : Sl} {b : Nat} {cs : Array Value}
theorem NS.addK{bytes:Nat}(E:ElemT Tp t el zv (sz (.int .i64)) bytes)(ah:bytes<=1000)(ag:AgM M g)(ak:lo<=g.size)(H:NS lo g M na sl b cs)(hn:n<na.length){k:Int}(hv:Blk g bv #[.int .i64 k])(hb:na[n].1.2.2.2.1.length<=1000000)(aj:na[n].2.ks=ks)
  (hK:∀(s':Sl) (g1:Za) (Z:List Nat),Blk g1 b cs->g.size<=g1.size->(∀j,j<g.size->¬nsO na sl b j->g1[j]?=g[j]?)->(∀g2:Za,Blk g2 b (cs.setIfInBounds (n*7+5) (slV s'))->g2.size=g1.size->(∀j,j≠b->g2[j]?=g1[j]?)->NSt lo g M na sl b g2 (na.modify n (axK k s' Z)) (cs.setIfInBounds (n*7+5) (slV s')))->K (.slice s'.a s'.len s'.cap) g1):
  XRun Tp (AU #[t,t] ty #[.slice ks.a ks.len ks.cap,.slice (some ⟨bv,0,none⟩) 1 cv]) g K:=by
 subst aj
 obtain⟨h1,h2,h3,h4,h5⟩:=H.cell hn
 have hm:=BG hn
 have I:=H.nd _ hm
 have ai:=(H.lb h3).2.1
 refine ORow.app E ah ag I.kk ak hv rfl hb λs' g1 Z o1 z1 c1 f1=>?_
 have ab:b∉na[n].2.kb:=λh=>H.nb _ hm (.inl h)
 have ae:b∉Z:=λh=>by
  rcases c1 b h with h|h
  ·exact ab h
  ·omega
 refine hK s' g1 Z (h2.keep (f1 b ai ab)) z1 (λj hj aa=>f1 j hj λh=>aa (.inr ⟨_,hm,.inl h⟩)) λg2 B2 z2 f2=>?_
 have af:∀j,j<g.size->j≠b->¬axO na[n] j->g2[j]?=g[j]?:=λj hj h1 h2=>by rw[f2 j h1,f1 j hj λh=>h2 (.inl h)]
 have q1:NdI lo g2 M (axK k s' Z na[n]):=by
  refine⟨?_,?_,?_⟩
  ·exact o1.frame (λc hc=>f2 c λe=>ae (e ▸ hc)) (Fr.le.refl _) λc hc=>(o1.own c hc).2.2
  ·exact I.pp.frame (λc hc=>by have:=(I.pp.own c hc).2.1;rw[f2 c λe=>H.nb _ hm (.inr (e ▸ hc))];exact f1 c this λh=>I.dd c h hc) (Fr.le.refl _) λc hc=>(I.pp.own c hc).2.2
  ·intro c hc hp
   rcases c1 c hc with h|h
   ·exact I.dd c h hp
   ·have:=(I.pp.own c hp).2.1;omega
 have q2:∀c,axO (axK k s' Z na[n]) c->axO na[n] c\/g.size<=c:=by
  intro c hc
  rcases hc with hc|hc
  ·rcases c1 c hc with h|h
   ·exact .inl (.inl h)
   ·exact .inr h
  ·exact .inl (.inr hc)
 obtain⟨N,ow⟩:=H.upd hn (f:=axK k s' Z) (q:=5) (v:=slV s') (by omega) B2 (by omega) rfl q1 q2 af
 exact⟨N,by omega,ow,λj hj aa=>af j hj (λe=>aa (.inl ⟨h3,e⟩)) λh=>aa (.inr ⟨_,hm,h⟩)⟩
theorem NS.addP{bytes:Nat}(E:ElemT Tp t el zv (sz tSp) bytes)(ah:bytes<=1000)(ag:AgM M g)(ak:lo<=g.size)(H:NS lo g M na sl b cs)(hn:n<na.length){k:Sp}(hv:Blk g bv #[.int .i64 k.1,.int .i64 k.2])(hb:na[n].1.2.2.2.2.length<=1000000)(aj:na[n].2.ps=ks)
  (hK:∀(s':Sl) (g1:Za) (Z:List Nat),Blk g1 b cs->g.size<=g1.size->(∀j,j<g.size->¬nsO na sl b j->g1[j]?=g[j]?)->(∀g2:Za,Blk g2 b (cs.setIfInBounds (n*7+6) (slV s'))->g2.size=g1.size->(∀j,j≠b->g2[j]?=g1[j]?)->NSt lo g M na sl b g2 (na.modify n (axP k s' Z)) (cs.setIfInBounds (n*7+6) (slV s')))->K (.slice s'.a s'.len s'.cap) g1):
  XRun Tp (AU #[t,t] ty #[.slice ks.a ks.len ks.cap,.slice (some ⟨bv,0,none⟩) 1 cv]) g K:=by
 subst aj
 obtain⟨h1,h2,h3,h4,h5⟩:=H.cell hn
 have hm:=BG hn
 have I:=H.nd _ hm
 have ai:=(H.lb h3).2.1
 refine ORow.app E ah ag I.pp ak hv ⟨_,_,rfl,rfl,rfl⟩ hb λs' g1 Z o1 z1 c1 f1=>?_
 have ab:b∉na[n].2.pb:=λh=>H.nb _ hm (.inr h)
 have ae:b∉Z:=λh=>by
  rcases c1 b h with h|h
  ·exact ab h
  ·omega
 refine hK s' g1 Z (h2.keep (f1 b ai ab)) z1 (λj hj aa=>f1 j hj λh=>aa (.inr ⟨_,hm,.inr h⟩)) λg2 B2 z2 f2=>?_
 have af:∀j,j<g.size->j≠b->¬axO na[n] j->g2[j]?=g[j]?:=λj hj h1 h2=>by rw[f2 j h1,f1 j hj λh=>h2 (.inr h)]
 have q1:NdI lo g2 M (axP k s' Z na[n]):=by
  refine⟨?_,?_,?_⟩
  ·exact I.kk.frame (λc hc=>by have:=(I.kk.own c hc).2.1;rw[f2 c λe=>H.nb _ hm (.inl (e ▸ hc))];exact f1 c this λh=>I.dd c hc h) (Fr.le.refl _) λc hc=>(I.kk.own c hc).2.2
  ·exact o1.frame (λc hc=>f2 c λe=>ae (e ▸ hc)) (Fr.le.refl _) λc hc=>(o1.own c hc).2.2
  ·intro c hp hc
   rcases c1 c hc with h|h
   ·exact I.dd c hp h
   ·have:=(I.kk.own c hp).2.1;omega
 have q2:∀c,axO (axP k s' Z na[n]) c->axO na[n] c\/g.size<=c:=by
  intro c hc
  rcases hc with hc|hc
  ·exact .inl (.inl hc)
  ·rcases c1 c hc with h|h
   ·exact .inl (.inr h)
   ·exact .inr h
 obtain⟨N,ow⟩:=H.upd hn (f:=axP k s' Z) (q:=6) (v:=slV s') (by omega) B2 (by omega) rfl q1 q2 af
 exact⟨N,by omega,ow,λj hj aa=>af j hj (λe=>aa (.inl ⟨h3,e⟩)) λh=>aa (.inr ⟨_,hm,h⟩)⟩
theorem NS.toB(H:NS lo g M na sl b cs)(hn:n<na.length){x:Int}{g2:Za}(B2:Blk g2 b (cs.setIfInBounds (n*7+2) (.int .i64 x)))(z2:g2.size=g.size)(f2:∀j,j≠b->g2[j]?=g[j]?):NSt lo g M na sl b g2 (na.modify n (axT x)) (cs.setIfInBounds (n*7+2) (.int .i64 x)):=by
 obtain⟨h1,h2,h3,h4,h5⟩:=H.cell hn
 have hm:=BG hn
 have I:=H.nd _ hm
 have q1:NdI lo g2 M (axT x na[n]):=by
  refine⟨?_,?_,I.dd⟩
  ·exact I.kk.frame (λc hc=>f2 c λe=>H.nb _ hm (.inl (e ▸ hc))) (Fr.le.refl _) λc hc=>(I.kk.own c hc).2.2
  ·exact I.pp.frame (λc hc=>f2 c λe=>H.nb _ hm (.inr (e ▸ hc))) (Fr.le.refl _) λc hc=>(I.pp.own c hc).2.2
 obtain⟨N,ow⟩:=H.upd hn (f:=axT x) (q:=2) (v:=.int .i64 x) (by omega) B2 (by omega) rfl q1 (λc hc=>.inl hc) λj hj h1 h2=>f2 j h1
 exact⟨N,by omega,ow,λj hj Z=>f2 j λe=>Z (.inl ⟨h3,e⟩)⟩
end
end
section
variable {J O O':Nat -> Prop} {g g':Za} {lo bp:Nat} {M:Fr} {s:Bs} {a e:Int}
structure StJ (J:Nat->Prop) (g:Za) (O:Nat->Prop) (g':Za) (O':Nat->Prop):Prop where
 le:g.size<=g'.size
 sub:∀c,O' c->O c\/g.size<=c
 fr:∀j,j<g.size->¬O j->¬J j->g'[j]?=g[j]?
theorem Stp.j{J:Nat->Prop}{g g':Za}{O O':Nat->Prop}(S:Stp g O g' O'):StJ J g O g' O':=⟨S.le,S.sub,λj h1 h2 _=>S.fr j h1 h2⟩
theorem StJ.trans{g g' Z:Za}{O O' aa:Nat->Prop}(a:StJ J g O g' O')(b:StJ J g' O' Z aa):StJ J g O Z aa:=by
 have:=a.le;have:=b.le
 refine⟨by omega,λc h=>?_,λj hj hn hJ=>?_⟩
 ·rcases b.sub c h with h|h
  ·exact a.sub c h
  ·exact .inr (by omega)
 ·rw[b.fr j (by omega) (λh=>?_) hJ]
  ·exact a.fr j hj hn hJ
  ·rcases a.sub j h with h|h
   ·exact hn h
   ·omega
def Apt(J:Nat->Prop)(g:Za)(O:Nat->Prop):Prop:=∀j,J j->j<g.size/\¬O j
theorem Apt.step{J D:Nat->Prop}(h:Apt D g O)(S:StJ J g O g' O'):Apt D g' O':=λj hj=>by
 obtain⟨h1,h2⟩:=h j hj
 have:=S.le
 refine⟨by omega,λho=>?_⟩
 rcases S.sub j ho with h|h
 ·exact h2 h
 ·omega
def Ans(r:PR PSt)(b:Bool)(st':PSt)(a e:Int):Prop:=match r with
 |.inl t=>b=true/\st'=t
 |.inr x=>b=false/\x=(a,e)
def qep(r:PR (List Bs×PSt))(b:Bool)(σ:List Bs)(st':PSt)(a e:Int):Prop:=match r with
 |.inl t=>b=true/\t=(σ,st')
 |.inr x=>b=false/\x=(a,e)
def qbu(g:Za)(bp:Nat):Nat:=match Ze g ⟨bp,1,none⟩with
 |some (.slice _ n _)=>n
 |_=>0
theorem PaS.restLen{st:PSt}(H:PaS lo g M bp s st a e O):qbu g bp=st.rest.length:=by
 obtain⟨rs,lf,na,sl,b,cs,W,h1,rfl⟩:=H
 unfold qbu
 rw[W.blk.cell (o:=1) (v:=slV rs) rfl]
 exact(rowLen W.rd).1
theorem PW.nst{rest:List Tk}{last a e:Int}{rs:Sl}{lf:Int}{na na':NA}{sl:Sl}{b:Nat}{cs cs':Array Value}(W:PW lo g M bp s rest last a e rs lf na sl b cs)(N:NSt lo g M na sl b g' na' cs'):PW lo g' M bp s rest last a e rs lf na' sl b cs'/\Stp g (ppO bp na sl b) g' (ppO bp na' sl b):=by
 refine⟨⟨W.blk.keep (N.fr bp W.blk.lt W.nb),W.rd,N.ns,zp7 W.ag λj hj hm=>N.fr j hj λh=>hm (W.ns.own h).2.2,W.bl,λh=>?_⟩,N.le,λc h=>?_,λj hj hn=>N.fr j hj λh=>hn (.inr h)⟩
 ·rcases N.sub bp h with h|h
  ·exact W.nb h
  ·have:=W.blk.lt;omega
 ·rcases h with h|h
  ·exact .inl (.inl h)
  ·rcases N.sub c h with h|h
   ·exact .inl (.inr h)
   ·exact .inr h
theorem qd6:ElemT Tp 59 3 (.int .i64 0) (sz (.int .i64)) 8:=⟨by kernel_rfl,⟨Tryz.t3,by kernel_rfl,by kernel_rfl,by kernel_rfl,by kernel_rfl⟩,rfl,by decide⟩
theorem qd7:ElemT Tp 60 58 (.agg #[.int .i64 0,.int .i64 0]) (sz tSp) 16:=⟨by kernel_rfl,⟨Tryz.t58,by kernel_rfl,by kernel_rfl,by kernel_rfl,by kernel_rfl⟩,rfl,by decide⟩
theorem qfc:Z6 Tp 59=true:=by kernel_rfl
theorem qfd:Qh Tp 59=1:=by kernel_rfl
theorem qfe:Z6 Tp 60=true:=by kernel_rfl
theorem qff:Qh Tp 60=1:=by kernel_rfl
def qeq(lo:Nat)(M:Fr)(bp:Nat)(s:Bs)(F:FuncId)(A C:Array Value)(lv:Int)(kid:zns)(HI:List Bs->Za->Prop)(J D:Nat->Prop):Prop:=
 ∀(σ:List Bs) (g:Za) (st:PSt) (a e:Int) (O:Nat->Prop),PaS lo g M bp s st a e O->HI σ g->Apt D g O->st.nodes.length<=4096->st.T<=200000->(∀t∈st.rest,TkW s t) ->
  ∀K:Value->Za->Prop,(∀b g' st' a' e' O' σ',PaS lo g' M bp s st' a' e' O'->StJ J g O g' O'->st.nodes.length<=st'.nodes.length->(b=true->HI σ' g')->qep (kid σ st) b σ' st' a' e'->K (.bool b) g')->XC Tp F (A++#[.int .i64 lv]++C) g K
section
variable {lo : Nat} {g : Za} {M : Fr} {bp : Nat} {s : Bs} {st : PSt} {a e : Int} {O J D : Nat -> Prop} {K : Value -> Za -> Prop} {HI : List Bs -> Za -> Prop} {kid : zns} {F : FuncId} {A C : Array Value}
set_option maxRecDepth 100000 in
set_option maxHeartbeats 4000000 in
theorem z0o(aN:∀σ g g',HI σ g->(∀j,D j->g'[j]?=g[j]?)->HI σ g'){an lv:Int}(bA:Ar .i64 (an+1)=lv)(hk:qeq lo M bp s F A C lv kid HI J D)(aP:zwl kid)(hF:Zp Tp F=true)
  {closing:Int} (hc:closing≠0) (H:PaS lo g M bp s st a e O) (h0:HI [] g) (hJ:Apt D g O) (h4:st.nodes.length<=4096) (hT:st.T<=200000) (hw:∀t∈st.rest,TkW s t) {n:Nat} (hn:n<st.nodes.length)
  (hK:∀b g' st' a' e' O',PaS lo g' M bp s st' a' e' O'->StJ J g O g' O'->st.nodes.length<=st'.nodes.length->Ans (zdd s n closing kid st) b st' a' e'->K (.bool b) g'):
  XC Tp 117 #[.pointer (some ⟨bp,0,none⟩),.int .i64 (n:Int),.int .i64 an,.int .i64 closing,.func (.func F) A C] g K:=by
 apply zee
 refine zh1 H hc (λhy g1 P1 S1=>⟨true,rfl,λ_=>?_,λh=>(by cases h)⟩) (λba=>⟨false,rfl,λh=>(by cases h),λ_=>?_⟩)
 ·refine hK true g1 st.skip a e O P1 S1.j (by rw[Qs];exact Av _) ?_
  unfold zdd;rw[if_pos hy];exact⟨rfl,rfl⟩
 refine⟨λg'=>∃(f:Nat) (σ:List Bs) (st':PSt) (a' e':Int) (O':Nat->Prop),PaS lo g' M bp s st' a' e' O'/\HI σ g'/\Apt D g' O'/\StJ J g O g' O'/\Okk st st' 0/\st'.rest.length<f/\zdd s n closing kid st=zco s n closing kid f σ st',λg'=>qbu g' bp,⟨st.rest.length+1,[],st,a,e,O,H,h0,hJ,(Stp.refl g O).j,Okk.refl st,by omega,by unfold zdd;rw[if_neg ba]⟩,?_⟩
 rintro h6 ⟨f,σ,Z,a1,e1,O1,P1,I1,J1,S1,ab,hf,hL⟩
 obtain⟨f,rfl⟩:∃f',f=f'+1:=⟨f-1,by omega⟩
 have b8:n<Z.nodes.length:=by have:=ab.n;omega
 have aZ:Z.nodes.length<=4096:=ab.m h4
 have bB:Z.T<=200000:=by have:=ab.t;omega
 have bm:=P1.restLen
 have aY:=P1
 obtain⟨bJ,bQ,bZ,aT,b1,bT,W1,a7,_⟩:=aY
 have l1:aT.len=Z.nodes.length:=by rw[W1.ns.len,<-a7,BN]
 refine⟨_,rfl,Z.last,by rw[Qd,Qd];exact W1.blk.cell rfl,_,rfl,aT,by rw[Qd];exact W1.blk.cell rfl,hF,?_⟩
 rw[bA,l1]
 refine hk σ h6 Z a1 e1 O1 P1 I1 J1 aZ bB (λt ht=>hw t (ab.w t ht)) _ λb g2 aa a2 e2 O2 σ2 P2 S2 n2 I2 A2=>⟨b,rfl,λhb=>?_,λhb=>?_⟩
 ·have hb:b=false:=by simpa using hb
  subst hb
  refine hK false g2 aa a2 e2 O2 P2 (S1.trans S2) (by have:=ab.n;omega) ?_
  rw[hL,zco]
  cases hr:kid σ Z with
  |inl t=>rw[hr]at A2;exact absurd A2.1 (by simp)
  |inr x=>rw[hr]at A2;exact⟨rfl,A2.2⟩
 have hb:b=true:=by simpa using hb
 subst hb
 have hr:kid σ Z=.inl (σ2,aa):=by
  cases hr:kid σ Z with
  |inl t=>rw[hr]at A2;rw[A2.2]
  |inr x=>rw[hr]at A2;exact absurd A2.1 (by simp)
 have ok2:=aP _ _ _ _ hr
 have I2:=I2 rfl
 have J2:=J1.step S2
 rw[zco,hr]at hL
 dsimp only at hL
 have bq:=P2
 obtain⟨rs,lf,na,sl,b,cs,W,h1,rfl⟩:=bq
 have bH:na.length=aa.nodes.length:=by rw[<-h1,BN]
 have ay:n<na.length:=by omega
 obtain⟨q1,q2,q3,q4,q5⟩:=W.ns.cell ay
 have bi:ndW na[n].1<=200000:=by
  have h:na[n].1∈aa.nodes:=by rw[<-h1];exact List.mem_map_of_mem (BG ay)
  have:=z8c h;have:=ok2.t;omega
 unfold ndW at bi
 refine⟨_,rfl,sl,by rw[Qd];exact W.blk.cell rfl,⟨b,0,none⟩,⟨q1,by omega,by have:=W.ns.len;omega⟩,⟨b,n*7,none⟩,by rw[Qd,AK,AX],na[n].2.ks,?_,?_⟩
 ·rw[Qd];exact q5 5 _ (by omega) rfl
 intro ai
 have aB:Keep g2.size g2 ai:=Keep.push _ _ (Av _)
 have bL:ai.size=g2.size+1:=AM _
 have bG:Blk ai g2.size #[.int .i64 (Z.nodes.length:Int)]:=Blk.new _ _ _
 clear_value ai
 have bC:NSt lo g2 M na sl b ai na cs:=⟨W.ns.frame aB.size λc hc=>aB.get c (W.ns.own hc).2.1,aB.size,λc h=>.inl h,λj hj _=>aB.get j hj⟩
 obtain⟨aA,aV⟩:=W.nst bC
 have aQ:lo<=ai.size:=by have:=(aA.own (.inl rfl));omega
 refine NS.addK qd6 (by omega) aA.ag aQ aA.ns ay bG (by omega) rfl λs' bM ak bz bP bY bD=>⟨s',rfl,⟨b,n*7,none⟩,by rw[Qd,AK,AX],?_⟩
 rw[Qd]
 refine Ji qfc qfd bz (by omega) rfl λae u1 u2 u3=>?_
 obtain⟨ah,bj⟩:=aA.nst (bD ae u1 u2 u3)
 have aG:n<(na.modify n (axK (Z.nodes.length:Int) s' ak)).length:=by rw[List.length_modify];exact ay
 have aJ:(na.modify n (axK (Z.nodes.length:Int) s' ak))[n]=axK (Z.nodes.length:Int) s' ak na[n]:=by rw[List.getElem_modify,if_pos rfl]
 obtain⟨r1,r2,r3,r4,r5⟩:=ah.ns.cell aG
 rw[aJ]at r5
 refine⟨⟨b,n*7,none⟩,by rw[Qd,AK,AX],na[n].2.ps,?_,?_⟩
 ·rw[Qd];exact r5 6 _ (by omega) rfl
 have a8:PaS lo ae M bp s ⟨aa.rest,aa.last,(na.modify n (axK (Z.nodes.length:Int) s' ak)).map (·.1)⟩ a2 e2 _:=⟨_,_,_,_,_,_,ah,rfl,rfl⟩
 refine z0l a8 ⟨_,rfl,rfl,rfl,?_⟩
 intro af
 have aj:Keep ae.size ae af:=Keep.push _ _ (Av _)
 have bI:af.size=ae.size+1:=AM _
 have a6:Blk af ae.size #[.int .i64 Z.last,.int .i64 (aa.here s.length)]:=Blk.new _ _ _
 clear_value af
 have bo:=(ah.ns.own (.inl ⟨r3,rfl⟩)).2.1
 refine⟨by rw[Qd];exact aj.get b bo,?_⟩
 have bF:NSt lo ae M _ sl b af _ _:=⟨ah.ns.frame aj.size λc hc=>aj.get c (ah.ns.own hc).2.1,aj.size,λc h=>.inl h,λj hj _=>aj.get j hj⟩
 obtain⟨az,bg⟩:=ah.nst bF
 have aS:lo<=af.size:=by have:=(az.own (.inl rfl));omega
 refine NS.addP qd7 (by omega) az.ag aS az.ns aG (k:=(Z.last,aa.here s.length)) a6 (by rw[aJ];show na[n].1.2.2.2.2.length<=_;omega) (by rw[aJ];rfl) λs2 bO bu br bU bS aO=>⟨s2,rfl,⟨b,n*7,none⟩,by rw[Qd,AK,AX],?_⟩
 rw[Qd]
 refine Ji qfe qff br (by omega) rfl λap v1 v2 v3=>?_
 obtain⟨bn,bE⟩:=az.nst (aO ap v1 v2 v3)
 have au:((na.modify n (axK (Z.nodes.length:Int) s' ak)).modify n (axP (Z.last,aa.here s.length) s2 bu)).map (·.1)=(aa.addKid n (Z.nodes.length:Int) (Z.last,aa.here s.length)).nodes:=by
  rw[zep (f':=λx=>(x.1,x.2.1,x.2.2.1,x.2.2.2.1,x.2.2.2.2++[(Z.last,aa.here s.length)])) (λp=>rfl),zep (f':=λx=>(x.1,x.2.1,x.2.2.1,x.2.2.2.1++[(Z.nodes.length:Int)],x.2.2.2.2)) (λp=>rfl),h1]
  unfold PSt.addKid
  apply BB
  intro i
  rw[BX,BX,BX]
  cases aa.nodes[i]? with
  |none=>rfl
  |some x=>by_cases e:n=i <;> simp[e,zz1]
 have aL:PaS lo ap M bp s (aa.addKid n (Z.nodes.length:Int) (Z.last,aa.here s.length)) a2 e2 _:=⟨_,_,_,_,_,_,bn,au,rfl⟩
 have am:=((aV.trans bj).trans bg).trans bE
 have bh:HI σ2 ap:=aN σ2 g2 ap I2 λj hj=>am.fr j (J2 j hj).1 (J2 j hj).2
 have aI:=J2.step (am.j (J:=J))
 have aU:=zlj aa n (Z.nodes.length:Int) (Z.last,aa.here s.length)
 have aC:(aa.addKid n (Z.nodes.length:Int) (Z.last,aa.here s.length)).kind=aa.kind:=rfl
 have be:(aa.addKid n (Z.nodes.length:Int) (Z.last,aa.here s.length)).here s.length=aa.here s.length:=rfl
 have ar:=(S1.trans S2).trans am.j
 have aH:st.nodes.length<=(aa.addKid n (Z.nodes.length:Int) (Z.last,aa.here s.length)).nodes.length:=by have:=ab.n;have:=ok2.n;omega
 refine zh1 aL hc (λhy g' P' S'=>⟨true,rfl,λ_=>?_,λh=>(by cases h)⟩) (λaF=>⟨false,rfl,λh=>(by cases h),λ_=>?_⟩)
 ·refine hK true g' _ _ _ _ P' (ar.trans S'.j) (by rw[Qs];exact aH) ?_
  rw[aC]at hy
  rw[hL,if_pos hy];exact⟨rfl,rfl⟩
 rw[aC]at aF
 rw[if_neg aF]at hL
 refine zh1 aL (by omega) (λhy g' P' S'=>⟨true,rfl,λh=>(by simp at h),λ_=>?_⟩) (λaE=>⟨false,rfl,λ_=>?_,λh=>(by simp at h)⟩)
 ·rw[aC]at hy
  rw[if_pos hy]at hL
  have aM:=zgy aP hr (n:=n) (k:=(Z.nodes.length:Int)) (p:=(Z.last,aa.here s.length)) (PSt.ne_kind hy (by omega))
  refine⟨⟨f,σ2,_,_,_,_,P',aN σ2 ap g' bh (λj hj=>S'.fr j (aI j hj).1 (aI j hj).2),aI.step (S'.j (J:=J)),ar.trans S'.j,(ab.trans aM).le (by omega),?_,hL⟩,?_⟩
  ·have:=aM.r;omega
  ·have e1:=P'.restLen
   have:=aM.r
   show qbu g' bp<qbu h6 bp
   rw[e1,bm];omega
 ·rw[aC]at aE
  rw[if_neg aE]at hL
  refine zbl aL λg' P' S'=>⟨false,rfl,hK false g' _ _ _ _ P' (ar.trans S'.j) aH ?_⟩
  rw[hL];exact⟨rfl,by rw[be]⟩
end
end
section
variable {k b c:Nat} {ls:Sl} {cs:Array Value} {g':Za}
def rpC(s:Bs)(ls:Sl)(k:Nat)(sl:Sl)(a e:Int):List Value:=[.string (bl s),slV ls,.int .i64 (k:Int),slV sl,.int .i64 a,.int .i64 e]
structure RW (lo:Nat) (g:Za) (M:Fr) (bp:Nat) (s:Bs) (l:List Tk) (k:Nat) (a e:Int) (ls:Sl) (na:NA) (sl:Sl) (b:Nat) (cs:Array Value):Prop where
 blk:Blk g bp (rpC s ls k sl a e).toArray
 rd:Rd M (.row tTk) l [slV ls]
 ns:NS lo g M na sl b cs
 ag:AgM M g
 bl:lo<=bp/\M bp=none
 nb:¬nsO na sl b bp
structure AtK (l:List Tk) (k:Nat) (st:PSt):Prop where
 rest:st.rest=l.drop k
 le:k<=l.length
 last:∀t,0<k->l[k-1]?=some t->st.last=t.2.2
def RS(lo:Nat)(g:Za)(M:Fr)(bp:Nat)(s:Bs)(l:List Tk)(st:PSt)(a e:Int)(O:Nat->Prop):Prop:=
 ∃(ls:Sl) (k:Nat) (na:NA) (sl:Sl) (b:Nat) (cs:Array Value),RW lo g M bp s l k a e ls na sl b cs/\AtK l k st/\na.map (·.1)=st.nodes/\O=ppO bp na sl b
theorem RW.own{lo:Nat}{g:Za}{M:Fr}{bp:Nat}{s:Bs}{l:List Tk}{a e:Int}{na:NA}{sl:Sl}(H:RW lo g M bp s l k a e ls na sl b cs)(h:ppO bp na sl b c):lo<=c/\c<g.size/\M c=none:=by
 rcases h with rfl|h
 ·exact⟨H.bl.1,H.blk.lt,H.bl.2⟩
 ·exact H.ns.own h
section
variable {lo : Nat} {g : Za} {M : Fr} {bp : Nat} {s : Bs} {l : List Tk} {st : PSt} {a e : Int} {O : Nat -> Prop} {K : Value -> Za -> Prop}
theorem RS.own(H:RS lo g M bp s l st a e O)(h:O c):lo<=c/\c<g.size/\M c=none:=by
 obtain⟨ls,k,na,sl,b,cs,W,_,_,rfl⟩:=H
 exact W.own h
theorem RS.frame(H:RS lo g M bp s l st a e O)(hz:g.size<=g'.size)(f:∀c,c<g.size->(O c\/M c≠none)->g'[c]?=g[c]?):RS lo g' M bp s l st a e O:=by
 obtain⟨ls,k,na,sl,b,cs,W,h0,h1,rfl⟩:=H
 refine⟨ls,k,na,sl,b,cs,⟨W.blk.keep (f bp W.blk.lt (.inl (.inl rfl))),W.rd,W.ns.frame hz λc hc=>f c (W.ns.own hc).2.1 (.inl (.inr hc)),zp7 W.ag λj hj hm=>f j hj (.inr hm),W.bl,W.nb⟩,h0,h1,rfl⟩
theorem RS.keep(H:RS lo g M bp s l st a e O)(k:Keep g.size g g'):RS lo g' M bp s l st a e O:=H.frame k.size λc hc _=>k.get c hc
theorem RS.ag(H:RS lo g M bp s l st a e O):AgM M g:=by
 obtain⟨ls,k,na,sl,b,cs,W,_,_,_⟩:=H;exact W.ag
theorem RW.put{k k':Nat}{a' e':Int}{na:NA}{sl:Sl}(H:RW lo g M bp s l k a e ls na sl b cs)(B:Blk g' bp (rpC s ls k' sl a' e').toArray)(hz:g'.size=g.size)(f:∀j,j≠bp->g'[j]?=g[j]?):RW lo g' M bp s l k' a' e' ls na sl b cs:=
 ⟨B,H.rd,H.ns.frame (by omega) λc hc=>f c λh=>H.nb (h ▸ hc),zp7 H.ag λj _ hm=>f j λh=>hm (h ▸ H.bl.2),H.bl,H.nb⟩
theorem RW.nst{na na':NA}{sl:Sl}{cs cs':Array Value}(W:RW lo g M bp s l k a e ls na sl b cs)(N:NSt lo g M na sl b g' na' cs'):RW lo g' M bp s l k a e ls na' sl b cs'/\Stp g (ppO bp na sl b) g' (ppO bp na' sl b):=by
 refine⟨⟨W.blk.keep (N.fr bp W.blk.lt W.nb),W.rd,N.ns,zp7 W.ag λj hj hm=>N.fr j hj λh=>hm (W.ns.own h).2.2,W.bl,λh=>?_⟩,N.le,λc h=>?_,λj hj hn=>N.fr j hj λh=>hn (.inr h)⟩
 ·rcases N.sub bp h with h|h
  ·exact W.nb h
  ·have:=W.blk.lt;omega
 ·rcases h with h|h
  ·exact .inl (.inl h)
  ·rcases N.sub c h with h|h
   ·exact .inl (.inr h)
   ·exact .inr h
theorem AtK.cons(A:AtK l k st){t:Tk}{r:List Tk}(h:st.rest=t::r):∃hk:k<l.length,l[k]=t:=by
 have h1:=A.rest
 rw[h]at h1
 have hk:k<l.length:=by
  rcases A1 k l.length with hh|hh
  ·exact hh
  ·rw[BJ hh]at h1;cases h1
 refine⟨hk,?_⟩
 rw[A9 hk]at h1
 injection h1 with h1 _;exact h1.symm
theorem AtK.nil(A:AtK l k st)(h:st.rest=[]):k=l.length:=by
 have h1:=A.rest
 rw[h]at h1
 have:=List.drop_eq_nil_iff.1 h1.symm
 have:=A.le;omega
theorem AtK.skip(A:AtK l k st)(h:st.rest≠[]):AtK l (k+1) st.skip:=by
 obtain⟨t,r,er⟩:=BK h
 obtain⟨hk,e⟩:=A.cons er
 have h1:=A.rest
 rw[er,A9 hk]at h1
 injection h1 with _ h2
 have es:st.skip=⟨r,t.2.2,st.nodes⟩:=by unfold PSt.skip;rw[er]
 rw[es]
 refine⟨h2,hk,λu _ hu=>?_⟩
 rw[Nat.add_sub_cancel,AE hk,e]at hu
 cases hu;rfl
theorem AtK.same(A:AtK l k st){st':PSt}(h1:st'.rest=st.rest)(h2:st'.last=st.last):AtK l k st':=⟨h1.trans A.rest,A.le,λt a b=>h2.trans (A.last t a b)⟩
end
end
section
variable {gl:Fr}
theorem zp8{k:Int}{R:Int->Prop}(h:R (Z9 k)):PC Tp gl 114 [Arg.mk (.int .i64) k] [.int .i64] R:=by
 apply zj8
 unfold Z9 at h
 refine⟨λhx=>?_,λhx K hK=>?_⟩
 ·rw[if_pos (by simpa using hx)]at h;exact h
 have hx:¬k=12:=by simpa using hx
 rw[if_neg hx]at h
 have key:∀b:Bool,b=decide (k=10\/k=11)->K b:=λb hb=>hK b ⟨λh1=>by
   rw[h1]at hb
   rw[if_pos (of_decide_eq_true hb.symm)]at h;exact h,λh1=>by
   rw[h1]at hb
   rw[if_neg (of_decide_eq_false hb.symm)]at h
   refine⟨λh2=>?_,λh2=>⟨λh3=>?_,λh3=>⟨λh4=>?_,λh4=>⟨λh5=>?_,λh5=>?_⟩⟩⟩⟩
   ·rw[if_pos (by simpa using h2)]at h;exact h
   ·rw[if_neg (by simpa using h2),if_pos (by simpa using h3)]at h;exact h
   ·rw[if_neg (by simpa using h2),if_neg (by simpa using h3),if_pos (by simpa using h4)]at h;exact h
   ·rw[if_neg (by simpa using h2),if_neg (by simpa using h3),if_neg (by simpa using h4),if_pos (by simpa using h5)]at h;exact h
   ·rw[if_neg (by simpa using h2),if_neg (by simpa using h3),if_neg (by simpa using h4),if_neg (by simpa using h5)]at h;exact h⟩
 refine⟨λh1=>key _ ?_,λh1=>key _ ?_⟩
 ·have:k=10:=by simpa using h1
  rw[h1,this];rfl
 ·have:¬k=10:=by simpa using h1
  rw[A6,beq_iff_eq,decide_eq_true_eq];omega
def qd8(lo:Nat)(M:Fr)(bp:Nat)(s:Bs)(lv:Int)(val:zpw):Prop:=
 ∀(key:Sp) (g:Za) (st:PSt) (a e:Int) (O:Nat->Prop),PaS lo g M bp s st a e O->st.nodes.length<=4096->st.T<=200000->(∀t∈st.rest,TkW s t) ->
  ∀K:Value->Za->Prop,(∀b g' st' a' e' O',PaS lo g' M bp s st' a' e' O'->Stp g O g' O'->st.nodes.length<=st'.nodes.length->Ans (val key st) b st' a' e'->K (.bool b) g')->XC Tp 61 #[.pointer (some ⟨bp,0,none⟩),.int .i64 lv,.agg #[.int .i64 key.1,.int .i64 key.2]] g K
section
variable {lo : Nat} {g : Za} {M : Fr} {bp : Nat} {s : Bs} {lv : Int} {val : zpw}
theorem z8z(hv:qd8 lo M bp s lv val):qeq lo M bp s 118 #[.pointer (some ⟨bp,0,none⟩)] #[] lv (zhs val) (λ_ _=>True) (λ_=>False) (λ_=>False):=by
 intro σ g st a e O P I J h4 hT hw K hK
 show XC Tp _ #[.pointer (some ⟨bp,0,none⟩),.int .i64 lv] g K
 apply zef
 refine hv (0,0) g st a e O P h4 hT hw _ λb g' st' a' e' O' P' S' n' A'=>⟨b,rfl,hK b g' st' a' e' O' σ P' S'.j n' (λ_=>trivial) ?_⟩
 unfold zhs
 cases hr:val (0,0) st with
 |inl t=>rw[hr]at A';exact⟨A'.1,by rw[A'.2]⟩
 |inr x=>rw[hr]at A';exact A'
theorem z5l:MapT Tp 154 9 4 (.bool false):=⟨by kernel_rfl,by kernel_rfl,⟨Tryz.t4,by kernel_rfl,by kernel_rfl⟩⟩
def qcr(m:Nat)(σ:List Bs)(g:Za):Prop:=∃l,MapAt g m l/\∀k:Bs,zqm l (bl k)=if k∈σ then some (.bool true)else none
theorem zwr{M:Fr}{r:Bt×Int×Int}{v:Value}(h:ze0 M [.str,.int .i64,.int .i64] r v):v=.tuple #[.string r.1,.int .i64 r.2.1,.int .i64 r.2.2]:=by
 obtain⟨vs,⟨v1,rest,rfl,hx,v2,Z,rfl,hy,v3,rfl,hz⟩,rfl⟩:=h
 rw[Y1 hx,Zy hy,Zy hz]
 rfl
set_option maxRecDepth 100000 in
set_option maxHeartbeats 2000000 in
theorem qbv(hg:GL gl)(hM:Fr.le gl M)(hs:s.length<=65536)(hv:qd8 lo M bp s lv val){m:Nat}{J:Nat->Prop}(hm:J m){σ:List Bs}{st:PSt}{a e:Int}{O:Nat->Prop}(P:PaS lo g M bp s st a e O)(I:qcr m σ g)(hJ:Apt J g O)(h4:st.nodes.length<=4096)(hT:st.T<=200000)(hw:∀t∈st.rest,TkW s t)(aU:∀j,J j->M j=none){K:Value->Za->Prop}
  (hK:∀b g' st' a' e' O' σ',PaS lo g' M bp s st' a' e' O'->StJ (λj=>j=m) g O g' O'->st.nodes.length<=st'.nodes.length->(b=true->qcr m σ' g')->qep (zse s val σ st) b σ' st' a' e'->K (.bool b) g'):
  XC Tp 120 #[.pointer (some ⟨bp,0,none⟩),.int .i64 lv,.map (some m)] g K:=by
 have af:=hJ m hm
 apply zck
 refine znn P ⟨_,rfl,λhx=>?_,λhx=>?_⟩
 ·have hx:¬st.kind=8:=by simpa using hx
  refine zbl P λg' P' S'=>⟨false,rfl,hK false g' st _ _ O σ P' S'.j (Av _) (λh=>(by cases h)) ?_⟩
  unfold zse
  cases hr:st.rest with
  |nil=>exact⟨rfl,rfl⟩
  |cons t r=>
   have:¬t.1=8:=by unfold PSt.kind at hx;rw[hr]at hx;exact hx
   dsimp only
   rw[if_neg this];exact⟨rfl,rfl⟩
 have hx:st.kind=8:=by simpa using hx
 have an:=PSt.ne_kind hx (by omega)
 obtain⟨t,r,er⟩:=BK an
 have aQ:t.1=8:=by unfold PSt.kind at hx;rw[er]at hx;exact hx
 obtain⟨w1,w2,w3,_⟩:=hw t (by rw[er];simp)
 have aG:=zcp an
 have P0:=P
 obtain⟨rs,lf,na,sl,b,cs,W,h1,eO⟩:=P0
 have rd:=W.rd
 have hl:=(rowLen W.rd).1
 rw[er]at rd hl
 rw[AN]at hl
 obtain⟨tb,o,e1,e2,e3,e4⟩:=z9p W.ag rd (k:=0) (by simp)
 refine⟨_,rfl,rs,by rw[Qd];exact W.blk.cell rfl,_,⟨e1,by omega,by omega⟩,t.2.1,t.2.2,?_,?_⟩
 ·rw[Qd,Qd]
  exact⟨by rw[Qd];exact e3,by rw[Qd];exact e4,trivial⟩
 intro ai
 have aJ:Keep g.size g ai:=Keep.push _ _ (Av _)
 have aV:ai.size=g.size+1:=AM _
 have aO:Blk ai g.size #[.int .i64 0,.int .i64 0]:=Blk.new _ _ _
 clear_value ai
 refine zhc (vs:=[.int .i64 t.2.1,.int .i64 t.2.2]) qbq aO rfl qbr (Av _) (λu hu=>?_) λaC ae a6 aS=>⟨_,rfl,?_⟩
 ·simp at hu;rcases hu with rfl|rfl <;> rfl
 have ae:Blk aC g.size #[.int .i64 t.2.1,.int .i64 t.2.2]:=ae
 have ah:Keep g.size g aC:=⟨by omega,λj hj=>(aS j (by omega)).trans (aJ.get j hj)⟩
 have aL:=P.keep ah
 have aN:=W.blk.keep (ah.get bp W.blk.lt)
 refine⟨bl s,by rw[Qd];exact aN.cell rfl,t.2.1,by rw[Qd];exact ae.cell rfl,t.2.2,by rw[Qd];exact ae.cell rfl,⟨w1,by omega,by rw[Zf];exact w3⟩,?_⟩
 have ex:(bl s).extract t.2.1.toNat t.2.2.toNat=bl (zel s t.2):=by rw[Jy];rfl
 rw[ex]
 have a1:(zel s t.2).length<=65536:=by unfold zel;rw[Bc,AW];omega
 refine(zgz hg (t:=zel s t.2) (by omega) (R:=λr=>r=(bl (zei (zel s t.2)).1,((zei (zel s t.2)).2.1:Int),(zei (zel s t.2)).2.2)) rfl).go hM aL.ag (Qw (a:=Arg.mk .str _) (rdStr _) Yk) λv aE M' rr L aM hr=>?_
 subst hr
 rw[zwr aM]
 refine⟨_,_,_,rfl,?_⟩
 have Z:Keep g.size g aE:=ah.trans L.keep ah.size
 have aA:=P.keep Z
 obtain⟨l,ml,mk⟩:=I
 have am:MapAt aE m l:=ml.keep (Z.get m af.1)
 have aa:=zq2 z5l am (bl (zei (zel s t.2)).1) false
 rw[if_neg (by simp)]at aa
 have aT:z9l l (bl (zei (zel s t.2)).1) (.bool false)=.bool (decide ((zei (zel s t.2)).1∈σ)):=by
  unfold z9l
  rw[mk]
  by_cases ak:(zei (zel s t.2)).1∈σ
  ·rw[if_pos ak];simp[ak]
  ·rw[if_neg ak];simp[ak]
 rw[aT]at aa
 have eM:zse s val σ st=if(zei (zel s t.2)).1∈σ then st.err s 7
   else if st.skip.kind=7 then match val t.2 st.skip.skip with
    |.inl st'=>.inl (σ++[(zei (zel s t.2)).1],st')
    |.inr e=>.inr e
   else st.skip.err s 2:=by
  unfold zse;rw[er];dsimp only;rw[if_pos aQ];rfl
 refine⟨_,aa,λhy=>?_,λhy=>?_⟩
 ·have hy:=of_decide_eq_true hy
  refine zbl aA λg' P' S'=>⟨false,rfl,hK false g' st _ _ O σ P' ((Stp.keep (O:=O) Z).trans S').j (Av _) (λh=>(by cases h)) ?_⟩
  rw[eM,if_pos hy];exact⟨rfl,rfl⟩
 have hy:=of_decide_eq_false hy
 rw[if_neg hy]at eM
 refine zxm z5l am (bl (zei (zel s t.2)).1) (.bool true) λaj aP aY ar=>?_
 have aF:PaS lo aj M bp s st a e O:=aA.frame (by omega) λc hc ho=>ar c λh=>by
  subst h
  rcases ho with ho|ho
  ·exact af.2 ho
  ·exact ho (aU _ hm)
 have au:StJ (λj=>j=m) g O aj O:=⟨by have:=Z.size;omega,λc h=>.inl h,λj hj hn hJ=>(ar j hJ).trans (Z.get j hj)⟩
 have ap:∀g',g'[m]?=aj[m]?->qcr m (σ++[(zei (zel s t.2)).1]) g':=λg' aH=>by
  refine⟨_,aP.keep aH,λk=>?_⟩
  rw[zxl,mk]
  by_cases hk:(zei (zel s t.2)).1=k
  ·subst hk;simp
  ·have aI:¬bl (zei (zel s t.2)).1=bl k:=λh=>hk (qaq.1 h)
   rw[if_neg aI]
   have:(k∈σ++[(zei (zel s t.2)).1])↔k∈σ:=by simp;intro h;exact absurd h.symm hk
   simp only[this]
 have az:m<aj.size:=by have:=af.1;have:=Z.size;omega
 refine zsn aF an λg3 P3 S3=>⟨rfl,?_⟩
 refine zh1 P3 (by omega) (λh7 g4 P4 S4=>⟨true,rfl,λh=>(by simp at h),λ_=>?_⟩) (λh7=>⟨false,rfl,λ_=>?_,λh=>(by simp at h)⟩)
 ·rw[if_pos h7]at eM
  have ok2:=zcp (PSt.ne_kind h7 (by omega))
  have ab:=aG.trans ok2
  have aB:¬O g.size:=λh=>by have:=(P.own h).2.1;omega
  have B4:Blk g4 g.size #[.int .i64 t.2.1,.int .i64 t.2.2]:=by
   refine ae.keep ?_
   have aZ:=ah.size
   rw[S4.fr _ (by have:=S3.le;have:=Z.size;have:=L.keep.size;omega) aB,S3.fr _ (by have:=Z.size;have:=L.keep.size;omega) aB,ar _ (by have:=af.1;omega)]
   exact L.keep.get _ (by omega)
  refine⟨t.2.1,t.2.2,B4.ld (cs:=[.int .i64 t.2.1,.int .i64 t.2.2]),?_⟩
  refine hv t.2 g4 st.skip.skip a e O P4 (by have:=ab.m h4;exact this) (by have:=ab.t;omega) (λx hx=>hw x (ab.w x hx)) _ λb g' st' a' e' O' P' S' n' A'=>⟨b,rfl,?_⟩
  have ay:=(S3.trans S4).trans S'
  refine hK b g' st' a' e' O' _ P' (au.trans ay.j) (by have:=ab.n;omega) (λ_=>ap g' (ay.fr m az λh=>af.2 h)) ?_
  rw[eM]
  cases hr:val t.2 st.skip.skip with
  |inl x=>rw[hr]at A';exact⟨A'.1,by rw[A'.2]⟩
  |inr x=>rw[hr]at A';exact A'
 ·rw[if_neg h7]at eM
  refine zbl P3 λg' P' S'=>⟨false,rfl,hK false g' _ _ _ O σ P' (au.trans (S3.trans S').j) (by rw[Qs];exact Av _) (λh=>(by cases h)) ?_⟩
  rw[eM];exact⟨rfl,rfl⟩
end
end
section
theorem RS.off{lo:Nat}{g g':Za}{M:Fr}{bp:Nat}{s:Bs}{l:List Tk}{st:PSt}{a e:Int}{O:Nat->Prop}(H:RS lo g M bp s l st a e O){b:Nat}(hb:¬O b)(hm:M b=none)(hz:g'.size=g.size)(f:∀j,j≠b->g'[j]?=g[j]?):RS lo g' M bp s l st a e O:=
 H.frame (by omega) λc hc ho=>f c λh=>by
  subst h
  rcases ho with ho|ho
  ·exact hb ho
  ·exact ho hm
section
variable {lo : Nat} {g : Za} {M gl : Fr} {bp : Nat} {s : Bs} {l : List Tk} {st : PSt} {a e : Int} {O : Nat -> Prop} {K : Value -> Za -> Prop}
end
end
section
def qbw(g:Za)(bp:Nat):Nat:=match Ze g ⟨bp,1,none⟩,Ze g ⟨bp,2,none⟩with
 |some (.slice _ n _),some (.int _ k)=>n-k.toNat
 |_,_=>0
theorem RS.left{lo:Nat}{g:Za}{M:Fr}{bp:Nat}{s:Bs}{l:List Tk}{st:PSt}{a e:Int}{O:Nat->Prop}(H:RS lo g M bp s l st a e O):qbw g bp=st.rest.length:=by
 obtain⟨ls,k,na,sl,b,cs,W,A,h1,rfl⟩:=H
 unfold qbw
 rw[W.blk.cell (o:=1) (v:=slV ls) rfl,W.blk.cell (o:=2) (v:=.int .i64 (k:Int)) rfl]
 show ls.len-(k:Int).toNat=_
 rw[A.rest,AW,(rowLen W.rd).1,AK]
section
variable {lo : Nat} {g : Za} {M gl : Fr} {bp : Nat} {s : Bs} {l : List Tk} {st : PSt} {a e : Int} {O : Nat -> Prop} {K : Value -> Za -> Prop} {val : zpw}
end
end
section
theorem qd9:ElemT Tp 34 62 (.agg #[.int .i64 0,.int .i64 0,.int .i64 0,.int .i64 0,.int .i64 0,.slice none 0 0,.slice none 0 0]) 7 88:=⟨by kernel_rfl,⟨Tryz.t62,by kernel_rfl,by kernel_rfl,by kernel_rfl,by kernel_rfl⟩,rfl,by decide⟩
theorem qfg:Z6 Tp 34=true:=by kernel_rfl
theorem qfh:Qh Tp 34=1:=by kernel_rfl
theorem qfi:Z6 Tp 154=true:=by kernel_rfl
theorem qfj:Qh Tp 154=1:=by kernel_rfl
section
variable {lo : Nat} {M gl : Fr} {bp : Nat} {s : Bs}
set_option maxRecDepth 100000 in
set_option maxHeartbeats 4000000 in
theorem z3p(hg:GL gl)(hM:Fr.le gl M)(hs:s.length<=65536):∀d:Nat,d<=32->qd8 lo M bp s (33-(d:Int)) (zc3 s d):=by
 intro d
 induction d with
 |zero=>
  intro hd key g st a e O P h4 hT hw K hK
  apply Wr
  intro h1 h2
  have k1:Keep g.size g h1:=Keep.push _ _ (Av _)
  have k2:Keep h1.size h1 h2:=Keep.push _ _ (Av _)
  have z1:h1.size=g.size+1:=AM _
  have B1:Blk h1 g.size #[.pointer (some ⟨bp,0,none⟩)]:=Blk.new _ _ _
  clear_value h1 h2
  have ab:Keep g.size g h2:=k1.trans k2 (by omega)
  have B2:=B1.keep (k2.get g.size (by omega))
  refine⟨_,B2.cell rfl,znn (P.keep ab) ⟨_,rfl,?_⟩⟩
  refine(zp8 (k:=st.kind) (R:=λr=>r=Z9 st.kind) rfl).go hM (P.keep ab).ag (Qw (a:=Arg.mk (.int .i64) _) (zbp _ _) Yk) λv h8 M' r L hv hr=>⟨r,qde hv,?_⟩
  subst hr
  have ah:=L.keep
  have k8:Keep g.size g h8:=ab.trans ah ab.size
  have B8:=B2.keep (ah.get g.size (by have:=ab.size;have:=k2.size;omega))
  refine⟨λhx=>⟨_,B8.cell rfl,?_⟩,λhx=>⟨λhy=>⟨_,B8.cell rfl,?_⟩,λhy=>?_⟩⟩
  ·refine zbl (P.keep k8) λg' P' S'=>⟨false,rfl,hK false g' st _ _ O P' ((Stp.keep (O:=O) k8).trans S') (Av _) ?_⟩
   rw[zc3,if_pos (by simpa using hx)];exact⟨rfl,rfl⟩
  ·refine zbl (P.keep k8) λg' P' S'=>⟨false,rfl,hK false g' st _ _ O P' ((Stp.keep (O:=O) k8).trans S') (Av _) ?_⟩
   rw[zc3,if_neg (by simpa using hx)];exact⟨rfl,rfl⟩
  ·exact absurd (of_decide_eq_false hy) (by omega)
 |succ d ih=>
  intro hd key g st a e O P h4 hT hw K hK
  have ih:=ih (by omega)
  have aO:=zpx s d
  apply Wr
  intro h1 h2
  have k1:Keep g.size g h1:=Keep.push _ _ (Av _)
  have k2:Keep h1.size h1 h2:=Keep.push _ _ (Av _)
  have z1:h1.size=g.size+1:=AM _
  have z2:h2.size=h1.size+1:=AM _
  have B1:Blk h1 g.size #[.pointer (some ⟨bp,0,none⟩)]:=Blk.new _ _ _
  have Bk2:Blk h2 h1.size #[.int .i64 key.1,.int .i64 key.2]:=Blk.new _ _ _
  clear_value h1 h2
  have ab:Keep g.size g h2:=k1.trans k2 (by omega)
  have B2:=B1.keep (k2.get g.size (by omega))
  refine⟨_,B2.cell rfl,znn (P.keep ab) ⟨_,rfl,?_⟩⟩
  refine(zp8 (k:=st.kind) (R:=λr=>r=Z9 st.kind) rfl).go hM (P.keep ab).ag (Qw (a:=Arg.mk (.int .i64) _) (zbp _ _) Yk) λv h8 M' r L hv hr=>⟨r,qde hv,?_⟩
  subst hr
  have ah:=L.keep
  have k8:Keep g.size g h8:=ab.trans ah ab.size
  have z8:h2.size<=h8.size:=ah.size
  have B8:=B2.keep (ah.get g.size (by omega))
  have bC:=Bk2.keep (ah.get h1.size (by omega))
  have P8:=P.keep k8
  have S8:Stp g O h8 O:=Stp.keep k8
  refine⟨λhx=>⟨_,B8.cell rfl,?_⟩,λhx=>⟨λhy=>?_,λhy=>?_⟩⟩
  ·refine zbl P8 λg' P' S'=>⟨false,rfl,hK false g' st _ _ O P' (S8.trans S') (Av _) ?_⟩
   rw[zc3,if_pos (by simpa using hx)];exact⟨rfl,rfl⟩
  ·have:=of_decide_eq_true hy;omega
  have hx:¬Z9 st.kind=0:=by simpa using hx
  have aE:=zne hx
  obtain⟨t,r,er⟩:=BK aE
  have bF:=P8
  obtain⟨rs,lf,na,sl,b,cs,W,aG,eO⟩:=bF
  have a7:na.length=st.nodes.length:=by rw[<-aG,BN]
  have az:sl.len=st.nodes.length:=by rw[W.ns.len,a7]
  refine⟨_,B8.cell rfl,_,rfl,sl,by rw[Qd];exact W.blk.cell rfl,?_⟩
  rw[az]
  refine⟨λhz=>⟨_,B8.cell rfl,?_⟩,λhz=>?_⟩
  ·refine zbl P8 λg' P' S'=>⟨false,rfl,hK false g' st _ _ O P' (S8.trans S') (Av _) ?_⟩
   have hz:st.nodes.length=4096:=by have:=of_decide_eq_true hz;omega
   rw[zc3,if_neg hx,if_pos hz];exact⟨rfl,rfl⟩
  have hz:¬st.nodes.length=4096:=λh=>by have:=of_decide_eq_false hz;omega
  have eV:zc3 s (d+1) key st=match zsf s (zc3 s d) st.nodes.length (Z9 st.kind) (st.open key)with
   |.inl st'=>.inl (st'.setTo st.nodes.length)
   |.inr e=>.inr e:=by rw[zc3,if_neg hx,if_neg hz];rfl
  have rd:=W.rd
  have hl:=(rowLen W.rd).1
  rw[er]at rd hl
  rw[AN]at hl
  obtain⟨tb,o,e1,e2,e3,e4⟩:=z9p W.ag rd (k:=0) (by simp)
  have bz:st.kind=t.1:=by unfold PSt.kind;rw[er]
  have be:bp<h8.size:=W.blk.lt
  have aM:∀c,O c->c<g.size:=λc h=>(P.own h).2.1
  refine⟨_,B8.cell rfl,_,rfl,sl,by rw[Qd];exact W.blk.cell rfl,_,B8.cell rfl,_,B8.cell rfl,_,rfl,sl,by rw[Qd];exact W.blk.cell rfl,_,B8.cell rfl,_,rfl,rs,by rw[Qd];exact W.blk.cell rfl,_,⟨e1,by omega,by omega⟩,t.2.1,t.2.2,?_,key.1,key.2,bC.ld (cs:=[.int .i64 key.1,.int .i64 key.2]),rfl,rfl,rfl,?_⟩
  ·rw[Qd,Qd]
   exact⟨by rw[Qd];exact e3,by rw[Qd];exact e4,trivial⟩
  intro ai
  have af:Keep h8.size h8 ai:=Keep.push _ _ (Av _)
  have ca:ai.size=h8.size+1:=AM _
  have bi:Blk ai h8.size (ndC ((Z9 st.kind,t.2,key,[],[]),ax0)).toArray:=Blk.new _ _ _
  clear_value ai
  refine⟨by rw[Qd];exact af.get bp be,af.get g.size (by omega),af.get g.size (by omega),?_⟩
  have bL:NSt lo h8 M na sl b ai na cs:=⟨W.ns.frame af.size λc hc=>af.get c (W.ns.own hc).2.1,af.size,λc h=>.inl h,λj hj _=>af.get j hj⟩
  obtain⟨aj,a8⟩:=W.nst bL
  have aY:lo<=ai.size:=by have:=(aj.own (.inl rfl));omega
  refine NS.push qd9 (by omega) aj.ag aY aj.ns (x:=(Z9 st.kind,t.2,key,[],[])) rfl rfl bi (by omega) λs' bT b' cs' bJ bZ aV aA=>⟨s',rfl,_,rfl,?_⟩
  have bH:¬nsO na sl b g.size:=λh=>by have:=aM g.size (by rw[eO];exact .inr h);omega
  refine⟨(aA g.size (by omega) bH).trans (af.get g.size (by omega)),?_⟩
  rw[Qd]
  have aH:¬nsO (na++[((Z9 st.kind,t.2,key,[],[]),ax0)]) s' b' bp:=λh=>by
   rcases aV bp h with h|h
   ·exact W.nb h
   ·omega
  have aQ:=aj.blk.keep (aA bp (by omega) aj.nb)
  refine Ji qfg qfh aQ (by show 4<7;omega) rfl λaF u1 u2 u3=>?_
  have ba:PW lo aF M bp s st.rest st.last a e rs lf (na++[((Z9 st.kind,t.2,key,[],[]),ax0)]) s' b' cs':=by
   refine⟨u1,W.rd,bJ.frame (by omega) λc hc=>u3 c λh=>aH (h ▸ hc),zp7 aj.ag λj hj hm=>?_,W.bl,aH⟩
   rw[u3 j λh=>hm (h ▸ W.bl.2)]
   exact aA j hj λh=>hm (aj.ns.own h).2.2
  have bQ:Stp ai (ppO bp na sl b) aF (ppO bp (na++[((Z9 st.kind,t.2,key,[],[]),ax0)]) s' b'):=by
   refine⟨by omega,λc h=>?_,λj hj hn=>?_⟩
   ·rcases h with h|h
    ·exact .inl (.inl h)
    ·rcases aV c h with h|h
     ·exact .inl (.inr h)
     ·exact .inr h
   ·rw[u3 j λh=>hn (.inl h)]
    exact aA j hj λh=>hn (.inr h)
  have aZ:PaS lo aF M bp s ⟨st.rest,st.last,st.nodes++[(Z9 st.kind,t.2,key,[],[])]⟩ a e (ppO bp (na++[((Z9 st.kind,t.2,key,[],[]),ax0)]) s' b'):=⟨rs,lf,_,_,_,_,ba,by rw[CG,aG];rfl,rfl⟩
  have ak:Stp h8 O aF (ppO bp (na++[((Z9 st.kind,t.2,key,[],[]),ax0)]) s' b'):=by rw[eO];exact a8.trans bQ
  generalize ppO bp (na++[((Z9 st.kind,t.2,key,[],[]),ax0)]) s' b'=O45 at aZ ak
  have an:¬O g.size:=λh=>by have:=aM _ h;omega
  have bu:=B8.keep (ak.fr g.size (by omega) an)
  refine⟨_,bu.cell rfl,zsn aZ aE λZ ay bq=>⟨rfl,?_⟩⟩
  have bg:(⟨st.rest,st.last,st.nodes++[(Z9 st.kind,t.2,key,[],[])]⟩:PSt).skip=st.open key:=by
   unfold PSt.skip PSt.open
   rw[bz]
   dsimp only
   rw[er]
  rw[bg]at ay
  have ae:=ak.trans bq
  have bo:=ae.le
  have au:∀c,c<h8.size->¬O c->¬O45 c:=λc hc hn h=>by
   rcases ak.sub c h with h|h
   ·exact hn h
   ·omega
  have aB:=B8.keep (ae.fr g.size (by omega) an)
  have am:=zz4 (key:=key) aE hz
  have bP:(st.open key).nodes.length=st.nodes.length+1:=znf aE
  intro bB aL
  have aJ:∀(bb:Bool) (g':Za) (st':PSt) (a' e':Int) (O':Nat->Prop),PaS lo g' M bp s st' a' e' O'->Stp g O g' O'->(st.open key).nodes.length<=st'.nodes.length->g'[g.size]?=Z[g.size]?->Ans (zsf s (zc3 s d) st.nodes.length (Z9 st.kind) (st.open key)) bb st' a' e'->bB bb g':=by
   intro bb g' st' a' e' O' P' S' n' bm A'
   refine aL bb g' ?_
   have B':=aB.keep bm
   obtain⟨cb,bY,a6,bS,b1,cd,W1,ar,br⟩:=P'
   have aU:st.nodes.length<a6.length:=by
    have:a6.length=st'.nodes.length:=by rw[<-ar,BN]
    omega
   obtain⟨q1,q2,q3,q4,q5⟩:=W1.ns.cell aU
   refine⟨_,B'.cell rfl,_,rfl,bS,by rw[Qd];exact W1.blk.cell rfl,_,B'.cell rfl,_,rfl,st'.last,by rw[Qd,Qd];exact W1.blk.cell rfl,⟨b1,0,none⟩,⟨q1,by omega,by have:=W1.ns.len;omega⟩,?_⟩
   rw[Qd,Qd,Qd,AK,AX,az]
   refine Ji z5j z5k q2 (by omega) rfl λg2 u1 u2 u3=>?_
   obtain⟨W2,S2⟩:=W1.nst (W1.ns.toB aU u1 u2 u3)
   refine hK bb g2 (st'.setTo st.nodes.length) a' e' _ ⟨_,_,_,_,_,_,W2,?_,rfl⟩ (S'.trans (by rw[br];exact S2)) (by rw[zji];omega) ?_
   ·rw[zep (f':=z8b st'.last) (λp=>rfl),ar];rfl
   ·rw[eV]
    cases hr:zsf s (zc3 s d) st.nodes.length (Z9 st.kind) (st.open key)with
    |inl x=>rw[hr]at A';exact⟨A'.1,by rw[A'.2]⟩
    |inr x=>rw[hr]at A';exact A'
  have aS:Ar .i64 (33-((d+1:Nat):Int)+1)=33-(d:Int):=by rw[w64 (by omega)];omega
  have b9:=am.t
  refine⟨λh5=>⟨_,aB.cell rfl,_,aB.cell rfl,?_⟩,λh5=>⟨λh6=>?_,λh6=>?_⟩⟩
  ·have h5:Z9 st.kind=5:=by simpa using h5
   refine z0o (J:=λ_=>False) (D:=λ_=>False) (HI:=λ_ _=>True) (kid:=zhs (zc3 s d)) (λ_ _ _ _ _=>trivial) aS (z8z ih) (zz3 aO) (by kernel_rfl) (by omega) ay trivial (λj hj=>hj.elim) (am.m h4) (by omega) (λx hx=>hw x (am.w x hx)) (by omega) λbb g' st' a' e' O' P' S' n' A'=>⟨bb,rfl,aJ bb g' st' a' e' O' P' ?_ n' ?_ ?_⟩
   ·exact(S8.trans ae).trans ⟨S'.le,S'.sub,λj hj hn=>S'.fr j hj hn (λh=>h)⟩
   ·exact S'.fr g.size (by omega) (au _ (by omega) an) (λh=>h)
   ·rw[az]at A';unfold zsf;rw[if_pos h5];exact A'
  ·have h5:¬Z9 st.kind=5:=by simpa using h5
   have h6:Z9 st.kind=6:=by simpa using h6
   intro aa aC
   have bn:Keep Z.size Z aa:=Keep.push _ _ (Av _)
   have aT:Keep aa.size aa aC:=Keep.push _ _ (Av _)
   have z65:aa.size=Z.size+1:=AM _
   have cc:aC.size=aa.size+1:=AM _
   have bI:MapAt aa Z.size []:=MapAt.new _
   have bO:Blk aC aa.size #[.map none]:=Blk.new _ _ _
   clear_value aa aC
   refine Ji qfi qfj bO (by show 0<1;omega) rfl λaI u1 u2 u3=>?_
   have ap:Keep Z.size Z aI:=⟨by omega,λj hj=>by rw[u3 j (by omega),aT.get j (by omega),bn.get j hj]⟩
   have bA:MapAt aI Z.size []:=(bI.keep (aT.get _ (by omega))).keep (u3 _ (by omega))
   have bE:=ay.keep ap
   have aP:=aB.keep (ap.get g.size (by omega))
   have bU:Stp Z O45 aI O45:=Stp.keep ap
   have aN:∀c,O45 c->c<Z.size:=λc h=>(ay.own h).2.1
   have bj:∀c,g.size<=c->M c=none:=λc hc=>by
    cases e:M c with
    |none=>rfl
    |some x=>have:=P.ag.lt e;omega
   refine⟨_,aP.cell rfl,?_⟩
   refine z0o (J:=λj=>j=Z.size) (D:=λj=>j=g.size\/j=aa.size\/j=Z.size) (HI:=λσ g'=>Blk g' g.size #[.pointer (some ⟨bp,0,none⟩)]/\Blk g' aa.size #[.map (some Z.size)]/\qcr Z.size σ g') (kid:=zse s (zc3 s d)) (λσ x y hx hf=>⟨hx.1.keep (hf _ (.inl rfl)),hx.2.1.keep (hf _ (.inr (.inl rfl))),?_⟩) aS ?_ (z5c aO) (by kernel_rfl) (by omega) bE ⟨aP,u1,[],bA,λk=>rfl⟩ (λj hj=>?_) (am.m h4) (by omega) (λx hx=>hw x (am.w x hx)) (by omega) λbb g' st' a' e' O' P' S' n' A'=>⟨bb,rfl,aJ bb g' st' a' e' O' P' ?_ n' ?_ ?_⟩
   ·obtain⟨l,ml,mk⟩:=hx.2.2
    exact⟨l,ml.keep (hf _ (.inr (.inr rfl))),mk⟩
   ·intro σ x b8 a1 e1 O1 P1 I1 J1 bD bM bG K1 bh
    show XC Tp _ #[.int .i64 (33-(d:Int)),.pointer (some ⟨g.size,0,none⟩),.pointer (some ⟨aa.size,0,none⟩)] x K1
    apply zbr
    refine⟨_,I1.1.cell rfl,_,I1.2.1.cell rfl,?_⟩
    refine qbv hg hM hs ih (J:=λj=>j=g.size\/j=aa.size\/j=Z.size) (.inr (.inr rfl)) P1 I1.2.2 J1 bD bM bG (λj hj=>bj j (by omega)) λbb g' st' a' e' O' σ' P' S' n' H' A'=>⟨bb,rfl,bh bb g' st' a' e' O' σ' P' S' n' (λhb=>⟨I1.1.keep ?_,I1.2.1.keep ?_,H' hb⟩) A'⟩
    ·have:=J1 g.size (.inl rfl)
     exact S'.fr _ this.1 this.2 (by omega)
    ·have:=J1 aa.size (.inr (.inl rfl))
     exact S'.fr _ this.1 this.2 (by omega)
   ·refine⟨by omega,λh=>?_⟩
    have:=aN j h
    rcases hj with rfl|rfl|rfl
    ·exact au _ (by omega) an h
    ·omega
    ·omega
   ·refine(S8.trans ae).trans ⟨by have:=S'.le;omega,λc h=>?_,λj hj hn=>?_⟩
    ·rcases S'.sub c h with h|h
     ·exact .inl h
     ·exact .inr (by omega)
    ·rw[S'.fr j (by omega) hn (by omega)];exact ap.get j hj
   ·rw[S'.fr g.size (by omega) (au _ (by omega) an) (by omega)];exact ap.get _ (by omega)
   ·rw[az]at A';unfold zsf;rw[if_neg h5,if_pos h6];exact A'
  ·have h5:¬Z9 st.kind=5:=by simpa using h5
   have h6:¬Z9 st.kind=6:=by simpa using h6
   refine aJ true Z (st.open key) a e O45 ay (S8.trans ae) (Av _) rfl ?_
   unfold zsf;rw[if_neg h5,if_neg h6];exact⟨rfl,rfl⟩
end
end
section
variable {s:Bs} {f a t:Nat} {k:Int}
theorem TkS.frame{h:Za}{M:Fr}{b2 b3 b4 b5 bc D l:Nat}{rec:zuq}{out:List Tk}{sl:Sl}{bs:List Nat}{g g':Za}(S:TkS h M b2 b3 b4 b5 bc D l rec s out sl bs g)(A:Apart h b2 b3 b4 b5 bc D l)(hz:g.size<=g'.size)(f:∀j,j<g.size->g'[j]?=g[j]?):TkS h M b2 b3 b4 b5 bc D l rec s out sl bs g':=by
 have ll:=lt_of_some S.rc
 have:=A.lo;have:=A.a3;have:=A.a4;have:=A.a5;have:=A.ac;have:=A.aD;have:=A.al
 have kz:=S.keep.size
 exact⟨⟨by omega,λj hj=>(f j (by omega)).trans (S.keep.get j hj)⟩,S.c.keep (f _ (by omega)),(f _ (by omega)).trans S.d,(f _ ll).trans S.rc,S.r2.keep (f _ (by omega)),S.r3.keep (f _ (by omega)),S.r4.keep (f _ (by omega)),S.r5.keep (f _ (by omega)),S.o.frame (λc hc=>f c (S.o.own c hc).2.1) (Fr.le.refl _) λc hc=>(S.o.own c hc).2.2⟩
theorem z3q{o:List Tk}(ha:a<s.length)(h:J5 s a=(k,t,0)):zbk (f+1) s a o=zbk f s t (o++[(k,((a:Int),(t:Int)))]):=by
 rw[zbk,if_pos ha,h];rfl
theorem z3r{k e:Int}{o:List Tk}(ha:a<s.length)(h:J5 s a=(k,t,e))(he:¬e=0):zbk (f+1) s a o=([],t,e):=by
 rw[zbk,if_pos ha,h];simp only;rw[if_neg he]
theorem z0p{o:List Tk}(ha:¬a<s.length):zbk f s a o=(o,a,0):=by
 cases f with
 |zero=>rfl
 |succ f=>rw[zbk,if_neg ha]
section
variable {h : Za} {M gl : Fr} {b2 b3 b4 b5 bc D l : Nat} {rec : zuq} {s : Bs} {sl : Sl} {bs : List Nat} {g : Za}
abbrev qea(b2 b3 b4 b5:Nat)(x9 x8 x0:Value):Env:=[(9,[],x9),(8,[],x8),(5,[],.pointer (some ⟨b5,0,none⟩)),(4,[],.pointer (some ⟨b4,0,none⟩)),(3,[],.pointer (some ⟨b3,0,none⟩)),(2,[],.pointer (some ⟨b2,0,none⟩)),(0,[],x0)]
set_option maxRecDepth 100000 in
set_option maxHeartbeats 4000000 in
theorem qeb(A:Apart h b2 b3 b4 b5 bc D l)(hg:GL gl)(hM:Fr.le gl M)(ag:AgM M h)(S:TkS h M b2 b3 b4 b5 bc D l rec s [] sl bs g){x9 x8 x0:Value}
  (ae:∀{v1 v2:Value} {h2:Za} {K:Value->Za->Prop},h2[l]?=some (.loop (rec .ready none))->zhd Tp 25 (rfA (codeOf Tryz.f60)) (rfB (codeOf Tryz.f60)) rec l K (putO (putO (qea b2 b3 b4 b5 x9 x8 x0) (some 10) [] v1) (some 11) [] v2) h2->YX Tp l #[v1,v2] h2 K)
  {Q:Za->Prop} (hN:∀g out sl bs,TkS h M b2 b3 b4 b5 bc D l rec s out sl bs g->Yr s=(out,s.length,0)->out.length<=100000->Q g)
  (hE:∀(g:Za) (t:Nat) (e:Int),¬e=0->Yr s=([],t,e)->Keep h.size h g->g[D]?=some (.deferred (some []))->g[l]?=some (.loop (rec .done (some .ret)))->Blk g b2 #[.slice none 0 0]->Blk g b3 #[.int .i64 (t:Int)]->Blk g b4 #[.int .i64 e]->Q g):
  XCI Tp 197 #[.func (.yield l) #[] #[],.pointer (some ⟨bc,0,none⟩)] g (λ_ g'=>Q g'):=by
 have:=A.lo;have:=A.a3;have:=A.a4;have:=A.a5;have:=A.ac;have:=A.aD;have:=A.al
 apply zp6
 refine⟨bl s,S.c.cell rfl,λab=>?_,λak=>?_⟩
 ·have af:65536<s.length:=by rw[Zf]at ab;simp at ab;omega
  refine ae S.rc (TkS.err A S (by omega) λg' q1 q2 q3 q4 q5 q6=>⟨false,rfl,?_⟩)
  refine hE g' 0 3 (by omega) ?_ q1 q2 q3 q4 q5 q6
  unfold Yr;rw[if_pos af]
 ·have aj:s.length<=65536:=by rw[Zf]at ak;simp at ak;omega
  have hR:Yr s=zbk s.length s 0 []:=by unfold Yr;rw[if_neg (by omega)]
  refine⟨λk g'=>∃(a f:Nat) (out:List Tk) (az:Sl) (aA:List Nat),k=(a:Int)/\a<=s.length/\s.length-a<=f/\out.length<=a/\Yr s=zbk f s a out/\TkS h M b2 b3 b4 b5 bc D l rec s out az aA g',λk _=>s.length-k.toNat,⟨0,s.length,[],sl,bs,rfl,by omega,by omega,Av _,hR,S⟩,?_⟩
  rintro k g1 ⟨a,f,out,aB,an,rfl,ha,hf,ho,hT,S1⟩
  refine⟨bl s,S1.c.cell rfl,λai=>⟨bl s,S1.c.cell rfl,?_⟩,λam=>?_⟩
  ·have aa:a<s.length:=by rw[Zf]at ai;simp at ai;omega
   obtain⟨f,rfl⟩:∃f',f=f'+1:=⟨f-1,by omega⟩
   have ar:AgM M g1:=ag.keep S1.keep
   refine qbi hg hM ar aj aa λg2 k2=>?_
   obtain⟨tk,t,e,Z⟩:∃k t e,J5 s a=(k,t,e):=⟨_,_,_,rfl⟩
   have z2:=k2.size
   by_cases he:e=0
   ·subst he
    have hp:=zcn aa (by rw[Z])
    rw[Z]at hp
    have aE:a<t:=hp.1
    have au:t<=s.length:=hp.2
    have ev:zp2 s a=.tuple #[.agg #[.int .i64 tk,.int .i64 (a:Int),.int .i64 (t:Int)],.int .i64 0]:=by unfold zp2;rw[Z,if_pos rfl]
    refine⟨tk,a,t,0,ev,?_⟩
    intro g3
    have k3:Keep g2.size g2 g3:=Keep.push _ _ (Av _)
    have z3:g3.size=g2.size+1:=AM _
    have B3:Blk g3 g2.size (zp1 0 0 0).toArray:=Blk.new _ _ _
    clear_value g3
    refine z8q B3 λg4 q1 q2 q3=>⟨tk,a,t,q3.ld,?_⟩
    have f4:∀j,j<g1.size->g4[j]?=g1[j]?:=λj hj=>by rw[q1 j (by omega),k3.get j (by omega),k2.get j hj]
    have S4:=S1.frame A (by omega) f4
    have ll:=lt_of_some S1.rc
    refine ae S4.rc (TkS.round A ag S4 (by omega) λg5 ap aC S5 z5 f5=>⟨true,rfl,λhx=>by simp at hx,λ_=>?_⟩)
    refine⟨t,?_,⟨t,f,_,ap,aC,rfl,au,by omega,?_,?_,S5⟩,?_⟩
    ·rw[Qd,Qd]
     refine(q3.keep (f5 g2.size (by omega) (by omega) (by omega) λhm=>?_)).cell rfl
     have:=(S1.o.own g2.size hm).2.1
     omega
    ·rw[AF];show out.length+1<=t;omega
    ·rw[hT,z3q aa Z]
    ·show s.length-(t:Int).toNat<s.length-(a:Int).toNat
     rw[AK,AK];omega
   ·have ev:=zh0 Z he
    refine⟨0,t,t,e,ev,?_⟩
    intro g3
    have k3:Keep g2.size g2 g3:=Keep.push _ _ (Av _)
    have z3:g3.size=g2.size+1:=AM _
    have B3:Blk g3 g2.size (zp1 0 0 0).toArray:=Blk.new _ _ _
    clear_value g3
    refine z8q B3 λg4 q1 q2 q3=>⟨0,t,t,q3.ld,?_⟩
    have f4:∀j,j<g1.size->g4[j]?=g1[j]?:=λj hj=>by rw[q1 j (by omega),k3.get j (by omega),k2.get j hj]
    have S4:=S1.frame A (by omega) f4
    refine ae S4.rc (TkS.err A S4 he λg5 w1 w2 w3 w4 w5 w6=>⟨false,rfl,λ_=>?_,λhx=>by simp at hx⟩)
    exact hE g5 t e he (by rw[hT,z3r aa Z he]) w1 w2 w3 w4 w5 w6
  ·have ah:¬a<s.length:=by rw[Zf]at am;simp at am;omega
   have ay:a=s.length:=by omega
   exact hN g1 out aB an S1 (by rw[hT,z0p ah,ay]) (by omega)
end
end
end Go.X
end
section
namespace Go.X
open Go Go.X Go.Proofs Go.RowKit
set_option maxRecDepth 100000 in
set_option maxHeartbeats 4000000 in
section
theorem z3s{gl M:Fr}(hg:GL gl)(hM:Fr.le gl M){h:Za}(ag:AgM M h){s:Bs}{K:Value->Za->Prop}
  (hK:∀(h':Za) (M':Fr) (t:Sl),Later h M h' M'->Rd M' (.row tTk) (Yr s).1 [slV t]->K (.tuple #[slV t,.int .i64 ((Yr s).2.1:Nat),.int .i64 (Yr s).2.2]) h'):
  XC Tp 60 #[.string (bl s)] h K:=by
 apply znm
 intro h1 h2 h3 h4
 have k1:Keep h.size h h1:=Keep.push _ _ (Av _)
 have k2:Keep h1.size h1 h2:=Keep.push _ _ (Av _)
 have k3:Keep h2.size h2 h3:=Keep.push _ _ (Av _)
 have k4:Keep h3.size h3 h4:=Keep.push _ _ (Av _)
 have z1:h1.size=h.size+1:=AM _
 have z2:h2.size=h1.size+1:=AM _
 have z3:h3.size=h2.size+1:=AM _
 have z4:h4.size=h3.size+1:=AM _
 have B1:Blk h1 h.size #[.slice none 0 0]:=Blk.new _ _ _
 have B2:Blk h2 h1.size #[.int .i64 0]:=Blk.new _ _ _
 have B3:Blk h3 h2.size #[.int .i64 0]:=Blk.new _ _ _
 have B4:Blk h4 h3.size #[.slice none 0 0]:=Blk.new _ _ _
 clear_value h4 h3 h2 h1
 apply zwd
 intro h5
 have k5:Keep h4.size h4 h5:=Keep.push _ _ (Av _)
 have z5:h5.size=h4.size+1:=AM _
 have B5:Blk h5 h4.size #[.string (bl s)]:=Blk.new _ _ _
 clear_value h5
 refine⟨_,rfl,_,_,rfl,by kernel_rfl,λrec ab=>?_⟩
 have e5:∀j,j<h.size->h5[j]?=h[j]?:=λj hj=>by rw[k5.get j (by omega),k4.get j (by omega),k3.get j (by omega),k2.get j (by omega),k1.get j hj]
 have A:Apart h h.size h1.size h2.size h3.size h4.size h5.size (h5.size+1):=⟨by omega,by omega,by omega,by omega,by omega,by omega,rfl⟩
 obtain⟨g0,aa⟩:∃g0,g0=(h5.push (.deferred (some []))).push (.loop (rec .ready none)):=⟨_,rfl⟩
 have gz:g0.size=h5.size+2:=by rw[aa,AM,AM]
 have ge:∀j,j<h5.size->g0[j]?=h5[j]?:=λj hj=>by rw[aa,Array.getElem?_push_lt (by rw[AM];omega)];rw[Array.getElem_push_lt hj,A0 hj]
 have gD:g0[h5.size]?=some (.deferred (some [])):=by rw[aa,Array.getElem?_push_lt (by rw[AM];omega),Array.getElem_push_eq]
 have ae:g0[h5.size+1]?=some (.loop (rec .ready none)):=by
  rw[aa]
  have:h5.size+1=(h5.push (.deferred (some []))).size:=by rw[AM]
  rw[this,Array.getElem?_push_size]
 rw[<-aa]
 clear aa
 have S:TkS h M h.size h1.size h2.size h3.size h4.size h5.size (h5.size+1) rec s [] ⟨none,0,0⟩ [] g0:=
  ⟨⟨by omega,λj hj=>(ge j (by omega)).trans (e5 j hj)⟩,B5.keep (ge _ (by omega)),gD,ae,
   B1.keep (by rw[ge _ (by omega),k5.get _ (by omega),k4.get _ (by omega),k3.get _ (by omega),k2.get _ (by omega)]),
   B2.keep (by rw[ge _ (by omega),k5.get _ (by omega),k4.get _ (by omega),k3.get _ (by omega)]),
   B3.keep (by rw[ge _ (by omega),k5.get _ (by omega),k4.get _ (by omega)]),
   B4.keep (by rw[ge _ (by omega),k5.get _ (by omega)]),.nil⟩
 refine qeb A hg hM ag S (x9:=_) (x8:=_) (x0:=_) ab ?_ ?_
 ·intro g out sl bs S' hT ho
  have ll:=lt_of_some S'.rc
  refine .inl ⟨S'.rc,?_⟩
  obtain⟨g6,Z⟩:∃g6,g6=g.setIfInBounds (h5.size+1) (.loop (rec .exhausted none)):=⟨_,rfl⟩
  have z6:g6.size=g.size:=by rw[Z,Bm]
  have f6:∀j,j≠h5.size+1->g6[j]?=g[j]?:=λj hj=>by rw[Z];exact Qu hj
  rw[<-Z]
  clear Z
  refine⟨sl,(S'.r5.keep (f6 _ (by omega))).cell rfl,?_⟩
  refine Ji z8v z8w (S'.r2.keep (f6 _ (by omega))) (by show 0<1;omega) rfl λg7 u1 u3 u2=>?_
  refine Ji qbm qbn (S'.r3.keep ((u2 _ (by omega)).trans (f6 _ (by omega)))) (by show 0<1;omega) rfl λg8 v1 v3 v2=>?_
  refine Ji qbo qbp (S'.r4.keep ((v2 _ (by omega)).trans ((u2 _ (by omega)).trans (f6 _ (by omega))))) (by show 0<1;omega) rfl λg9 w1 w3 w2=>?_
  have f9:∀j,j≠h5.size+1->j≠h.size->j≠h1.size->j≠h2.size->g9[j]?=g[j]?:=λj a1 a2 a3 a4=>by rw[w2 j a4,v2 j a3,u2 j a2,f6 j a1]
  refine⟨(f9 _ (by omega) (by omega) (by omega) (by omega)).trans S'.d,?_⟩
  have fx:∀j,j≠h5.size->(g9.setIfInBounds h5.size (.deferred none))[j]?=g9[j]?:=λj hj=>Qu hj
  have Bx:Blk (g9.setIfInBounds h5.size (.deferred none)) h.size #[slV sl]:=u1.keep (by rw[fx _ (by omega),w2 _ (by omega),v2 _ (by omega)])
  have By:Blk (g9.setIfInBounds h5.size (.deferred none)) h1.size #[.int .i64 (((bl s).size:Nat):Int)]:=v1.keep (by rw[fx _ (by omega),w2 _ (by omega)])
  have Bz:Blk (g9.setIfInBounds h5.size (.deferred none)) h2.size #[.int .i64 0]:=w1.keep (fx _ (by omega))
  refine⟨sl,Bx.cell rfl,_,By.cell rfl,0,Bz.cell rfl,?_⟩
  have kx:Keep h.size h (g9.setIfInBounds h5.size (.deferred none)):=by
   have:=S'.keep.size
   refine⟨by rw[Bm];omega,λj hj=>?_⟩
   rw[fx j (by omega),f9 j (by omega) (by omega) (by omega) (by omega)];exact S'.keep.get j hj
  have ow:=S'.o.own
  have ox:=S'.o.frame (h':=g9.setIfInBounds h5.size (.deferred none)) (λc hc=>by have:=ow c hc;rw[fx c (by omega),f9 c (by omega) (by omega) (by omega) (by omega)]) (Fr.le.refl M) λc hc=>(ow c hc).2.2
  have:=hK _ (MxL M (g9.setIfInBounds h5.size (.deferred none)) bs) sl (MxL.later ag kx λc hc=>by have:=ow c hc;omega) (by rw[hT];exact ox.rd (ag.keep kx) (λc hc=>hc) (by omega))
  rw[hT]at this
  rw[Zf]
  exact this
 ·intro g t e he hT kg gd gr q2 q3 q4
  refine .inr ⟨gr,?_⟩
  obtain⟨g6,Z⟩:∃g6,g6=g.setIfInBounds (h5.size+1) (.loop (rec .exhausted (some .ret))):=⟨_,rfl⟩
  have z6:g6.size=g.size:=by rw[Z,Bm]
  have f6:∀j,j≠h5.size+1->g6[j]?=g[j]?:=λj hj=>by rw[Z];exact Qu hj
  rw[<-Z]
  clear Z
  refine⟨(f6 _ (by omega)).trans gd,?_⟩
  have fx:∀j,j≠h5.size->(g6.setIfInBounds h5.size (.deferred none))[j]?=g6[j]?:=λj hj=>Qu hj
  have Bx:Blk (g6.setIfInBounds h5.size (.deferred none)) h.size #[.slice none 0 0]:=q2.keep (by rw[fx _ (by omega),f6 _ (by omega)])
  have By:Blk (g6.setIfInBounds h5.size (.deferred none)) h1.size #[.int .i64 (t:Int)]:=q3.keep (by rw[fx _ (by omega),f6 _ (by omega)])
  have Bz:Blk (g6.setIfInBounds h5.size (.deferred none)) h2.size #[.int .i64 e]:=q4.keep (by rw[fx _ (by omega),f6 _ (by omega)])
  refine⟨⟨none,0,0⟩,Bx.cell rfl,_,By.cell rfl,e,Bz.cell rfl,?_⟩
  have kx:Keep h.size h (g6.setIfInBounds h5.size (.deferred none)):=by
   have:=kg.size
   refine⟨by rw[Bm];omega,λj hj=>?_⟩
   rw[fx j (by omega),f6 j (by omega)];exact kg.get j hj
  have:=hK _ M ⟨none,0,0⟩ (Later.same ag kx) (by rw[hT];exact⟨_,rfl,none,0,rfl,⟨by simp,by simp⟩,.inl rfl⟩)
  rw[hT]at this
  exact this
end
end Go.X
end
section
namespace Go.X
open Go Go.X Go.Proofs Go.RowKit
section
theorem zp9:∀(f:Nat) (s:Bs) (a:Nat) (o:List Tk),(zbk f s a o).1.length<=o.length+f
 |0,s,a,o=>Nat.le_add_right _ _
 |f+1,s,a,o=>by
  rw[zbk]
  split
  ·split
   ·have:=zp9 f s (J5 s a).2.1 (o++[((J5 s a).1,((a:Int),((J5 s a).2.1:Int)))])
    rw[AF,List.length_singleton]at this;omega
   ·simp
  ·simp
end
section
variable {lo b:Nat} {g:Za} {M:Fr} {cs:Array Value}
def z1b(na:NA)(b:Nat):List Nat:=if na.length=0 then []else b::na.flatMap λp=>p.2.kb++p.2.pb
theorem z3t{na:NA}{sl:Sl}(H:NS lo g M na sl b cs){c:Nat}(h:c∈z1b na b):lo<=c:=by
 unfold z1b at h
 split at h
 ·cases h
 rename_i h0
 rcases Ay.1 h with rfl|h
 ·exact(H.lb (H.cell (n:=0) (by omega)).2.2.1).1
 ·obtain⟨p,hp,hc⟩:=BH.1 h
  exact((H.nd p hp).own (AP.1 hc)).1
theorem zso{na:NA}(h:0<na.length):z1b na b=b::na.flatMap λp=>p.2.kb++p.2.pb:=by unfold z1b;rw[if_neg (by omega)]
theorem NS.rd{na:NA}{sl:Sl}(H:NS lo g M na sl b cs)(ag:AgM M g)(hn:na.length<=4096)(hk:∀p∈na,ndW p.1<=1000000):Rd (MxL M g (z1b na b)) (.row tNd) (na.map (·.1)) [slV sl]:=by
 have hl:=H.len
 have hc:=H.cr.ro.le
 refine⟨_,rfl,sl.a,sl.cap,?_,⟨by rw[BN];omega,by rw[BN];omega⟩,?_⟩
 ·show slV _=_
  unfold slV;rw[BN,hl]
 ·by_cases h0:na=[]
  ·left;rw[h0];rfl
  ·have hp:0<na.length:=BC.2 h0
   obtain⟨h1,h2,h3,h4,h5⟩:=H.cell hp
   refine .inr ⟨b,0,cs,h1,MxL.at (by rw[zso hp];exact AC) h2,λi hi=>?_⟩
   rw[BN]at hi
   have hm:=BG hi
   obtain⟨q1,q2⟩:=H.cr.el i (ndC na[i]) (by rw[Ct,AE hi];rfl)
   rw[AX,show sz tNd=7 from rfl,q2,List.getElem_map]
   have I:=H.nd _ hm
   have hw:=hk _ hm
   unfold ndW at hw
   have r1:=I.kk.rd ag (all:=z1b na b) (λc hc=>by rw[zso hp];exact Aw _ (BH.2 ⟨_,hm,AP.2 (.inl hc)⟩)) (by omega)
   have r2:=I.pp.rd ag (all:=z1b na b) (λc hc=>by rw[zso hp];exact Aw _ (BH.2 ⟨_,hm,AP.2 (.inr hc)⟩)) (by omega)
   refine⟨[.int .i64 na[i].1.1],[.int .i64 na[i].1.2.1.1,.int .i64 na[i].1.2.1.2,.int .i64 na[i].1.2.2.1.1,.int .i64 na[i].1.2.2.1.2,slV na[i].2.ks,slV na[i].2.ps],rfl,rfl,?_⟩
   refine⟨[.int .i64 na[i].1.2.1.1,.int .i64 na[i].1.2.1.2],[.int .i64 na[i].1.2.2.1.1,.int .i64 na[i].1.2.2.1.2,slV na[i].2.ks,slV na[i].2.ps],rfl,⟨_,_,rfl,rfl,rfl⟩,?_⟩
   refine⟨[.int .i64 na[i].1.2.2.1.1,.int .i64 na[i].1.2.2.1.2],[slV na[i].2.ks,slV na[i].2.ps],rfl,⟨_,_,rfl,rfl,rfl⟩,?_⟩
   exact⟨[slV na[i].2.ks],[slV na[i].2.ps],rfl,r1,r2⟩
theorem z0q{x:Bs}{l:List Nd}{sl:Sl}(i j:Int)(h:Rd M (.row tNd) l [slV sl]):ze0 M [.pair .str (.row tNd),.int .i64,.int .i64] ((bl x,l),i,j) (.tuple #[.agg #[.string (bl x),slV sl],.int .i64 i,.int .i64 j]):=by
 refine⟨[.agg #[.string (bl x),slV sl],.int .i64 i,.int .i64 j],⟨_,_,rfl,?_,_,_,rfl,zbp _ i,_,rfl,zbp _ j⟩,rfl⟩
 exact⟨[.string (bl x),slV sl],rfl,[.string (bl x)],[slV sl],rfl,rfl,h⟩
theorem qbx{T:Ty}:Rd M (.row T) [] [slV ⟨none,0,0⟩]:=⟨_,rfl,none,0,rfl,⟨by simp,by simp⟩,.inl rfl⟩
theorem qec:Z6 Tp 36=true:=by kernel_rfl
theorem qed:Qh Tp 36=2:=by kernel_rfl
theorem zf4{x y:Value}(B:Blk g b #[x,y]){u:Bt}{v:Sl}{K:Za->Prop}(hK:∀g',(∀j,j≠b->g'[j]?=g[j]?)->g'.size=g.size->Blk g' b #[.string u,slV v]->K g'):
  XRunU Tp (AI 36 (.pointer (some ⟨b,0,none⟩)) (.agg #[.string u,slV v])) g K:=by
 refine zhc (vs:=[.string u,slV v]) qec B rfl qed (Av _) (λw hw=>?_) λg' q1 q2 q3=>hK g' q3 q2 q1
 simp at hw;rcases hw with rfl|rfl <;> rfl
theorem zqa{l:List Tk}{k:Nat}(hk:k<l.length):Q0 (l.take (k+1))=Q0 (l.take k)++(if l[k].1≠1 then [l[k]]else []):=by
 unfold Q0
 rw[Ba hk,List.filter_append]
 congr 1
 by_cases h:l[k].1=1
 ·simp[h]
 ·simp[h]
end
section
variable {s:Bs}
theorem z0r(h:(Yr s).2.2=0):s.length<=65536/\(Yr s).1.length<=s.length:=by
 unfold Yr at h ⊢
 split at h
 ·simp at h
 ·rename_i hh
  rw[if_neg hh]
  have:=zp9 s.length s 0 []
  rw[Bh,AX]at this
  exact⟨by omega,this⟩
set_option maxRecDepth 100000 in
set_option maxHeartbeats 4000000 in
theorem zqb{gl:Fr}(hg:GL gl){R:(Bt×List Nd)×Int×Int->Prop}(hR:R ((bl (zan s).1.1,(zan s).1.2),(zan s).2.1,(zan s).2.2)):
  PC Tp gl 19 [Arg.mk .str (bl s)] [.pair .str (.row tNd),.int .i64,.int .i64] R:=by
 intro h M vs hM ag ha
 match vs,ha with
 |[u1],⟨a1,_⟩=>
  obtain rfl:=Y1 (s:=bl s) a1
  apply PX.of
  apply zmz
  intro h1
  have k1:Keep h.size h h1:=Keep.push _ _ (Av _)
  have z1:h1.size=h.size+1:=AM _
  have B1:Blk h1 h.size #[.string ⟨#[]⟩,.slice none 0 0]:=Blk.new _ _ _
  clear_value h1
  have bF:AgM M h1:=ag.keep k1
  refine z3s hg hM bF λh3 M1 t L1 rt=>⟨t,_,_,rfl,?_⟩
  have B3:=B1.keep (L1.keep.get h.size (by omega))
  have z3:=L1.keep.size
  have k3:Keep h.size h h3:=k1.trans (c:=h3) (m:=h.size) ⟨z3,λj hj=>L1.keep.get j (by omega)⟩ (Av _)
  have bm:∀b,b<h.size->M1 b=M b:=λb hb=>L1.old b (by omega)
  have bS:M h.size=none:=by
   cases e:M h.size with
   |none=>rfl
   |some x=>have:=ag.lt e;omega
  have aU:M1 h.size=none:=by rw[L1.old _ (by omega)];exact bS
  refine⟨λhx=>?_,λhx=>?_⟩
  ·have hx:¬(Yr s).2.2=0:=by simpa using hx
   have eD:zan s=(([],[]),((Yr s).2.1:Int),(Yr s).2.2):=by unfold zan;rw[if_neg hx]
   rw[eD]at hR
   refine zf4 (u:=⟨#[]⟩) (v:=⟨none,0,0⟩) B3 λh7 f7 z7 B7=>⟨_,_,B7.ld (cs:=[.string ⟨#[]⟩,slV ⟨none,0,0⟩]),?_⟩
   exact⟨M,_,Later.same ag ⟨by omega,λj hj=>by rw[f7 j (by omega)];exact k3.get j hj⟩,z0q (x:=[]) (l:=[]) _ _ qbx,hR⟩
  have hx:(Yr s).2.2=0:=by simpa using hx
  obtain⟨hs,ba⟩:=z0r hx
  have eD:zan s=match zc3 s 32 (0,0) ⟨Q0 (Yr s).1,0,[]⟩with
   |.inl st=>if st.rest=[]then((s,st.nodes),(s.length:Int),0)else(([],[]),st.here s.length,2)
   |.inr e=>(([],[]),e.1,e.2):=by unfold zan;rw[if_pos hx];rfl
  have a7:=zwk (z3c s)
  generalize (Yr s).1=tl at rt ba eD a7
  have rl:=(rowLen rt).1
  intro aA
  have bo:Keep h3.size h3 aA:=Keep.push _ _ (Av _)
  have cm:aA.size=h3.size+1:=AM _
  have bC:Blk aA h3.size (ppC s ⟨none,0,0⟩ 0 0 ⟨none,0,0⟩ 0 0).toArray:=Blk.new _ _ _
  clear_value aA
  have a8:∀c,h3.size<=c->M1 c=none:=λc hc=>by
   cases e:M1 c with
   |none=>rfl
   |some x=>have:=L1.ag.lt e;omega
  refine⟨λk g=>∃(n:Nat) (rs:Sl) (bs:List Nat),k=(n:Int)/\n<=tl.length/\ORow (h3.size+1) g M1 tTk (Q0 (tl.take n)) rs bs/\Blk g h3.size (ppC s rs 0 0 ⟨none,0,0⟩ 0 0).toArray/\Keep h3.size h3 g,λk _=>tl.length-k.toNat,⟨0,⟨none,0,0⟩,[],rfl,by omega,.nil,bC,bo⟩,?_⟩
  rintro k g ⟨n,rs,bs,rfl,hn,ro,Bp,kg⟩
  have agg:AgM M1 g:=L1.ag.keep kg
  have zg:h3.size+1<=g.size:=by have:=Bp.lt;omega
  refine⟨λau=>?_,λbn=>?_⟩
  ·have au:n<tl.length:=by have:=of_decide_eq_true au;omega
   obtain⟨tb,o,e1,e2,e3,e4⟩:=z9p agg rt au
   have ar:=zqa au
   refine⟨_,⟨e1,by omega,by omega⟩,tl[n].1,tl[n].2.1,tl[n].2.2,?_,?_⟩
   ·rw[Qd,AK]
    exact⟨by rw[Qd];exact e2,by rw[Qd];exact e3,by rw[Qd];exact e4,trivial⟩
   intro az
   have bz:Keep g.size g az:=Keep.push _ _ (Av _)
   have bZ:az.size=g.size+1:=AM _
   have bT:Blk az g.size (zp1 0 0 0).toArray:=Blk.new _ _ _
   clear_value az
   refine z8q bT λab q1 q2 q3=>⟨tl[n].1,by rw[Qd];exact q3.cell rfl,?_⟩
   have aE:Keep g.size g ab:=⟨by omega,λj hj=>(q1 j (by omega)).trans (bz.get j hj)⟩
   have ae:=ro.frame (λc hc=>aE.get c (ro.own c hc).2.1) (Fr.le.refl M1) λc hc=>(ro.own c hc).2.2
   have am:=Bp.keep (aE.get _ (by omega))
   have aC:Keep h3.size h3 ab:=kg.trans (c:=ab) (m:=h3.size) ⟨by omega,λj hj=>aE.get j (by omega)⟩ (Av _)
   have aH:Ar .i64 ((n:Int)+1)=((n+1:Nat):Int):=by rw[w64 (by omega)];omega
   rw[aH]
   refine⟨λhb=>⟨_,rfl,rs,by rw[Qd];exact am.cell rfl,tl[n].1,tl[n].2.1,tl[n].2.2,q3.ld,?_⟩,λhb=>?_⟩
   ·have hb:tl[n].1≠1:=by simpa using hb
    rw[if_pos hb]at ar
    intro af
    have ay:Keep ab.size ab af:=Keep.push _ _ (Av _)
    have ca:af.size=ab.size+1:=AM _
    have bD:Blk af ab.size (zp1 tl[n].1 tl[n].2.1 tl[n].2.2).toArray:=Blk.new _ _ _
    clear_value af
    refine⟨by rw[Qd];exact ay.get h3.size (by omega),?_⟩
    have aV:=ae.frame (λc hc=>ay.get c (ae.own c hc).2.1) (Fr.le.refl M1) λc hc=>(ae.own c hc).2.2
    have aQ:=am.keep (ay.get _ (by omega))
    have aB:Keep h3.size h3 af:=aC.trans (c:=af) (m:=h3.size) ⟨by omega,λj hj=>ay.get j (by omega)⟩ (Av _)
    have bu:(Q0 (tl.take n)).length<=n:=by
     have:(Q0 (tl.take n)).length<=(tl.take n).length:=List.length_filter_le _ _
     rw[Bc]at this;omega
    refine ORow.app z5h (by omega) (L1.ag.keep aB) aV (by omega) bD (z5i _ _ _) (by omega) λs' cb bj aG b9 c29 aY=>⟨s',rfl,_,rfl,?_⟩
    rw[Qd]
    have bQ:h3.size∉bs:=λhm=>by have:=(ro.own _ hm).1;omega
    refine Ji qbs qbt (aQ.keep (aY _ (by omega) bQ)) (by show 1<7;omega) rfl λbG u1 u2 u3=>⟨⟨n+1,s',bj,rfl,by omega,?_,u1,?_⟩,?_⟩
    ·rw[ar]
     exact aG.frame (λc hc=>u3 c λe=>by have:=(aG.own c hc).1;omega) (Fr.le.refl M1) λc hc=>(aG.own c hc).2.2
    ·refine aB.trans (c:=bG) (m:=h3.size) ⟨by omega,λj hj=>?_⟩ (Av _)
     rw[u3 j (by omega),aY j (by omega) λhm=>by have:=(ro.own j hm).1;omega]
    ·show tl.length-((n+1:Nat):Int).toNat<tl.length-(n:Int).toNat
     omega
   ·have hb:¬tl[n].1≠1:=by simpa using hb
    rw[if_neg hb,Bu]at ar
    refine⟨⟨n+1,rs,bs,rfl,by omega,by rw[ar];exact ae,am,aC⟩,?_⟩
    show tl.length-((n+1:Nat):Int).toNat<tl.length-(n:Int).toNat
    omega
  ·have bL:n=tl.length:=by have:=of_decide_eq_false bn;omega
   subst bL
   rw[BL]at ro
   have bu:(Q0 tl).length<=tl.length:=List.length_filter_le _ _
   have br:=ro.rd agg (all:=bs) (λc hc=>hc) (by omega)
   have bO:AgM (MxL M1 g bs) g:=MxL.ag agg bs
   have aJ:∀c∈bs,h3.size+1<=c:=λc hc=>(ro.own c hc).1
   have aI:∀c,c∉bs->MxL M1 g bs c=M1 c:=λc hc=>by unfold MxL;rw[if_neg hc]
   have bM:Fr.le gl (MxL M1 g bs):=hM.trans (L1.le.trans (zt9 agg bs))
   have P:PaS h3.size g (MxL M1 g bs) h3.size s ⟨Q0 tl,0,[]⟩ 0 0 (ppO h3.size [] ⟨none,0,0⟩ 0):=by
    refine⟨rs,0,[],⟨none,0,0⟩,0,#[],⟨Bp,br,.nil,bO,⟨Av _,?_⟩,?_⟩,rfl,rfl⟩
    ·rw[aI _ λhm=>by have:=aJ _ hm;omega];exact a8 _ (Av _)
    ·rintro(⟨h1,_⟩|⟨p,hp,_⟩)
     ·exact h1 rfl
     ·cases hp
   have hT:(⟨Q0 tl,0,[]⟩:PSt).T<=200000:=by unfold PSt.T;simp;omega
   have be:=z3p (lo:=h3.size) (M:=MxL M1 g bs) (bp:=h3.size) (s:=s) hg bM hs 32 (Av _) (0,0) g _ 0 0 _ P (by simp) hT a7
   refine be _ λb bB st' a' e' O' P' S' n' A'=>⟨b,rfl,?_⟩
   intro bg aO
   have a6:∀(ok:Bool) (ah:Za) (aa:PSt) (a1 e1:Int) (O1:Nat->Prop),PaS h3.size ah (MxL M1 g bs) h3.size s aa a1 e1 O1->Stp g (ppO h3.size [] ⟨none,0,0⟩ 0) ah O1->(ok=false->zan s=(([],[]),a1,e1))->(ok=true->zan s=((s,aa.nodes),(s.length:Int),0)/\aa.nodes.length<=4096/\aa.T<=200000)->bg ok ah:=by
    intro ok ah aa a1 e1 O1 P1 S1 hf ht
    refine aO ok ah ?_
    have bJ:∀c,c<h3.size->¬ppO h3.size [] ⟨none,0,0⟩ 0 c:=λc hc=>by
     rintro(h1|⟨h1,_⟩|⟨p,hp,_⟩)
     ·omega
     ·exact h1 rfl
     ·cases hp
    have aF:∀j,j<h3.size->ah[j]?=h3[j]?:=λj hj=>(S1.fr j (by omega) (bJ j hj)).trans (kg.get j hj)
    have cc:=S1.le
    have Bd:=B3.keep (aF h.size (by omega))
    have bh:=P1
    obtain⟨aL,bi,ai,an,b1,aZ,W1,Z,bq⟩:=bh
    have bY:=W1.blk.lt
    refine⟨λho=>⟨_,rfl,a1,by rw[Qd];exact W1.blk.cell rfl,_,rfl,e1,by rw[Qd];exact W1.blk.cell rfl,rfl,rfl,?_⟩,λho=>⟨_,rfl,an,by rw[Qd];exact W1.blk.cell rfl,?_⟩⟩
    ·have ho:ok=false:=by simpa using ho
     refine zf4 (u:=⟨#[]⟩) (v:=⟨none,0,0⟩) Bd λcd aS b8 bI=>?_
     have ak:=aS h3.size (by omega)
     refine⟨by rw[Qd];exact ak,by rw[Qd];exact ak,by rw[Qd];exact ak,_,_,bI.ld (cs:=[.string ⟨#[]⟩,slV ⟨none,0,0⟩]),?_⟩
     rw[hf ho]at hR
     exact⟨M,_,Later.same ag ⟨by omega,λj hj=>by rw[aS j (by omega),aF j (by omega)];exact k3.get j hj⟩,z0q (x:=[]) (l:=[]) _ _ qbx,hR⟩
    ·have ho:ok=true:=by simpa using ho
     obtain⟨bE,cg,ck⟩:=ht ho
     refine zf4 (u:=bl s) (v:=an) Bd λap aN cj bH=>⟨_,_,bH.ld (cs:=[.string (bl s),slV an]),?_⟩
     rw[bE]at hR
     rw[Zf]
     have bA:MxL M1 g bs h.size=none:=by rw[aI _ λhm=>by have:=aJ _ hm;omega];exact aU
     have aP:NS h3.size ap (MxL M1 g bs) ai an b1 aZ:=W1.ns.frame (by omega) λc hc=>aN c λe=>by have:=(W1.ns.own hc).1;omega
     have aj:AgM (MxL M1 g bs) ap:=zp7 W1.ag λj hj hm=>aN j λe=>hm (e ▸ bA)
     have bU:ai.length=aa.nodes.length:=by rw[<-Z,BN]
     have aT:=aP.rd aj (by omega) λp hp=>by
      have:p.1∈aa.nodes:=by rw[<-Z];exact List.mem_map_of_mem hp
      have:=z8c this;omega
     rw[Z]at aT
     refine⟨MxL (MxL M1 g bs) ap (z1b ai b1),_,⟨⟨by omega,λj hj=>by rw[aN j (by omega),aF j (by omega)];exact k3.get j hj⟩,?_,λc hc=>?_,MxL.ag aj _⟩,z0q _ _ aT,hR⟩
     ·exact L1.le.trans ((zt9 agg bs).trans (zt9 aj _))
     ·have h1:c∉z1b ai b1:=λhm=>by have:=z3t aP hm;omega
      have e1:MxL (MxL M1 g bs) ap (z1b ai b1) c=MxL M1 g bs c:=by unfold MxL;rw[if_neg h1]
      rw[e1,aI c λhm=>by have:=aJ c hm;omega]
      exact bm c hc
   have bP:=P'
   obtain⟨aL,bi,ai,an,b1,aZ,W1,Z,bq⟩:=bP
   have cn:=(rowLen W1.rd).1
   refine⟨_,λ_=>rfl,aL,λ_=>by rw[Qd];exact W1.blk.cell rfl,λhc=>?_,λhc=>?_⟩
   ·have hb:b=true/\0<st'.rest.length:=by
     cases b with
     |false=>simp at hc
     |true=>simp at hc;exact⟨rfl,by omega⟩
    refine zbl P' λg' P2 S2=>⟨false,rfl,a6 false g' st' _ _ O' P2 (S'.trans S2) (λ_=>?_) (λh=>(by cases h))⟩
    rw[eD]
    cases hr:zc3 s 32 (0,0) ⟨Q0 tl,0,[]⟩with
    |inl x=>
     rw[hr]at A'
     rw[A'.2]at hb ⊢
     dsimp only
     rw[if_neg λe=>by rw[e]at hb;simp at hb]
    |inr x=>rw[hr]at A';rw[A'.1]at hb;exact absurd hb.1 (by simp)
   ·refine a6 b bB st' a' e' O' P' S' (λhb=>?_) (λhb=>?_)
    ·rw[eD]
     cases hr:zc3 s 32 (0,0) ⟨Q0 tl,0,[]⟩with
     |inl x=>rw[hr]at A';rw[A'.1]at hb;cases hb
     |inr x=>rw[hr]at A';rw[A'.2]
    ·subst hb
     have hz:st'.rest=[]:=by
      have:¬0<aL.len:=by simpa using hc
      exact Bj.1 (by omega)
     cases hr:zc3 s 32 (0,0) ⟨Q0 tl,0,[]⟩with
     |inl x=>
      rw[hr]at A' eD
      have aM:=zpx s 32 _ _ _ hr
      rw[<-A'.2]at aM eD
      dsimp only at eD
      rw[if_pos hz]at eD
      exact⟨eD,aM.m (by simp),by have:=aM.t;omega⟩
     |inr x=>rw[hr]at A';exact absurd A'.1 (by simp)
end
end Go.X
end
section
namespace Go.X
section
theorem zqc(s0:Bt)(h:Za)(R:Value->Za->Prop)
  (H:let b:=h.push (.cells #[.int .i64 0,.string (⟨#[]⟩:Bt),.slice none 0 0,.slice none 0 0] 26);XC Tp 19 #[.string s0] b (λc d=>∃e f g i,c=.tuple #[.agg #[.string e,slV f],.int .i64 g,.int .i64 i]/\let j:=d.push (.cells #[.string (⟨#[]⟩:Bt),.slice none 0 0] 36);XRunU Tp (AI 36 (.pointer (some ⟨d.size,0,none⟩)) (.agg #[.string e,slV f])) j (λk=>((i != 0)=true->XRunU Tp (AI 26 (.pointer (some ⟨h.size,0,none⟩)) (.agg #[.int .i64 0,.string (⟨#[]⟩:Bt),.slice none 0 0,.slice none 0 0])) k (λl=>∃m n o p,Zb l ⟨h.size,0,none⟩ 0 [.int .i64 m,.string n,slV o,slV p]/\R (.tuple #[.agg #[.int .i64 m,.string n,slV o,slV p],.int .i64 g,.int .i64 i]) l))/\((i != 0)=false->∃q r,Zb k ⟨d.size,0,none⟩ 0 [.string q,slV r]/\XC Tp 59 #[.agg #[.string q,slV r],.int .i64 0,.int .i64 1] k (λs t=>∃u v w x,s=.agg #[.int .i64 u,.string v,slV w,slV x]/\XRunU Tp (AI 26 (.pointer (some ⟨h.size,0,none⟩)) (.agg #[.int .i64 u,.string v,slV w,slV x])) t (λy=>∃z A B C,Zb y ⟨h.size,0,none⟩ 0 [.int .i64 z,.string A,slV B,slV C]/\R (.tuple #[.agg #[.int .i64 z,.string A,slV B,slV C],.int .i64 g,.int .i64 0]) y)))))):
  XC Tp 15 #[.string s0] h R:=
 XF ⟨[],[],[]⟩ [.cell 2 26,.tmp 3,.tmp 4] 22 Tryz.func15 H
end
end Go.X
end
section
namespace Go.X
open Go Go.X Go.Proofs Go.RowKit
section
variable {s:Bs} {M:Fr}
theorem z0s(h:(zan s).2.2=0):(Yr s).2.2=0:=by
 unfold zan at h
 split at h
 ·assumption
 ·exact h
theorem qby{x:Bs×List Nd}{i j:Int}{v:Value}(h:ze0 M [.pair .str (.row tNd),.int .i64,.int .i64] ((bl x.1,x.2),i,j) v):∃sl:Sl,v=.tuple #[.agg #[.string (bl x.1),slV sl],.int .i64 i,.int .i64 j]/\Rd M (.row tNd) x.2 [slV sl]:=by
 obtain⟨vs,⟨v1,rest,rfl,hx,v2,Z,rfl,hy,v3,rfl,hz⟩,rfl⟩:=h
 rw[Zy hy,Zy hz]
 obtain⟨cs,rfl,c1,c2,rfl,e1,e2⟩:=hx
 have e1:c1=[.string (bl x.1)]:=e1
 subst e1
 obtain⟨sl,rfl⟩:∃sl:Sl,c2=[slV sl]:=by
  obtain⟨w,e,a,c,q,_⟩:=e2
  exact⟨⟨a,_,c⟩,by rw[e,q];rfl⟩
 exact⟨sl,rfl,e2⟩
set_option maxRecDepth 100000 in
set_option maxHeartbeats 2000000 in
theorem qbz{gl:Fr}(hg:GL gl){h:Za}(hM:Fr.le gl M)(ag:AgM M h){K:Value->Za->Prop}
  (hK:∀(h':Za) (bs:List Nat) (sk si:Sl),Keep h.size h h'->OT h' (zcq s).1 bs (Jr (zcq s).1 sk si)->(∀b∈bs,h.size<=b)->K (.tuple #[.agg #[.int .i64 (zcq s).1.kind,.string (zcq s).1.text,slV sk,slV si],.int .i64 (zcq s).2.1,.int .i64 (zcq s).2.2]) h'):
  XC Tp 15 #[.string (bl s)] h K:=by
 apply zqc
 intro h1
 have k1:Keep h.size h h1:=Keep.push _ _ (Av _)
 have z1:h1.size=h.size+1:=AM _
 have R1:Blk h1 h.size #[.int .i64 0,.string ⟨#[]⟩,.slice none 0 0,.slice none 0 0]:=Blk.new _ _ _
 clear_value h1
 refine(zqb hg (s:=s) (R:=λr=>r=((bl (zan s).1.1,(zan s).1.2),(zan s).2.1,(zan s).2.2)) rfl).go hM (ag.keep k1) (Qw (a:=Arg.mk .str _) (rdStr _) Yk) λv h3 M' r L hv hr=>?_
 subst hr
 obtain⟨sl,rfl,rd⟩:=qby hv
 refine⟨_,sl,_,_,rfl,?_⟩
 have k3:=L.keep
 have z3:=k3.size
 have af:Keep h.size h h3:=k1.trans (c:=h3) (m:=h.size) ⟨z3,λj hj=>k3.get j (by omega)⟩ (Av _)
 have R3:=R1.keep (k3.get h.size (by omega))
 intro h8
 have k8:Keep h3.size h3 h8:=Keep.push _ _ (Av _)
 have z8:h8.size=h3.size+1:=AM _
 have D8:Blk h8 h3.size #[.string ⟨#[]⟩,.slice none 0 0]:=Blk.new _ _ _
 clear_value h8
 refine zf4 (u:=bl (zan s).1.1) (v:=sl) D8 λh9 f9 z9 D9=>?_
 have k9:Keep h3.size h3 h9:=⟨by omega,λj hj=>(f9 j (by omega)).trans (k8.get j hj)⟩
 have aa:Keep h.size h h9:=af.trans (c:=h9) (m:=h.size) ⟨k9.size,λj hj=>k9.get j (by omega)⟩ (Av _)
 have R9:=R3.keep (k9.get h.size (by omega))
 refine⟨λhx=>?_,λhx=>?_⟩
 ·have hx:¬(zan s).2.2=0:=by simpa using hx
  have eR:zcq s=(.mk 0 (bl []) [] [],(zan s).2.1,(zan s).2.2):=by unfold zcq;rw[if_neg hx]
  rw[eR]at hK
  refine zbm (k:=0) (s:=⟨#[]⟩) (sk:=⟨none,0,0⟩) (si:=⟨none,0,0⟩) R9 λg f z B=>⟨_,_,_,_,B.ld (cs:=[.int .i64 0,.string ⟨#[]⟩,slV ⟨none,0,0⟩,slV ⟨none,0,0⟩]),?_⟩
  obtain⟨bs,ot,ae⟩:=(Own.new (lo:=h.size) (hi:=g.size) (b0:=h.size) (k:=0) (s:=bl []) B (Av _) (Av _)).ot
  exact hK g bs ⟨none,0,0⟩ ⟨none,0,0⟩ (aa.trans (c:=g) (m:=h.size) ⟨by omega,λj hj=>f j (by omega)⟩ (Av _)) ot (λb hb=>(ae b hb).1)
 ·have hx:(zan s).2.2=0:=by simpa using hx
  obtain⟨lvs,G,e1,e2,e3,e4⟩:=zpy hx
  obtain⟨hs,ah⟩:=z0r (z0s hx)
  have eR:zcq s=(Je s (zan s).1.2 33 0,(s.length:Int),0):=by unfold zcq;rw[if_pos hx]
  rw[eR]at hK
  rw[e1]at D9
  rw[e2]
  refine⟨_,sl,D9.ld (cs:=[.string (bl s),slV sl]),?_⟩
  have ab:AgM M' h9:=L.ag.keep k9
  refine z0n hg hs G (λx hx=>by have:=e4 x hx;unfold ndW at this;omega) 33 0 1 1 rfl (by omega) (by omega) (by omega) h9 M' sl (hM.trans L.le) ab rd _ λaj bs sk si Z ot hb=>⟨_,_,sk,si,rfl,?_⟩
  have ai:=Z.size
  refine zbm (R9.keep (Z.get h.size (by omega))) λg f z B=>⟨_,_,sk,si,B.ld (cs:=[_,_,slV sk,slV si]),?_⟩
  exact hK g bs sk si (aa.trans (c:=g) (m:=h.size) ⟨by omega,λj hj=>by rw[f j (by omega)];exact Z.get j (by omega)⟩ (Av _)) (ot.frame λc hc=>f c (by have:=hb c hc;omega)) (λc hc=>by have:=hb c hc;omega)
end
section
theorem qee{M:Fr}{t:Bs}{nodes:List Nd}{u:Value}(h:RdV M zul (bl t,nodes) u):∃sl:Sl,u=.agg #[.string (bl t),slV sl]/\Rd M (.row tNd) nodes [slV sl]:=by
 obtain⟨cs,rfl,c1,c2,rfl,e1,e2⟩:=h
 have e1:c1=[.string (bl t)]:=e1
 subst e1
 obtain⟨sl,rfl⟩:∃sl:Sl,c2=[slV sl]:=by
  obtain⟨w,e,a,c,q,_⟩:=e2
  exact⟨⟨a,_,c⟩,by rw[e,q];rfl⟩
 exact⟨sl,rfl,e2⟩
section
variable {t : Bs} {nodes : List Nd} {lvs : List Nat} {gl : Fr}
theorem z0t(hg:GL gl)(ht:t.length<=65536)(G:GoodN lvs nodes)(Z:∀x∈nodes,x.2.2.2.1.length<=200000){k l:Nat}{L:Int}(hl:lvs[k]?=some l)(h1:1<=L)(h2:L<=(l:Int)){R:Tr->Prop}(hR:R (Je t nodes 33 k)):PC Tp gl 59 [Arg.mk zul (bl t,nodes),Arg.mk (.int .i64) (k:Int),Arg.mk (.int .i64) L] [.tree] R:=by
 intro h M vs hM ag ha
 match vs,ha with
 |[u1,u2,u3],⟨a1,a2,a3,_⟩=>
  obtain⟨sl,rfl,rd⟩:=qee a1
  obtain rfl:=Zy (i:=(k:Int)) a2
  obtain rfl:=Zy (i:=L) a3
  apply PX.of
  exact z0n hg ht G Z 33 k l L hl (by omega) h1 h2 h M sl hM ag rd _ λh' bs sk si k' ot hb=>⟨MxL M h' bs,_,MxL.later ag k' hb,zqn.2 ot.rdv,hR⟩
def z81(t:Bs)(nodes:List Nd)(k:Int):Tr×Bool:=if 0<=k/\k<(nodes.length:Int)then(Je t nodes 33 k.toNat,true)else(.mk 0 (bl []) [] [],false)
theorem z9a(hg:GL gl)(ht:t.length<=65536)(G:GoodN lvs nodes)(Z:∀x∈nodes,x.2.2.2.1.length<=200000){k:Int}{R:Tr×Bool->Prop}(hR:R (z81 t nodes k)):PC Tp gl 21 [Arg.mk zul (bl t,nodes),Arg.mk (.int .i64) k] [.tree,.bool] R:=by
 apply zpm
 unfold z81 at hR
 have e:(bif (decide ((k:Int)<0))then true else(decide ((k:Int)>=((Db nodes:Nat):Int))))=decide (¬(0<=k/\k<(nodes.length:Int))):=by
  rw[A6]
  simp only[Bool.cond_eq_ite,Bool.if_true_left,Cb,decide_eq_true_eq]
  omega
 dsimp only
 rw[e]
 refine⟨λhx=>?_,λhx=>?_⟩
 ·rw[if_neg (of_decide_eq_true hx)]at hR;exact hR
 ·have hx:0<=k/\k<(nodes.length:Int):=Decidable.not_not.1 (of_decide_eq_false hx)
  rw[if_pos hx]at hR
  obtain⟨j,rfl⟩:∃j:Nat,k=(j:Int):=⟨k.toNat,by omega⟩
  rw[AK]at hR
  have hj:j<lvs.length:=by rw[G.len];omega
  have aa:=G.lv j _ (AE hj)
  refine z0t hg ht G Z (AE hj) (by omega) (by omega) ?_
  have et:Tr.mk (Je t nodes 33 j).kind (Je t nodes 33 j).text (Je t nodes 33 j).keys (Je t nodes 33 j).items=Je t nodes 33 j:=by cases Je t nodes 33 j;rfl
  rw[et];exact hR
theorem zno(hg:GL gl){s:Bs}{R:Tr×Int×Int->Prop}(hR:R (zcq s)):PC Tp gl 15 [Arg.mk .str (bl s)] [.tree,.int .i64,.int .i64] R:=by
 intro h M vs hM ag ha
 match vs,ha with
 |[u1],⟨a1,_⟩=>
  obtain rfl:=Y1 (s:=bl s) a1
  apply PX.of
  exact qbz hg hM ag λh' bs sk si k' ot hb=>⟨MxL M h' bs,_,MxL.later ag k' hb,⟨[_,_,_],⟨_,_,rfl,ot.rdv,_,_,rfl,zbp _ _,_,rfl,zbp _ _⟩,rfl⟩,hR⟩
end
end
end Go.X
end
section
namespace Go.X
open Go Go.Lib
section
theorem zus(x:Bt):∀(l:List Bt) (i:Nat),(idxFromS l x i=-1/\x∉l)\/∃k:Nat,idxFromS l x i=((i+k:Nat):Int)/\k<l.length/\l[k]?=some x
 |[],i=>.inl ⟨rfl,by simp⟩
 |z::l,i=>by
  unfold idxFromS
  by_cases h:z=x
  ·rw[if_pos h];exact .inr ⟨0,rfl,by simp,by simp[h]⟩
  ·rw[if_neg h]
   rcases zus x l (i+1)with⟨h1,h2⟩|⟨k,h1,h2,h3⟩
   ·exact .inl ⟨h1,by simp[h2];exact λe=>h e.symm⟩
   ·exact .inr ⟨k+1,by rw[h1];congr 1;omega,by simp;omega,by simpa using h3⟩
def zqd(v:Tr)(s:Bt):Int:=if v.kind=6 then idxOfS v.keys s else if v.kind=5 then(if(zpr (lb s)).2=true/\(zpr (lb s)).1<v.items.length then(zpr (lb s)).1 else -1)else -1
end
section
variable {t:Bs} {k:Nat}
def z9b(t:Bs)(nodes:List Nd)(k:Nat)(s:Bt):Int:=match nodes[k]? with
 |none=>-1
 |some x=>if 0<=zqd (Je t nodes 33 k) s then x.2.2.2.1.getD (zqd (Je t nodes 33 k) s).toNat (-1)else -1
def atP(t:Bs)(nodes:List Nd):Nat->List Bt->Option Nat
 |k,[]=>some k
 |k,s::p=>if 0<=z9b t nodes k s then atP t nodes (z9b t nodes k s).toNat p else none
def atR(t:Bs)(nodes:List Nd)(p:List Bt):Int×Bool:=if nodes.length=0\/zpl p=false then(0,false)else match atP t nodes 0 p with
 |some k=>((k:Int),true)
 |none=>(0,false)
theorem zao{nodes:List Nd}{k f:Nat}{x:Nd}(h:nodes[k]?=some x):Je t nodes (f+1) k=.mk x.1 (bl (zbu x.1 (Q6 t x.2.1))) (if x.1=6 then x.2.2.2.1.map λc=>bl (zjj t nodes c)else []) (x.2.2.2.1.map λc=>Je t nodes f c.toNat):=by
 rw[Je,h]
theorem qb0{nodes:List Nd}{x:Nd}(h:nodes[k]?=some x)(s:Bt):zqd (Je t nodes 33 k) s=-1\/∃j:Nat,zqd (Je t nodes 33 k) s=(j:Int)/\j<x.2.2.2.1.length:=by
 rw[zao h]
 unfold zqd
 by_cases h6:x.1=6
 ·simp only[Tr.kind,Tr.keys,h6,if_true]
  rcases zus s (x.2.2.2.1.map λc=>bl (zjj t nodes c)) 0 with⟨h1,_⟩|⟨j,h1,h2,_⟩
  ·exact .inl h1
  ·exact .inr ⟨j,by unfold idxOfS;rw[h1];simp,by simpa using h2⟩
 ·simp only[Tr.kind,if_neg h6]
  by_cases h5:x.1=5
  ·rw[if_pos h5]
   split
   ·rename_i hc
    have:=zlh hc.1
    simp only[Tr.items,BN]at hc
    exact .inr ⟨(zpr (lb s)).1.toNat,by omega,by omega⟩
   ·exact .inl rfl
  ·rw[if_neg h5];exact .inl rfl
theorem z9c{nodes:List Nd}{lvs:List Nat}(G:GoodN lvs nodes){k l:Nat}(hl:lvs[k]?=some l)(s:Bt):z9b t nodes k s=-1\/∃j:Nat,z9b t nodes k s=(j:Int)/\j<nodes.length/\lvs[j]?=some (l+1):=by
 unfold z9b
 cases hx:nodes[k]? with
 |none=>exact .inl rfl
 |some x=>
  dsimp only
  rcases qb0 (t:=t) hx s with e|⟨j,e,hj⟩
  ·rw[e];exact .inl rfl
  ·rw[e,if_pos (by omega),AK]
   have hd:x.2.2.2.1.getD j (-1)=x.2.2.2.1[j]:=by simp[List.getD,hj]
   rw[hd]
   obtain⟨i,e1,_,e2⟩:=G.kid k l x hx hl _ (BG hj)
   have:=(AQ.1 e2).1
   rw[G.len]at this
   exact .inr ⟨i,e1,this,e2⟩
end
end Go.X
end
section
namespace Go.X
open Go Go.X Go.Proofs Go.RowKit
section
variable {k:Nat}
theorem zut{gl:Fr}{t:Bs}{nodes:List Nd}{k:Int}{R:Bool->Prop}(hR:R (decide (0<=k/\k<(nodes.length:Int)))):PC Tp gl 72 [Arg.mk zul (bl t,nodes),Arg.mk (.int .i64) k] [.bool] R:=by
 apply zm7
 have e:(bif (decide ((k:Int)>=0))then(decide ((k:Int)<((Db nodes:Nat):Int)))else false)=decide (0<=k/\k<(nodes.length:Int)):=by
  rw[A6]
  simp only[Bool.cond_eq_ite,decide_eq_true_eq]
  split <;> simp <;> omega
 dsimp only
 rw[e];exact hR
theorem z3u{l:List Int}(h:k<l.length):l[((k:Int)).toNat]?=some l[k]:=by rw[AK,AE h]
section
variable {t : Bs} {nodes : List Nd} {lvs : List Nat} {gl : Fr}
theorem qb1(hg:GL gl)(ht:t.length<=65536)(G:GoodN lvs nodes)(am:∀x∈nodes,x.2.2.2.1.length<=200000){k l:Nat}(hl:lvs[k]?=some l){s:Bt}(hs:(lb s).length<=1048576){R:Int->Prop}(hR:R (z9b t nodes k s)):PC Tp gl 71 [Arg.mk zul (bl t,nodes),Arg.mk (.int .i64) (k:Int),Arg.mk .str s] [.int .i64] R:=by
 have ae:k<nodes.length:=by have:=(AQ.1 hl).1;rw[G.len]at this;exact this
 have hx:nodes[k]?=some nodes[k]:=AE ae
 have ai:=am _ (BG ae)
 apply zr1
 unfold z9b at hR
 rw[hx]at hR
 dsimp only at hR
 have aa:=qb0 (t:=t) hx s
 rw[zao hx]at hR aa
 generalize nodes[k]=x at hx ai hR aa
 refine⟨x,⟨by omega,by rw[AK];exact hx⟩,x,⟨by omega,by rw[AK];exact hx⟩,λh5=>?_,λh5=>⟨λh6=>?_,λh6=>?_⟩⟩
 ·have h5:x.1=5:=by simpa using h5
  have h6:¬x.1=6:=by omega
  have hi:=zzv hg (l:=lb s) hs (R:=λr=>r=zpr (lb s)) rfl
  rw[zo4]at hi
  refine hi.mono λr hr=>?_
  subst hr
  unfold zqd at hR
  simp only[Tr.kind,Tr.keys,Tr.items,h5,if_true,BN]at hR
  rw[if_neg (show¬((5:Int)=6)by decide)]at hR
  refine⟨λhc=>?_,λhc=>?_⟩
  ·have Z:(zpr (lb s)).2=true/\(zpr (lb s)).1<(x.2.2.2.1.length:Int):=by
    simp only[Bool.cond_eq_ite]at hc
    split at hc
    ·rename_i h1;exact⟨h1,of_decide_eq_true hc⟩
    ·cases hc
   have hr:=zlh Z.1
   obtain⟨j,hj⟩:∃j:Nat,(zpr (lb s)).1=(j:Int):=⟨(zpr (lb s)).1.toNat,by omega⟩
   rw[if_pos Z,if_pos hr.1]at hR
   rw[hj]at hR Z ⊢
   have aj:j<x.2.2.2.1.length:=by omega
   refine⟨x.2.2.2.1[j],⟨by omega,z3u aj⟩,?_⟩
   rw[AK]at hR
   have hd:x.2.2.2.1.getD j (-1)=x.2.2.2.1[j]:=by simp[List.getD,aj]
   rw[hd]at hR;exact hR
  ·have Z:¬((zpr (lb s)).2=true/\(zpr (lb s)).1<(x.2.2.2.1.length:Int)):=λh1=>by
    rw[h1.1,cond_true,decide_eq_true h1.2]at hc;cases hc
   rw[if_neg Z,if_neg (by decide)]at hR;exact hR
 ·have h6:x.1=6:=by simpa using h6
  unfold zqd at hR aa
  simp only[Tr.kind,Tr.keys,Tr.items,h6,if_true]at hR aa
  generalize ah:(x.2.2.2.1.map λc=>bl (zjj t nodes c))=ks at hR aa
  have ar:ks.length=x.2.2.2.1.length:=by rw[<-ah,BN]
  refine⟨λi=>∃n:Nat,i=(n:Int)/\n<=x.2.2.2.1.length/\∀j,j<n->ks.getD j ByteArray.empty≠s,λi=>x.2.2.2.1.length-i.toNat,⟨0,rfl,by omega,λj hj=>by omega⟩,?_⟩
  rintro i ⟨n,rfl,hn,ab⟩
  refine⟨λhc=>?_,λhc=>?_⟩
  ·have Z:n<x.2.2.2.1.length:=by have:=of_decide_eq_true hc;omega
   refine⟨x.2.2.2.1[n],⟨by omega,z3u Z⟩,?_⟩
   obtain⟨j,e1,_,e2⟩:=G.kid k l x hx hl _ (BG Z)
   have hj:=(AQ.1 e2).1
   rw[G.len]at hj
   refine zut ⟨x.2.2.2.1[n],λ_=>⟨by omega,z3u Z⟩,?_⟩
   have ap:decide (0<=x.2.2.2.1[n]/\x.2.2.2.1[n]<(nodes.length:Int))=true:=decide_eq_true ⟨by omega,by omega⟩
   rw[ap]
   have af:nodes[j]?=some nodes[j]:=AE hj
   refine⟨λr=>r=bl (zwy t nodes[j]),λ_=>?_,λr hr=>?_⟩
   ·rw[e1];exact z0d hg ht af rfl
   ·have hr:=hr rfl
    subst hr
    have ak:ks.getD n ByteArray.empty=bl (zwy t nodes[j]):=by
     rw[<-ah]
     simp only[List.getD,Ct,AE Z,D6,Option.getD_some]
     rw[e1];unfold zjj;rw[AK,af]
    refine⟨λhq=>?_,λhq=>?_⟩
    ·rw[cond_true]at hq
     have hq:bl (zwy t nodes[j])=s:=by rw[zaj,zaj]at hq;exact zo5.1 (eq_of_beq hq)
     have:=Lib.idxOfS_hit ks ks.length n s (by omega) (Av _) (by rw[ak,hq]) ab
     rw[BL]at this
     rw[this,if_pos (by omega),AK]at hR
     have hd:x.2.2.2.1.getD n (-1)=x.2.2.2.1[n]:=by simp[List.getD,Z]
     rw[hd]at hR
     exact⟨x.2.2.2.1[n],⟨by omega,z3u Z⟩,hR⟩
    ·rw[cond_true]at hq
     have hq:bl (zwy t nodes[j])≠s:=by intro e;rw[e]at hq;simp at hq
     have hw:=zj4 Z (by omega)
     rw[hw]
     refine⟨⟨n+1,rfl,by omega,λi hi=>?_⟩,by simp only[AK];omega⟩
     by_cases an:i=n
     ·subst an;rw[ak];exact hq
     ·exact ab i (by omega)
  ·have Z:n=ks.length:=by have:=of_decide_eq_false hc;omega
   subst Z
   have:=Lib.idxOfS_miss ks ks.length s ab
   rw[BL]at this
   rw[this,if_neg (by decide)]at hR
   exact hR
 ·have h5:¬x.1=5:=by simpa using h5
  have h6:¬x.1=6:=by simpa using h6
  unfold zqd at hR
  simp only[Tr.kind,if_neg h5,if_neg h6]at hR
  rw[if_neg (by decide)]at hR;exact hR
theorem qef(hg:GL gl)(ht:t.length<=65536)(G:GoodN lvs nodes)(h0:nodes.length≠0->lvs[0]?=some 1)(af:∀x∈nodes,x.2.2.2.1.length<=200000){p:List Bt}(hp:SL p){R:Int×Bool->Prop}(hR:R (atR t nodes p)):PC Tp gl 23 [Arg.mk zul (bl t,nodes),Arg.mk (.row .str) p] [.int .i64,.bool] R:=by
 have ah:=hp.n
 apply zwi
 unfold atR at hR
 dsimp only
 refine⟨λr=>r=zpl p,λ_=>z3a hg hp rfl,λr hr=>⟨λhc=>?_,λhc=>?_⟩⟩
 ·rw[if_pos ?_]at hR
  ·exact hR
  ·cases hn:(((Db nodes:Nat):Int)==0)with
   |true=>exact .inl (by have:=eq_of_beq hn;omega)
   |false=>
    rw[hn]at hr hc
    have:=hr rfl
    subst this
    rw[cond_false]at hc
    exact .inr (by simpa using hc)
 ·have hn:(((Db nodes:Nat):Int)==0)=false:=by
   cases hn:(((Db nodes:Nat):Int)==0)with
   |true=>rw[hn]at hc;cases hc
   |false=>rfl
  rw[hn]at hr hc
  have:=hr rfl
  subst this
  rw[cond_false]at hc
  have hn:nodes.length≠0:=λe=>by rw[e]at hn;exact absurd hn (by decide)
  rw[if_neg (by rintro(h|h);exact hn h;rw[h]at hc;cases hc)]at hR
  refine⟨λkk i=>∃n c l:Nat,i=(n:Int)/\kk=(c:Int)/\n<=p.length/\lvs[c]?=some l/\atP t nodes 0 p=atP t nodes c (p.drop n),λkk i=>p.length-i.toNat,⟨0,0,1,rfl,rfl,by omega,h0 hn,rfl⟩,?_⟩
  rintro kk i ⟨n,c,l,rfl,rfl,ai,hl,Z⟩
  refine⟨λhc=>?_,λhc=>?_⟩
  ·have aa:n<p.length:=by have:=of_decide_eq_true hc;omega
   have ab:p.drop n=p[n]::p.drop (n+1):=A9 aa
   refine⟨p[n],⟨by omega,z7m aa⟩,?_⟩
   refine qb1 hg ht G af hl (by have:=hp.s _ (BG aa);omega) (zut ?_)
   rw[ab,atP]at Z
   rcases z9c (t:=t) G hl p[n]with e|⟨j,e,hj,ae⟩
   ·rw[e]at Z ⊢
    rw[if_neg (by decide)]at Z
    rw[Z]at hR
    exact⟨λ_=>hR,λhx=>by simp at hx⟩
   ·rw[e]at Z ⊢
    rw[if_pos (by omega),AK]at Z
    have hw:=zj4 aa (by omega)
    rw[hw]
    have hd:decide (0<=(j:Int)/\(j:Int)<(nodes.length:Int))=true:=decide_eq_true ⟨by omega,by omega⟩
    rw[hd]
    exact⟨λhx=>(by cases hx),λ_=>⟨⟨n+1,j,l+1,rfl,rfl,by omega,ae,Z⟩,by simp only[AK];omega⟩⟩
  ·have aa:n=p.length:=by have:=of_decide_eq_false hc;omega
   subst aa
   rw[List.drop_length,atP]at Z
   rw[Z]at hR
   exact hR
end
end
end Go.X
end
section
namespace Go.X
open Go Go.Lib
section
def zT:Tr:=.mk 0 ⟨#[]⟩ [] []
end
end Go.X
end
