/- A part of the proof: nothing is stated here for its own sake. -/
import Derived.Test.YtjohlemfgcmaoaaGreatDoorPmE
open _root_.Go.Addr renaming add->Ae
open _root_.Array renaming getElem?_eq_getElem->AI,getElem?_eq_some_iff->Ad,getElem?_toList->Bw,replicate->Bf,size_push->Al,size_setIfInBounds->A7
open _root_.Bool renaming eq_iff_iff->AB,false_or->Dk,not_eq_true'->C3,or_eq_true->A4
open _root_.Go.Instr renaming storeAt->Aj
open _root_.Int renaming toNat_natCast->Af
open _root_.Go.IntKind renaming wrap->Aa
open _root_.List renaming all_eq_true->Ba,append_nil->A8,cons_append->Br,drop_eq_getElem_cons->Ay,drop_eq_nil_of_le->AR,drop_length->DC,drop_zero->BB,eq_nil_iff_forall_not_mem->CF,exists_cons_of_ne_nil->AX,ext_getElem?->Bc,getElem?_append_right->A6,getElem?_drop->AE,getElem?_eq_getElem->Ak,getElem?_eq_some_iff->Aw,getElem?_map->Cc,getElem?_modify->Bn,getElem_drop->Do,getElem_mem->AP,getElem_of_mem->AY,length->Cy,length_append->Ar,length_cons->AH,length_drop->As,length_eq_zero_iff->AU,length_erase_of_mem->CH,length_map->AM,length_nil->CP,length_pos_iff->Bl,length_range->Dm,length_take->AO,map_append->CQ,mem_append->Av,mem_append_left->Ao,mem_append_right->Au,mem_cons->Ai,mem_cons_of_mem->Ag,mem_cons_self->Am,mem_flatMap->Be,mem_of_getElem?->Bb,mem_range->BL,nodup_append->BH,nodup_cons->DK,nodup_range->C8,range->BI,take_append_drop->Ce,take_left->Dq,take_length->BD,take_succ_cons->Cd,take_succ_eq_append_getElem->AL,take_zero->DO
open _root_.List.cons renaming injEq->BP
open _root_.Nat renaming add_sub_cancel_left->C7,add_zero->CG,eq_or_lt_of_le->Dg,eq_zero_or_pos->CY,le_refl->Ac,le_trans->DN,lt_or_ge->AF,mul_one->Db,sub_zero->CU,zero_add->Az,zero_le->CK
open _root_.Option renaming map_some->DZ
open _root_.Option.some renaming inj->Aq
open _root_.Go.Region renaming wanted->Bm
open _root_.UInt8 renaming toNat_inj->Cz
open _root_.Go.Value renaming int->D4
open _root_.Go.Value.slice renaming injEq->A9
set_option linter.unusedVariables false
set_option maxRecDepth 100000
namespace Go.X
end Go.X
namespace Go.Proofs
end Go.Proofs
open Go Go.X Go.Proofs
section
namespace Go.X
open Go Go.X Go.Proofs Go.RowKit
section
variable {k b c:Nat} {ls:Sl} {cs:Array Value} {g':za}
def rpC(s:Bs)(ls:Sl)(k:Nat)(sl:Sl)(a e:Int):List Value:=[.string (bl s),slV ls,.int .i64 (k:Int),slV sl,.int .i64 a,.int .i64 e]
structure RW (lo:Nat) (g:za) (M:Fr) (bp:Nat) (s:Bs) (l:List Tk) (k:Nat) (a e:Int) (ls:Sl) (na:NA) (sl:Sl) (b:Nat) (cs:Array Value):Prop where
 blk:Blk g bp (rpC s ls k sl a e).toArray
 rd:Rd M (.row tTk) l [slV ls]
 ns:NS lo g M na sl b cs
 ag:AgM M g
 bl:lo<=bp/\M bp=none
 nb:¬nsO na sl b bp
structure AtK (l:List Tk) (k:Nat) (st:PSt):Prop where
 rest:st.rest=l.drop k
 le:k<=l.length
 last:∀t,0<k->l[k-1]?=some t->st.last=t.2.2
def RS(lo:Nat)(g:za)(M:Fr)(bp:Nat)(s:Bs)(l:List Tk)(st:PSt)(a e:Int)(O:Nat->Prop):Prop:=
 ∃(ls:Sl) (k:Nat) (na:NA) (sl:Sl) (b:Nat) (cs:Array Value),RW lo g M bp s l k a e ls na sl b cs/\AtK l k st/\na.map (·.1)=st.nodes/\O=ppO bp na sl b
theorem RW.own{lo:Nat}{g:za}{M:Fr}{bp:Nat}{s:Bs}{l:List Tk}{a e:Int}{na:NA}{sl:Sl}(H:RW lo g M bp s l k a e ls na sl b cs)(h:ppO bp na sl b c):lo<=c/\c<g.size/\M c=none:=by
 rcases h with rfl|h
 ·exact⟨H.bl.1,H.blk.lt,H.bl.2⟩
 ·exact H.ns.own h
section
variable {lo : Nat} {g : za} {M : Fr} {bp : Nat} {s : Bs} {l : List Tk} {st : PSt} {a e : Int} {O : Nat -> Prop} {K : Value -> za -> Prop}
theorem RS.own(H:RS lo g M bp s l st a e O)(h:O c):lo<=c/\c<g.size/\M c=none:=by
 obtain⟨ls,k,na,sl,b,cs,W,_,_,rfl⟩:=H
 exact W.own h
theorem RS.frame(H:RS lo g M bp s l st a e O)(hz:g.size<=g'.size)(f:∀c,c<g.size->(O c\/M c≠none)->g'[c]?=g[c]?):RS lo g' M bp s l st a e O:=by
 obtain⟨ls,k,na,sl,b,cs,W,h0,h1,rfl⟩:=H
 refine⟨ls,k,na,sl,b,cs,⟨W.blk.keep (f bp W.blk.lt (.inl (.inl rfl))),W.rd,W.ns.frame hz λc hc=>f c (W.ns.own hc).2.1 (.inl (.inr hc)),zg5 W.ag λj hj hm=>f j hj (.inr hm),W.bl,W.nb⟩,h0,h1,rfl⟩
theorem RS.keep(H:RS lo g M bp s l st a e O)(k:Keep g.size g g'):RS lo g' M bp s l st a e O:=H.frame k.size λc hc _=>k.get c hc
theorem RS.ag(H:RS lo g M bp s l st a e O):AgM M g:=by
 obtain⟨ls,k,na,sl,b,cs,W,_,_,_⟩:=H;exact W.ag
theorem RW.put{k k':Nat}{a' e':Int}{na:NA}{sl:Sl}(H:RW lo g M bp s l k a e ls na sl b cs)(B:Blk g' bp (rpC s ls k' sl a' e').toArray)(hz:g'.size=g.size)(f:∀j,j≠bp->g'[j]?=g[j]?):RW lo g' M bp s l k' a' e' ls na sl b cs:=
 ⟨B,H.rd,H.ns.frame (by omega) λc hc=>f c λh=>H.nb (h ▸ hc),zg5 H.ag λj _ hm=>f j λh=>hm (h ▸ H.bl.2),H.bl,H.nb⟩
theorem RW.nst{na na':NA}{sl:Sl}{cs cs':Array Value}(W:RW lo g M bp s l k a e ls na sl b cs)(N:NSt lo g M na sl b g' na' cs'):RW lo g' M bp s l k a e ls na' sl b cs'/\Stp g (ppO bp na sl b) g' (ppO bp na' sl b):=by
 refine⟨⟨W.blk.keep (N.fr bp W.blk.lt W.nb),W.rd,N.ns,zg5 W.ag λj hj hm=>N.fr j hj λh=>hm (W.ns.own h).2.2,W.bl,λh=>?_⟩,N.le,λc h=>?_,λj hj hn=>N.fr j hj λh=>hn (.inr h)⟩
 ·rcases N.sub bp h with h|h
  ·exact W.nb h
  ·have:=W.blk.lt;omega
 ·rcases h with h|h
  ·exact .inl (.inl h)
  ·rcases N.sub c h with h|h
   ·exact .inl (.inr h)
   ·exact .inr h
theorem AtK.cons(A:AtK l k st){t:Tk}{r:List Tk}(h:st.rest=t::r):∃hk:k<l.length,l[k]=t:=by
 have h1:=A.rest
 rw[h]at h1
 have hk:k<l.length:=by
  rcases AF k l.length with hh|hh
  ·exact hh
  ·rw[AR hh]at h1;cases h1
 refine⟨hk,?_⟩
 rw[Ay hk]at h1
 injection h1 with h1 _;exact h1.symm
theorem AtK.nil(A:AtK l k st)(h:st.rest=[]):k=l.length:=by
 have h1:=A.rest
 rw[h]at h1
 have:=List.drop_eq_nil_iff.1 h1.symm
 have:=A.le;omega
theorem AtK.skip(A:AtK l k st)(h:st.rest≠[]):AtK l (k+1) st.skip:=by
 obtain⟨t,r,er⟩:=AX h
 obtain⟨hk,e⟩:=A.cons er
 have h1:=A.rest
 rw[er,Ay hk]at h1
 injection h1 with _ h2
 have es:st.skip=⟨r,t.2.2,st.nodes⟩:=by unfold PSt.skip;rw[er]
 rw[es]
 refine⟨h2,hk,λu _ hu=>?_⟩
 rw[Nat.add_sub_cancel,Ak hk,e]at hu
 cases hu;rfl
theorem AtK.same(A:AtK l k st){st':PSt}(h1:st'.rest=st.rest)(h2:st'.last=st.last):AtK l k st':=⟨h1.trans A.rest,A.le,λt a b=>h2.trans (A.last t a b)⟩
theorem Jr(H:RS lo g M bp s l st a e O)(hK:K (.int .i64 st.kind) g):XC Tp 124 #[.pointer (some ⟨bp,0,none⟩)] g K:=by
 obtain⟨ls,k,na,sl,b,cs,W,A,h1,rfl⟩:=H
 apply Q1
 have hl:=(rowLen W.rd).1
 refine⟨_,rfl,_,by rw[zi];exact W.blk.cell rfl,_,rfl,ls,by rw[zi];exact W.blk.cell rfl,λhx=>?_,λhx=>⟨_,rfl,ls,by rw[zi];exact W.blk.cell rfl,_,rfl,_,by rw[zi];exact W.blk.cell rfl,?_⟩⟩
 ·have hx:=of_decide_eq_true hx
  have:st.rest=[]:=by rw[A.rest];exact AR (by omega)
  unfold PSt.kind at hK
  rw[this]at hK;exact hK
 ·have hx:=of_decide_eq_false hx
  have hk:k<l.length:=by omega
  obtain⟨tb,o,e1,e2,e3,e4⟩:=ztb W.ag W.rd hk
  have er:=A.rest
  rw[Ay hk]at er
  refine⟨_,⟨e1,by omega,by omega⟩,l[k].1,?_,?_⟩
  ·rw[zi,zi,Af];exact e2
  ·unfold PSt.kind at hK;rw[er]at hK;exact hK
theorem zpg(H:RS lo g M bp s l st a e O)(hK:K (.int .i64 (st.here s.length)) g):XC Tp 126 #[.pointer (some ⟨bp,0,none⟩)] g K:=by
 obtain⟨ls,k,na,sl,b,cs,W,A,h1,rfl⟩:=H
 apply Q3
 have hl:=(rowLen W.rd).1
 refine⟨_,rfl,_,by rw[zi];exact W.blk.cell rfl,_,rfl,ls,by rw[zi];exact W.blk.cell rfl,λhx=>?_,λhx=>⟨_,rfl,ls,by rw[zi];exact W.blk.cell rfl,_,rfl,_,by rw[zi];exact W.blk.cell rfl,?_⟩⟩
 ·have hx:=of_decide_eq_true hx
  have:st.rest=[]:=by rw[A.rest];exact AR (by omega)
  unfold PSt.here at hK
  rw[this]at hK
  refine⟨_,rfl,Go.X.bl s,by rw[zi];exact W.blk.cell rfl,?_⟩
  rw[zd];exact hK
 ·have hx:=of_decide_eq_false hx
  have hk:k<l.length:=by omega
  obtain⟨tb,o,e1,e2,e3,e4⟩:=ztb W.ag W.rd hk
  have er:=A.rest
  rw[Ay hk]at er
  refine⟨_,⟨e1,by omega,by omega⟩,l[k].2.1,?_,?_⟩
  ·rw[zi,zi,zi,Af];exact e3
  ·unfold PSt.here at hK;rw[er]at hK;exact hK
theorem Qu(H:RS lo g M bp s l st a e O){x:Int}(hK:∀g',RS lo g' M bp s l st (st.here s.length) x O->Stp g O g' O->K (.bool false) g'):XC Tp 65 #[.pointer (some ⟨bp,0,none⟩),.int .i64 x] g K:=by
 apply Qi
 refine zpg H ⟨_,rfl,_,rfl,?_⟩
 obtain⟨ls,k,na,sl,b,cs,W,A,h1,rfl⟩:=H
 rw[zi]
 refine yy zm1 zm2 W.blk (by show 4<6;omega) rfl λg1 u1 u2 u3=>⟨_,rfl,?_⟩
 rw[zi]
 refine yy z6x z6y u1 (by show 5<6;omega) rfl λg2 v1 v2 v3=>?_
 have f:∀j,j≠bp->g2[j]?=g[j]?:=λj hj=>(v3 j hj).trans (u3 j hj)
 have v1:Blk g2 bp (rpC s ls k sl (st.here s.length) x).toArray:=v1
 exact hK g2 ⟨ls,k,na,sl,b,cs,W.put v1 (by omega) f,A,h1,rfl⟩ (Stp.same (by omega) (.inl rfl) f)
theorem zgn(H:RS lo g M bp s l st a e O)(hr:st.rest≠[])(hl:l.length<=1000000):∃k:Nat,zc g ⟨bp,2,none⟩=some (.int .i64 (k:Int))/\AtK l k st/\∀{K:za->Prop},(∀g',RS lo g' M bp s l st.skip a e O->Stp g O g' O->K g')->XRunU Tp (Aj 3 (.pointer (some ⟨bp,2,none⟩)) (.int .i64 (Aa .i64 ((k:Int)+1)))) g K:=by
 obtain⟨ls,k,na,sl,b,cs,W,A,h1,rfl⟩:=H
 refine⟨k,W.blk.cell rfl,A,λ {K} hK=>?_⟩
 have A':=A.skip hr
 rw[show Aa .i64 ((k:Int)+1)=((k+1:Nat):Int)by rw[w64 (by have:=A.le;omega)];omega]
 refine yy zm1 zm2 W.blk (by show 2<6;omega) rfl λg1 u1 u2 u3=>?_
 have u1:Blk g1 bp (rpC s ls (k+1) sl a e).toArray:=u1
 exact hK g1 ⟨ls,k+1,na,sl,b,cs,W.put u1 (by omega) u3,A',by rw[qu];exact h1,rfl⟩ (Stp.same (by omega) (.inl rfl) u3)
theorem z3p(H:RS lo g M bp s l st a e O)(hl:l.length<=1000000){k:Int}(hk:k≠0)(hY:st.kind=k->∀g',RS lo g' M bp s l st.skip a e O->Stp g O g' O->K (.bool true) g')(hN:st.kind≠k->∀g',RS lo g' M bp s l st (st.here s.length) 2 O->Stp g O g' O->K (.bool false) g'):XC Tp 261 #[.pointer (some ⟨bp,0,none⟩),.int .i64 k] g K:=by
 apply Q4
 refine Jr H ⟨_,rfl,λhx=>?_,λhx=>?_⟩
 ·exact Qu H λg' p q=>⟨false,rfl,hN (by simpa using hx) g' p q⟩
 ·have hx:st.kind=k:=by simpa using hx
  obtain⟨n,c1,A,Z⟩:=zgn H (PSt.ne_kind hx hk) hl
  refine⟨_,rfl,_,by rw[zi];exact c1,_,rfl,?_⟩
  rw[zi]
  exact Z λg' p q=>hY hx g' p q
end
end
section
variable {gl:Fr}
theorem zm4{k:Int}{R:Int->Prop}(h:R (ya k)):PC Tp gl 114 [Arg.mk (.int .i64) k] [.int .i64] R:=by
 apply zg3
 unfold ya at h
 refine⟨λhx=>?_,λhx K hK=>?_⟩
 ·rw[if_pos (by simpa using hx)]at h;exact h
 have hx:¬k=12:=by simpa using hx
 rw[if_neg hx]at h
 have key:∀b:Bool,b=decide (k=10\/k=11)->K b:=λb hb=>hK b ⟨λh1=>by
   rw[h1]at hb
   rw[if_pos (of_decide_eq_true hb.symm)]at h;exact h,λh1=>by
   rw[h1]at hb
   rw[if_neg (of_decide_eq_false hb.symm)]at h
   refine⟨λh2=>?_,λh2=>⟨λh3=>?_,λh3=>⟨λh4=>?_,λh4=>⟨λh5=>?_,λh5=>?_⟩⟩⟩⟩
   ·rw[if_pos (by simpa using h2)]at h;exact h
   ·rw[if_neg (by simpa using h2),if_pos (by simpa using h3)]at h;exact h
   ·rw[if_neg (by simpa using h2),if_neg (by simpa using h3),if_pos (by simpa using h4)]at h;exact h
   ·rw[if_neg (by simpa using h2),if_neg (by simpa using h3),if_neg (by simpa using h4),if_pos (by simpa using h5)]at h;exact h
   ·rw[if_neg (by simpa using h2),if_neg (by simpa using h3),if_neg (by simpa using h4),if_neg (by simpa using h5)]at h;exact h⟩
 refine⟨λh1=>key _ ?_,λh1=>key _ ?_⟩
 ·have:k=10:=by simpa using h1
  rw[h1,this];rfl
 ·have:¬k=10:=by simpa using h1
  rw[AB,beq_iff_eq,decide_eq_true_eq];omega
def qaa(lo:Nat)(M:Fr)(bp:Nat)(s:Bs)(lv:Int)(val:zko):Prop:=
 ∀(key:Sp) (g:za) (st:PSt) (a e:Int) (O:Nat->Prop),PaS lo g M bp s st a e O->st.nodes.length<=4096->st.T<=200000->(∀t∈st.rest,TkW s t) ->
  ∀K:Value->za->Prop,(∀b g' st' a' e' O',PaS lo g' M bp s st' a' e' O'->Stp g O g' O'->st.nodes.length<=st'.nodes.length->Ans (val key st) b st' a' e'->K (.bool b) g')->XC Tp 61 #[.pointer (some ⟨bp,0,none⟩),.int .i64 lv,.agg #[.int .i64 key.1,.int .i64 key.2]] g K
section
variable {lo : Nat} {g : za} {M : Fr} {bp : Nat} {s : Bs} {lv : Int} {val : zko}
theorem z3q(hv:qaa lo M bp s lv val):qaw lo M bp s 118 #[.pointer (some ⟨bp,0,none⟩)] #[] lv (zcc val) (λ_ _=>True) (λ_=>False) (λ_=>False):=by
 intro σ g st a e O P I J h4 hT hw K hK
 show XC Tp _ #[.pointer (some ⟨bp,0,none⟩),.int .i64 lv] g K
 apply za0
 refine hv (0,0) g st a e O P h4 hT hw _ λb g' st' a' e' O' P' S' n' A'=>⟨b,rfl,hK b g' st' a' e' O' σ P' S'.j n' (λ_=>trivial) ?_⟩
 unfold zcc
 cases hr:val (0,0) st with
 |inl t=>rw[hr]at A';exact⟨A'.1,by rw[A'.2]⟩
 |inr x=>rw[hr]at A';exact A'
theorem z0k:MapT Tp 154 9 4 (.bool false):=⟨by kernel_rfl,by kernel_rfl,⟨Tryz.t4,by kernel_rfl,by kernel_rfl⟩⟩
def z8g(m:Nat)(σ:List Bs)(g:za):Prop:=∃l,MapAt g m l/\∀k:Bs,zne l (bl k)=if k∈σ then some (.bool true)else none
theorem zil{M:Fr}{r:Bt×Int×Int}{v:Value}(h:zco M [.str,.int .i64,.int .i64] r v):v=.tuple #[.string r.1,.int .i64 r.2.1,.int .i64 r.2.2]:=by
 obtain⟨vs,⟨v1,rest,rfl,hx,v2,Z,rfl,hy,v3,rfl,hz⟩,rfl⟩:=h
 rw[xp hx,qs hy,qs hz]
 rfl
set_option maxRecDepth 100000 in
set_option maxHeartbeats 2000000 in
theorem z7c(hg:GL gl)(hM:Fr.le gl M)(hs:s.length<=65536)(hv:qaa lo M bp s lv val){m:Nat}{J:Nat->Prop}(hm:J m){σ:List Bs}{st:PSt}{a e:Int}{O:Nat->Prop}(P:PaS lo g M bp s st a e O)(I:z8g m σ g)(hJ:Apt J g O)(h4:st.nodes.length<=4096)(hT:st.T<=200000)(hw:∀t∈st.rest,TkW s t)(aG:∀j,J j->M j=none){K:Value->za->Prop}
  (hK:∀b g' st' a' e' O' σ',PaS lo g' M bp s st' a' e' O'->StJ (λj=>j=m) g O g' O'->st.nodes.length<=st'.nodes.length->(b=true->z8g m σ' g')->qar (znf s val σ st) b σ' st' a' e'->K (.bool b) g'):
  XC Tp 120 #[.pointer (some ⟨bp,0,none⟩),.int .i64 lv,.map (some m)] g K:=by
 have af:=hJ m hm
 apply Wv
 refine zkk P ⟨_,rfl,λhx=>?_,λhx=>?_⟩
 ·have hx:¬st.kind=8:=by simpa using hx
  refine Jq P λg' P' S'=>⟨false,rfl,hK false g' st _ _ O σ P' S'.j (Ac _) (λh=>(by cases h)) ?_⟩
  unfold znf
  cases hr:st.rest with
  |nil=>exact⟨rfl,rfl⟩
  |cons t r=>
   have:¬t.1=8:=by unfold PSt.kind at hx;rw[hr]at hx;exact hx
   dsimp only
   rw[if_neg this];exact⟨rfl,rfl⟩
 have hx:st.kind=8:=by simpa using hx
 have ar:=PSt.ne_kind hx (by omega)
 obtain⟨t,r,er⟩:=AX ar
 have aF:t.1=8:=by unfold PSt.kind at hx;rw[er]at hx;exact hx
 obtain⟨w1,w2,w3,_⟩:=hw t (by rw[er];simp)
 have aH:=Wu ar
 have P0:=P
 obtain⟨rs,lf,na,sl,b,cs,W,h1,eO⟩:=P0
 have rd:=W.rd
 have hl:=(rowLen W.rd).1
 rw[er]at rd hl
 rw[AH]at hl
 obtain⟨tb,o,e1,e2,e3,e4⟩:=ztb W.ag rd (k:=0) (by simp)
 refine⟨_,rfl,rs,by rw[zi];exact W.blk.cell rfl,_,⟨e1,by omega,by omega⟩,t.2.1,t.2.2,?_,?_⟩
 ·rw[zi,zi]
  exact⟨by rw[zi];exact e3,by rw[zi];exact e4,trivial⟩
 intro aj
 have aE:Keep g.size g aj:=Keep.push _ _ (Ac _)
 have a1:aj.size=g.size+1:=Al _
 have aQ:Blk aj g.size #[.int .i64 0,.int .i64 0]:=Blk.new _ _ _
 clear_value aj
 refine Jv (vs:=[.int .i64 t.2.1,.int .i64 t.2.2]) z3k aQ rfl z3l (Ac _) (λu hu=>?_) λaA ae aU aM=>⟨_,rfl,?_⟩
 ·simp at hu;rcases hu with rfl|rfl <;> rfl
 have ae:Blk aA g.size #[.int .i64 t.2.1,.int .i64 t.2.2]:=ae
 have ah:Keep g.size g aA:=⟨by omega,λj hj=>(aM j (by omega)).trans (aE.get j hj)⟩
 have aS:=P.keep ah
 have aP:=W.blk.keep (ah.get bp W.blk.lt)
 refine⟨bl s,by rw[zi];exact aP.cell rfl,t.2.1,by rw[zi];exact ae.cell rfl,t.2.2,by rw[zi];exact ae.cell rfl,⟨w1,by omega,by rw[zd];exact w3⟩,?_⟩
 have ex:(bl s).extract t.2.1.toNat t.2.2.toNat=bl (Wt s t.2):=by rw[zt];rfl
 rw[ex]
 have aZ:(Wt s t.2).length<=65536:=by unfold Wt;rw[AO,As];omega
 refine(zdn hg (t:=Wt s t.2) (by omega) (R:=λr=>r=(bl (Qt (Wt s t.2)).1,((Qt (Wt s t.2)).2.1:Int),(Qt (Wt s t.2)).2.2)) rfl).go hM aS.ag (yr (a:=Arg.mk .str _) (rdStr _) jq) λv aB M' rr L aN hr=>?_
 subst hr
 rw[zil aN]
 refine⟨_,_,_,rfl,?_⟩
 have Z:Keep g.size g aB:=ah.trans L.keep ah.size
 have ay:=P.keep Z
 obtain⟨l,ml,mk⟩:=I
 have am:MapAt aB m l:=ml.keep (Z.get m af.1)
 have aa:=zns z0k am (bl (Qt (Wt s t.2)).1) false
 rw[if_neg (by simp)]at aa
 have aO:z4c l (bl (Qt (Wt s t.2)).1) (.bool false)=.bool (decide ((Qt (Wt s t.2)).1∈σ)):=by
  unfold z4c
  rw[mk]
  by_cases ai:(Qt (Wt s t.2)).1∈σ
  ·rw[if_pos ai];simp[ai]
  ·rw[if_neg ai];simp[ai]
 rw[aO]at aa
 have eM:znf s val σ st=if(Qt (Wt s t.2)).1∈σ then st.err s 7
   else if st.skip.kind=7 then match val t.2 st.skip.skip with
    |.inl st'=>.inl (σ++[(Qt (Wt s t.2)).1],st')
    |.inr e=>.inr e
   else st.skip.err s 2:=by
  unfold znf;rw[er];dsimp only;rw[if_pos aF];rfl
 refine⟨_,aa,λhy=>?_,λhy=>?_⟩
 ·have hy:=of_decide_eq_true hy
  refine Jq ay λg' P' S'=>⟨false,rfl,hK false g' st _ _ O σ P' ((Stp.keep (O:=O) Z).trans S').j (Ac _) (λh=>(by cases h)) ?_⟩
  rw[eM,if_pos hy];exact⟨rfl,rfl⟩
 have hy:=of_decide_eq_false hy
 rw[if_neg hy]at eM
 refine zt9 z0k am (bl (Qt (Wt s t.2)).1) (.bool true) λak aT aY an=>?_
 have aJ:PaS lo ak M bp s st a e O:=ay.frame (by omega) λc hc ho=>an c λh=>by
  subst h
  rcases ho with ho|ho
  ·exact af.2 ho
  ·exact ho (aG _ hm)
 have aC:StJ (λj=>j=m) g O ak O:=⟨by have:=Z.size;omega,λc h=>.inl h,λj hj hn hJ=>(an j hJ).trans (Z.get j hj)⟩
 have ap:∀g',g'[m]?=ak[m]?->z8g m (σ++[(Qt (Wt s t.2)).1]) g':=λg' aI=>by
  refine⟨_,aT.keep aI,λk=>?_⟩
  rw[zt8,mk]
  by_cases hk:(Qt (Wt s t.2)).1=k
  ·subst hk;simp
  ·have aL:¬bl (Qt (Wt s t.2)).1=bl k:=λh=>hk (z5s.1 h)
   rw[if_neg aL]
   have:(k∈σ++[(Qt (Wt s t.2)).1])↔k∈σ:=by simp;intro h;exact absurd h.symm hk
   simp only[this]
 have ax:m<ak.size:=by have:=af.1;have:=Z.size;omega
 refine zpf aJ ar λg3 P3 S3=>⟨rfl,?_⟩
 refine zez P3 (by omega) (λh7 g4 P4 S4=>⟨true,rfl,λh=>(by simp at h),λ_=>?_⟩) (λh7=>⟨false,rfl,λ_=>?_,λh=>(by simp at h)⟩)
 ·rw[if_pos h7]at eM
  have ok2:=Wu (PSt.ne_kind h7 (by omega))
  have ab:=aH.trans ok2
  have au:¬O g.size:=λh=>by have:=(P.own h).2.1;omega
  have B4:Blk g4 g.size #[.int .i64 t.2.1,.int .i64 t.2.2]:=by
   refine ae.keep ?_
   have aV:=ah.size
   rw[S4.fr _ (by have:=S3.le;have:=Z.size;have:=L.keep.size;omega) au,S3.fr _ (by have:=Z.size;have:=L.keep.size;omega) au,an _ (by have:=af.1;omega)]
   exact L.keep.get _ (by omega)
  refine⟨t.2.1,t.2.2,B4.ld (cs:=[.int .i64 t.2.1,.int .i64 t.2.2]),?_⟩
  refine hv t.2 g4 st.skip.skip a e O P4 (by have:=ab.m h4;exact this) (by have:=ab.t;omega) (λx hx=>hw x (ab.w x hx)) _ λb g' st' a' e' O' P' S' n' A'=>⟨b,rfl,?_⟩
  have az:=(S3.trans S4).trans S'
  refine hK b g' st' a' e' O' _ P' (aC.trans az.j) (by have:=ab.n;omega) (λ_=>ap g' (az.fr m ax λh=>af.2 h)) ?_
  rw[eM]
  cases hr:val t.2 st.skip.skip with
  |inl x=>rw[hr]at A';exact⟨A'.1,by rw[A'.2]⟩
  |inr x=>rw[hr]at A';exact A'
 ·rw[if_neg h7]at eM
  refine Jq P3 λg' P' S'=>⟨false,rfl,hK false g' _ _ _ O σ P' (aC.trans (S3.trans S').j) (by rw[qu];exact Ac _) (λh=>(by cases h)) ?_⟩
  rw[eM];exact⟨rfl,rfl⟩
end
end
section
variable {g g':za} {b:Nat} {O:Nat -> Prop}
theorem za9{x y:Value}(B:Blk g b #[x,y]){u v:Int}{K:za->Prop}(hK:∀g',(∀j,j≠b->g'[j]?=g[j]?)->g'.size=g.size->Blk g' b #[.int .i64 u,.int .i64 v]->K g'):
  XRunU Tp (Aj 58 (.pointer (some ⟨b,0,none⟩)) (.agg #[.int .i64 u,.int .i64 v])) g K:=by
 refine Jv (vs:=[.int .i64 u,.int .i64 v]) z3k B rfl z3l (Ac _) (λw hw=>?_) λg' q1 q2 q3=>hK g' q3 q2 q1
 simp at hw;rcases hw with rfl|rfl <;> rfl
theorem z0l{u v:Value}(B:Blk g b #[u,v]):zf g ⟨b,0,none⟩ 0 [u,v]:=B.ld (cs:=[u,v])
theorem RS.off{lo:Nat}{M:Fr}{bp:Nat}{s:Bs}{l:List Tk}{st:PSt}{a e:Int}(H:RS lo g M bp s l st a e O)(hb:¬O b)(hm:M b=none)(hz:g'.size=g.size)(f:∀j,j≠b->g'[j]?=g[j]?):RS lo g' M bp s l st a e O:=
 H.frame (by omega) λc hc ho=>f c λh=>by
  subst h
  rcases ho with ho|ho
  ·exact hb ho
  ·exact ho hm
theorem Stp.loc{g g' g2:za}{O O':Nat->Prop}(S:Stp g O g' O')(hb:g.size<=b)(hz:g2.size=g'.size)(f:∀j,j≠b->g2[j]?=g'[j]?):Stp g O g2 O':=⟨by have:=S.le;omega,S.sub,λj hj hn=>(f j (by omega)).trans (S.fr j hj hn)⟩
def qbf(r:PR (Bs×Sp×PSt))(b:Bool)(x:Bs)(sp:Sp)(st':PSt)(a e:Int):Prop:=match r with
 |.inl t=>b=true/\t=(x,sp,st')
 |.inr y=>b=false/\y=(a,e)
section
variable {lo : Nat} {g : za} {M gl : Fr} {bp : Nat} {s : Bs} {l : List Tk} {st : PSt} {a e : Int} {O : Nat -> Prop} {K : Value -> za -> Prop}
set_option maxRecDepth 100000 in
set_option maxHeartbeats 4000000 in
theorem z7d(hg:GL gl)(hM:Fr.le gl M)(hs:s.length<=65536)(hl:l.length<=1000000)(H:RS lo g M bp s l st a e O)(hw:∀t∈st.rest,TkW s t){σ:List Bs}{hd:Sl}{hb:List Nat}{a1:Nat}(ro:ORow a1 g M .str (σ.map Go.X.bl) hd hb)(hσ:σ.length<=1000000)(bm:∀c∈hb,¬O c)
  (hK:∀b g' st' a' e' x sp,RS lo g' M bp s l st' a' e' O->Stp g O g' O->st'.nodes=st.nodes->qbf (zv4 s σ st) b x sp st' a' e'->K (.tuple #[.string (Go.X.bl x),.agg #[.int .i64 sp.1,.int .i64 sp.2],.bool b]) g'):
  XC Tp 203 #[.pointer (some ⟨bp,0,none⟩),slV hd] g K:=by
 apply Yt
 intro h1
 have k1:Keep g.size g h1:=Keep.push _ _ (Ac _)
 have z1:h1.size=g.size+1:=Al _
 have B1:Blk h1 g.size #[.int .i64 0,.int .i64 0]:=Blk.new _ _ _
 clear_value h1
 have Z:∀c,g.size<=c->¬O c:=λc hc h=>by have:=(H.own h).2.1;omega
 have ak:∀c,g.size<=c->M c=none:=λc hc=>by
  cases e:M c with
  |none=>rfl
  |some x=>have:=H.ag.lt e;omega
 refine Jr (H.keep k1) ⟨_,rfl,λhx=>?_,λhx=>?_⟩
 ·have hx:¬st.kind=8:=by simpa using hx
  refine Qu (H.keep k1) λg' P' S'=>⟨false,rfl,?_⟩
  refine za9 (B1.keep (S'.fr g.size (by omega) (Z _ (Ac _)))) λg2 f2 z2 B2=>⟨_,_,z0l B2,?_⟩
  have hz:=S'.le
  refine hK false g2 st _ _ [] (0,0) (P'.off (Z _ (Ac _)) (ak _ (Ac _)) z2 f2) (((Stp.keep (O:=O) k1).trans S').loc (Ac _) z2 f2) rfl ?_
  ·unfold zv4
   cases hr:st.rest with
   |nil=>exact⟨rfl,rfl⟩
   |cons t r=>
    have:¬t.1=8:=by unfold PSt.kind at hx;rw[hr]at hx;exact hx
    dsimp only
    rw[if_neg this];exact⟨rfl,rfl⟩
 have hx:st.kind=8:=by simpa using hx
 have aH:=PSt.ne_kind hx (by omega)
 obtain⟨t,r,er⟩:=AX aH
 have aI:t.1=8:=by unfold PSt.kind at hx;rw[er]at hx;exact hx
 obtain⟨w1,w2,w3,_⟩:=hw t (by rw[er];simp)
 have eQ:zv4 s σ st=if(Qt (Wt s t.2)).1∈σ then st.err s 7
   else if st.skip.kind=7 then .inl ((Qt (Wt s t.2)).1,t.2,st.skip.skip)else st.skip.err s 2:=by
  unfold zv4;rw[er];dsimp only;rw[if_pos aI]
 have H1:=H.keep k1
 have aO:=H1
 obtain⟨ls,k,na,sl,b,cs,W,A,a8,eO⟩:=aO
 obtain⟨hk,ek⟩:=A.cons er
 have bg:=(rowLen W.rd).1
 obtain⟨tb,o,e1,e2,e3,e4⟩:=ztb W.ag W.rd hk
 rw[ek]at e3 e4
 have ay:=W.blk.lt
 have aS:tb<h1.size:=by
  unfold zc at e3
  rcases AF tb h1.size with h|h
  ·exact h
  ·rw[Array.getElem?_eq_none h]at e3;cases e3
 refine⟨_,rfl,ls,by rw[zi];exact W.blk.cell rfl,_,rfl,(k:Int),by rw[zi];exact W.blk.cell rfl,_,⟨e1,by omega,by omega⟩,t.2.1,t.2.2,?_,?_⟩
 ·rw[zi,zi,Af]
  exact⟨by rw[zi];exact e3,by rw[zi];exact e4,trivial⟩
 intro aj
 have an:Keep h1.size h1 aj:=Keep.push _ _ (Ac _)
 have bo:aj.size=h1.size+1:=Al _
 have aL:Blk aj h1.size #[.int .i64 0,.int .i64 0]:=Blk.new _ _ _
 clear_value aj
 refine⟨by rw[zi,zi];exact an.get tb aS,by rw[zi];exact an.get bp ay,by rw[zi];exact an.get bp ay,?_⟩
 refine za9 aL λaY aZ bn ax=>⟨_,rfl,?_⟩
 have aA:Keep h1.size h1 aY:=⟨by omega,λj hj=>(aZ j (by omega)).trans (an.get j hj)⟩
 have aM:=W.blk.keep (aA.get bp ay)
 refine⟨Go.X.bl s,by rw[zi];exact aM.cell rfl,t.2.1,by rw[zi];exact ax.cell rfl,t.2.2,by rw[zi];exact ax.cell rfl,⟨w1,by omega,by rw[zd];exact w3⟩,?_⟩
 have ex:(Go.X.bl s).extract t.2.1.toNat t.2.2.toNat=Go.X.bl (Wt s t.2):=by rw[zt];rfl
 rw[ex]
 have bi:(Wt s t.2).length<=65536:=by unfold Wt;rw[AO,As];omega
 have a7:=H1.keep aA
 refine(za5 (gl:=gl) (t:=Wt s t.2) (by omega) (R:=λr=>r=(Go.X.bl (Qt (Wt s t.2)).1,((Qt (Wt s t.2)).2.1:Int),(Qt (Wt s t.2)).2.2)) rfl).go hM a7.ag (yr (a:=Arg.mk .str _) (rdStr _) jq) λv ab M' rr L aV hr=>?_
 subst hr
 rw[zil aV]
 refine⟨_,_,_,rfl,?_⟩
 have am:Keep h1.size h1 ab:=aA.trans (c:=ab) (m:=h1.size) ⟨L.keep.size,λj hj=>L.keep.get j (by omega)⟩ (Ac _)
 have ae:Keep g.size g ab:=k1.trans (c:=ab) (m:=g.size) ⟨am.size,λj hj=>am.get j (by omega)⟩ (Ac _)
 have ah:=H1.keep am
 have bj:=L.keep.size
 have a6:Blk ab h1.size #[.int .i64 t.2.1,.int .i64 t.2.2]:=ax.keep (L.keep.get h1.size (by omega))
 have au:Blk ab g.size #[.int .i64 0,.int .i64 0]:=B1.keep (am.get g.size (by omega))
 have aE:=ro.frame (λc hc=>ae.get c (ro.own c hc).2.1) (Fr.le.refl M) λc hc=>(ro.own c hc).2.2
 have aT:=aE.rd ah.ag (all:=hb) (λc hc=>hc) (by rw[AM];exact hσ)
 have aP:=MxL.ag ah.ag hb
 have bq:hd.len=σ.length:=by rw[ro.len,AM]
 generalize be:(Qt (Wt s t.2)).1=key at eQ
 refine⟨λi h=>h=ab/\∃n:Nat,i=(n:Int)/\n<=σ.length/\∀j (hj:j<σ.length),j<n->σ[j]≠key,λi _=>σ.length-i.toNat,⟨rfl,0,rfl,by omega,λj _ hj=>by omega⟩,?_⟩
 rintro i h ⟨rfl,n,rfl,hn,aF⟩
 refine⟨λai=>?_,λaC=>?_⟩
 ·have ai:n<σ.length:=by have:=of_decide_eq_true ai;omega
  obtain⟨ad,⟨q1,q2,q3⟩,x,q4,q5⟩:=z5r aP aT (k:=n) (by rw[AM];exact ai) (i:=(n:Int)) rfl (L:=hd.len) rfl (Q:=λx=>x=Go.X.bl σ[n]) (by rw[List.getElem_map])
  subst q5
  refine⟨ad,⟨q1,q2,q3⟩,_,q4,?_⟩
  rw[zb5]
  refine⟨λhy=>?_,λhy=>?_⟩
  ·have hy:σ[n]=key:=of_decide_eq_true hy
   refine Qu ah λg' P' S'=>⟨false,rfl,?_⟩
   have hz:=S'.le
   refine za9 (au.keep (S'.fr g.size (by omega) (Z _ (Ac _)))) λg2 f2 z2 B2=>⟨_,_,z0l B2,?_⟩
   refine hK false g2 st _ _ [] (0,0) (P'.off (Z _ (Ac _)) (ak _ (Ac _)) z2 f2) (((Stp.keep (O:=O) ae).trans S').loc (Ac _) z2 f2) rfl ?_
   rw[eQ,if_pos (by rw[<-hy];exact AP ai)];exact⟨rfl,rfl⟩
  ·have hy:¬σ[n]=key:=of_decide_eq_false hy
   rw[w64 (by omega)]
   refine⟨⟨rfl,n+1,by omega,by omega,λj hj br=>?_⟩,by dsimp only;omega⟩
   rcases AF j n with h|h
   ·exact aF j hj h
   ·have:j=n:=by omega
    subst this;exact hy
 ·have aC:σ.length<=n:=by have:=of_decide_eq_false aC;omega
  have aG:¬key∈σ:=λhm=>by
   obtain⟨j,hj,e⟩:=AY hm
   exact aF j hj (by omega) e
  rw[if_neg aG]at eQ
  obtain⟨kk,c1,A2,aU⟩:=zgn ah aH hl
  refine⟨_,rfl,_,by rw[zi];exact c1,_,rfl,?_⟩
  rw[zi]
  refine aU λbh aJ af=>?_
  have ba:=af.le
  have aQ:=a6.keep (af.fr h1.size (by omega) (Z _ (by omega)))
  have ar:=au.keep (af.fr g.size (by omega) (Z _ (by omega)))
  refine⟨t.2.1,t.2.2,z0l aQ,?_⟩
  have ap:=Stp.keep (O:=O) ae
  refine z3p aJ hl (by omega) (λh7 aN az aa=>⟨true,rfl,?_⟩) (λh7 aN az aa=>⟨false,rfl,?_⟩)
  ·have aB:=aa.le
   refine⟨aa.fr h1.size (by omega) (Z _ (by omega)),aa.fr h1.size (by omega) (Z _ (by omega)),?_⟩
   refine za9 (ar.keep (aa.fr g.size (by omega) (Z _ (by omega)))) λg2 f2 z2 B2=>⟨_,_,z0l B2,?_⟩
   refine hK true g2 st.skip.skip _ _ key t.2 (az.off (Z _ (Ac _)) (ak _ (Ac _)) z2 f2) (((ap.trans af).trans aa).loc (Ac _) z2 f2) (by rw[qu,qu]) ?_
   rw[eQ,if_pos h7];exact⟨rfl,rfl⟩
  ·have aB:=aa.le
   refine⟨aa.fr h1.size (by omega) (Z _ (by omega)),aa.fr h1.size (by omega) (Z _ (by omega)),?_⟩
   refine za9 (ar.keep (aa.fr g.size (by omega) (Z _ (by omega)))) λg2 f2 z2 B2=>⟨_,_,z0l B2,?_⟩
   refine hK false g2 st.skip _ _ key t.2 (az.off (Z _ (Ac _)) (ak _ (Ac _)) z2 f2) (((ap.trans af).trans aa).loc (Ac _) z2 f2) (by rw[qu]) ?_
   rw[eQ,if_neg h7];exact⟨rfl,rfl⟩
end
end
section
def zxb(g:za)(bp:Nat):Nat:=match zc g ⟨bp,1,none⟩,zc g ⟨bp,2,none⟩with
 |some (.slice _ n _),some (.int _ k)=>n-k.toNat
 |_,_=>0
theorem RS.left{lo:Nat}{g:za}{M:Fr}{bp:Nat}{s:Bs}{l:List Tk}{st:PSt}{a e:Int}{O:Nat->Prop}(H:RS lo g M bp s l st a e O):zxb g bp=st.rest.length:=by
 obtain⟨ls,k,na,sl,b,cs,W,A,h1,rfl⟩:=H
 unfold zxb
 rw[W.blk.cell (o:=1) (v:=slV ls) rfl,W.blk.cell (o:=2) (v:=.int .i64 (k:Int)) rfl]
 show ls.len-(k:Int).toNat=_
 rw[A.rest,As,(rowLen W.rd).1,Af]
theorem qab:ElemT Tp 23 9 (.string ⟨#[]⟩) (sz .str) 16:=⟨by kernel_rfl,⟨Tryz.t9,by kernel_rfl,by kernel_rfl,by kernel_rfl,by kernel_rfl⟩,rfl,by decide⟩
def z8h(lo:Nat)(M:Fr)(bp:Nat)(s:Bs)(l:List Tk)(lv:Int)(val:zko):Prop:=
 ∀(key:Sp) (g:za) (st:PSt) (a e:Int) (O:Nat->Prop),RS lo g M bp s l st a e O->st.nodes.length<=4096->st.T<=200000->(∀t∈st.rest,TkW s t) ->
  ∀K:Value->za->Prop,(∀b g' st' a' e' O',RS lo g' M bp s l st' a' e' O'->Stp g O g' O'->st.nodes.length<=st'.nodes.length->Ans (val key st) b st' a' e'->K (.bool b) g')->XC Tp 64 #[.pointer (some ⟨bp,0,none⟩),.int .i64 lv,.agg #[.int .i64 key.1,.int .i64 key.2]] g K
section
variable {lo : Nat} {g : za} {M gl : Fr} {bp : Nat} {s : Bs} {l : List Tk} {st : PSt} {a e : Int} {O : Nat -> Prop} {K : Value -> za -> Prop} {val : zko}
set_option maxRecDepth 100000 in
set_option maxHeartbeats 4000000 in
theorem zxc(hg:GL gl)(hM:Fr.le gl M)(hs:s.length<=65536)(hl:l.length<=65536){aP lv:Int}(da:Aa .i64 (aP+1)=lv)(hv:z8h lo M bp s l lv val)(bE:zy7 val)
  {closing:Int} (cm:closing≠0) (eu:closing≠6) {kid:zmi} (aO:(closing=3/\kid=znf s val)\/(closing≠3/\kid=zcc val)) (H:RS lo g M bp s l st a e O) (h4:st.nodes.length<=4096) (hT:st.T<=200000) (hw:∀t∈st.rest,TkW s t) (dw:st.rest.length<l.length) {n:Nat} (hn:n<st.nodes.length)
  (hK:∀b g' st' a' e' O',RS lo g' M bp s l st' a' e' O'->Stp g O g' O'->st.nodes.length<=st'.nodes.length->Ans (Xl s n closing kid st) b st' a' e'->K (.bool b) g'):
  XC Tp 125 #[.pointer (some ⟨bp,0,none⟩),.int .i64 (n:Int),.int .i64 aP,.int .i64 closing] g K:=by
 have bT:zot kid:=by
  rcases aO with⟨_,rfl⟩|⟨_,rfl⟩
  ·exact zqy bE
  ·exact zj2 bE
 apply Q2
 have Hc:=H
 obtain⟨ls,k,na,sl,b,cs,W,A,dN,eO⟩:=Hc
 have dS:=(rowLen W.rd).1
 have hk:0<k:=by
  have:=A.rest
  rcases CY k with h|h
  ·rw[h,BB]at this;rw[this]at dw;omega
  ·exact h
 have dU:=A.le
 have bL:k-1<l.length:=by omega
 obtain⟨tb,o,e1,e2,e3,e4⟩:=ztb W.ag W.rd bL
 have bG:=A.last _ hk (Ak bL)
 have df:Aa .i64 ((k:Int)-1)=((k-1:Nat):Int):=by rw[w64 (by omega)];omega
 have dQ:∀c,g.size<=c->¬O c:=λc hc h=>by have:=(H.own h).2.1;omega
 have cq:∀c,g.size<=c->M c=none:=λc hc=>by
  cases e:M c with
  |none=>rfl
  |some x=>have:=H.ag.lt e;omega
 refine⟨_,rfl,ls,by rw[zi];exact W.blk.cell rfl,_,rfl,(k:Int),by rw[zi];exact W.blk.cell rfl,_,⟨e1,by omega,by omega⟩,st.last,?_,?_⟩
 ·rw[zi,zi,zi,df,Af,bG];exact e4
 refine Jr H ⟨_,rfl,λhx=>?_,λhx=>?_⟩
 ·have hx:st.kind=closing:=by simpa using hx
  obtain⟨k2,c1,A2,bm⟩:=zgn H (PSt.ne_kind hx cm) (by omega)
  refine⟨_,rfl,_,by rw[zi];exact c1,_,rfl,?_⟩
  rw[zi]
  refine bm λg' P' S'=>hK true g' st.skip a e O P' S' (by rw[qu];exact Ac _) ?_
  unfold Xl;rw[if_pos hx];exact⟨rfl,rfl⟩
 have dM:¬st.kind=closing:=by simpa using hx
 refine⟨λbI cz h=>∃(f:Nat) (σ:List Bs) (Z:PSt) (a1 e1:Int) (O1:Nat->Prop) (aH:List Nat),RS lo h M bp s l Z a1 e1 O1/\ORow g.size h M .str (σ.map Go.X.bl) bI aH/\(∀c∈aH,¬O1 c)/\Stp g O h O1/\Okk st Z 0/\Z.rest.length<f/\σ.length+Z.rest.length<=200000/\Xl s n closing kid st=Jy s n closing kid f σ Z/\cz=Z.last,λ_ _ h=>zxb h bp,
  ⟨st.rest.length+1,[],st,a,e,O,[],H,.nil,λc hc=>(by cases hc),Stp.refl g O,Okk.refl st,by omega,by rw[CP];omega,by unfold Xl;rw[if_neg dM],rfl⟩,?_⟩
 rintro bI cz h18 ⟨f,σ,Z,a1,e1,O1,aH,P1,ro,aI,S1,ar,hf,hσ,hL,rfl⟩
 obtain⟨f,rfl⟩:∃f',f=f'+1:=⟨f-1,by omega⟩
 have eb:n<Z.nodes.length:=by have:=ar.n;omega
 have c7:=P1.left
 have ee:=S1.le
 intro ak
 have bH:Keep h18.size h18 ak:=Keep.push _ _ (Ac _)
 have d5:ak.size=h18.size+1:=Al _
 have bM:Blk ak h18.size #[.int .i64 0,.int .i64 0]:=Blk.new _ _ _
 clear_value ak
 have cA:=P1.keep bH
 have bC:Stp g O ak O1:=S1.trans (Stp.keep bH)
 have aj:=ro.frame (λc hc=>bH.get c (ro.own c hc).2.1) (Fr.le.refl M) λc hc=>(ro.own c hc).2.2
 have bB:∀c,O1 c->c<h18.size:=λc h=>(P1.own h).2.1
 intro dy cj
 have bY:∀(aE:Sl) (an:za) (σ':List Bs) (aB:List Nat) (key:Sp) (ab:PSt) (a2 e2:Int),RS lo an M bp s l ab a2 e2 O1->ORow g.size an M .str (σ'.map Go.X.bl) aE aB->(∀c∈aB,¬O1 c)->Blk an h18.size #[.int .i64 key.1,.int .i64 key.2]->Stp g O an O1->Okk Z ab 0->ab.nodes=Z.nodes->σ'.length+ab.rest.length<=200000->kid σ Z=(match val key ab with | .inl st'=>.inl (σ',st') | .inr e=>.inr e)->dy aE an:=by
  intro aE an σ' aB key ab a2 e2 cp aC aJ dz cE bS aV em ae
  refine cj aE an ?_
  have ah:=ar.trans bS
  have Pc:=cp
  obtain⟨dP,k1,ec,cb,b1,d8,W1,A1,bF,dV⟩:=Pc
  have l1:cb.len=Z.nodes.length:=by rw[W1.ns.len,<-aV,<-bF,AM]
  refine⟨_,rfl,cb,by rw[zi];exact W1.blk.cell rfl,key.1,key.2,z0l dz,?_⟩
  rw[da,l1]
  refine hv key an ab a2 e2 O1 cp (ah.m h4) (by have:=ah.t;omega) (λt ht=>hw t (ah.w t ht)) _ λbb g2 aa a3 e3 O2 P2 S2 n2 A2=>⟨bb,rfl,λhb=>?_,λhb=>?_⟩
  ·have hb:bb=false:=by simpa using hb
   subst hb
   refine hK false g2 aa a3 e3 O2 P2 (cE.trans S2) (by have:=ah.n;omega) ?_
   rw[hL,Jy,ae]
   cases hr:val key ab with
   |inl t=>rw[hr]at A2;exact absurd A2.1 (by simp)
   |inr x=>rw[hr]at A2;exact⟨rfl,A2.2⟩
  have hb:bb=true:=by simpa using hb
  subst hb
  have a8:val key ab=.inl aa:=by
   cases hr:val key ab with
   |inl t=>rw[hr]at A2;rw[A2.2]
   |inr x=>rw[hr]at A2;exact absurd A2.1 (by simp)
  rw[a8]at ae
  have ae:kid σ Z=.inl (σ',aa):=ae
  have ok2:=bE _ _ _ a8
  have aM:=bT _ _ _ _ ae
  rw[Jy,ae]at hL
  dsimp only at hL
  have ba:=cE.trans S2
  refine Jr P2 ⟨_,rfl,λv h=>h=g2/\∃x:Int,v=.int .i64 x/\(¬aa.kind=6->x=aa.kind),λh6=>Jr P2 ⟨_,rfl,rfl,_,rfl,λ_=>rfl⟩,λh6=>⟨0,rfl,0,rfl,λhh=>absurd (by simpa using h6) hh⟩,λ_ v h ⟨_,x,hx,_⟩=>⟨x,hx⟩,?_⟩
  rintro x h34 ⟨rfl,x',dJ,dr⟩
  cases dJ
  have bo:(bif (aa.kind != 6)then(x != closing)else false)=!decide (aa.kind=6\/aa.kind=closing):=by
   by_cases h6:aa.kind=6
   ·simp[h6]
   ·rw[dr h6]
    by_cases af:aa.kind=closing
    ·simp[h6,af]
    ·simp[h6,af]
  rw[bo]
  refine⟨λhy=>?_,λhy=>?_⟩
  ·have hy:¬(aa.kind=6\/aa.kind=closing):=by simpa using hy
   rw[if_neg (λh=>hy (.inr h)),if_neg (λh=>hy (.inl h))]at hL
   refine Qu P2 λg' P' S'=>⟨false,rfl,hK false g' _ _ _ _ P' (ba.trans S') (by have:=ah.n;omega) ?_⟩
   rw[hL];exact⟨rfl,rfl⟩
  have hy:aa.kind=6\/aa.kind=closing:=of_decide_eq_true (by rwa[Bool.not_eq_false']at hy)
  have ai:aa.rest≠[]:=by
   rcases hy with h|h
   ·exact PSt.ne_kind h (by omega)
   ·exact PSt.ne_kind h cm
  have dI:=P2
  obtain⟨d6,k2,na,sl,b,cs,W,bO,h1,dv⟩:=dI
  have d9:na.length=aa.nodes.length:=by rw[<-h1,AM]
  have aU:n<na.length:=by have:=aM.n;omega
  obtain⟨q1,q2,q3,q4,q5⟩:=W.ns.cell aU
  have du:ndW na[n].1<=200000:=by
   have h:na[n].1∈aa.nodes:=by rw[<-h1];exact List.mem_map_of_mem (AP aU)
   have:=zv3 h;have:=aM.t;have:=ar.t;omega
  unfold ndW at du
  have ei:sl.len=na.length:=W.ns.len
  have bD:bp<h34.size:=W.blk.lt
  have cL:b<h34.size:=(W.ns.own (.inl ⟨q3,rfl⟩)).2.1
  refine⟨_,rfl,sl,by rw[zi];exact W.blk.cell rfl,_,rfl,sl,by rw[zi];exact W.blk.cell rfl,⟨b,0,none⟩,⟨q1,by omega,by omega⟩,na[n].2.ks,?_,?_⟩
  ·rw[zi,zi,Af,Az];exact q5 5 _ (by omega) rfl
  intro aF
  have am:Keep h34.size h34 aF:=Keep.push _ _ (Ac _)
  have ea:aF.size=h34.size+1:=Al _
  have c8:Blk aF h34.size #[.int .i64 (Z.nodes.length:Int)]:=Blk.new _ _ _
  clear_value aF
  have cM:NSt lo h34 M na sl b aF na cs:=⟨W.ns.frame am.size λc hc=>am.get c (W.ns.own hc).2.1,am.size,λc h=>.inl h,λj hj _=>am.get j hj⟩
  obtain⟨aZ,di⟩:=W.nst cM
  have b8:lo<=aF.size:=by have:=(aZ.own (.inl rfl));omega
  refine⟨by rw[zi,zi];exact am.get b cL,by rw[zi];exact am.get bp bD,by rw[zi];exact am.get bp bD,?_⟩
  refine NS.addK z7a (by omega) aZ.ag b8 aZ.ns aU c8 (by omega) rfl λs' ep aQ cQ dT dE bm=>⟨s',rfl,⟨b,0,none⟩,⟨q1,by omega,by omega⟩,?_⟩
  refine⟨by rw[zi];exact(dE bp (by omega) W.nb).trans (am.get bp bD),?_⟩
  rw[zi,zi,Af,Az]
  refine yy qas qat cQ (by omega) rfl λau u1 u2 u3=>?_
  obtain⟨ay,cG⟩:=aZ.nst (bm au u1 u2 u3)
  have be:n<(na.modify n (axK (Z.nodes.length:Int) s' aQ)).length:=by rw[List.length_modify];exact aU
  have bn:(na.modify n (axK (Z.nodes.length:Int) s' aQ))[n]=axK (Z.nodes.length:Int) s' aQ na[n]:=by rw[List.getElem_modify,if_pos rfl]
  obtain⟨r1,r2,r3,r4,r5⟩:=ay.ns.cell be
  rw[bn]at r5
  have ed:=cG.le
  refine⟨_,rfl,sl,by rw[zi];exact ay.blk.cell rfl,_,rfl,sl,by rw[zi];exact ay.blk.cell rfl,⟨b,0,none⟩,⟨q1,by omega,by omega⟩,na[n].2.ps,?_,?_⟩
  ·rw[zi,zi,Az];exact r5 6 _ (by omega) rfl
  have dt:RS lo au M bp s l ⟨aa.rest,aa.last,(na.modify n (axK (Z.nodes.length:Int) s' aQ)).map (·.1)⟩ a3 e3 _:=⟨_,_,_,_,_,_,ay,bO.same rfl rfl,rfl,rfl⟩
  refine zpg dt ⟨_,rfl,rfl,rfl,rfl,rfl,rfl,rfl,?_⟩
  intro aG
  have ap:Keep au.size au aG:=Keep.push _ _ (Ac _)
  have d7:aG.size=au.size+1:=Al _
  have dq:Blk aG au.size #[.int .i64 Z.last,.int .i64 (aa.here s.length)]:=Blk.new _ _ _
  clear_value aG
  refine⟨by rw[zi,zi];exact ap.get b (by omega),by rw[zi];exact ap.get bp (by omega),by rw[zi];exact ap.get bp (by omega),?_⟩
  have dG:NSt lo au M _ sl b aG _ _:=⟨ay.ns.frame ap.size λc hc=>ap.get c (ay.ns.own hc).2.1,ap.size,λc h=>.inl h,λj hj _=>ap.get j hj⟩
  obtain⟨aL,dl⟩:=ay.nst dG
  have cu:lo<=aG.size:=by have:=(aL.own (.inl rfl));omega
  refine NS.addP z7b (by omega) aL.ag cu aL.ns be (k:=(Z.last,aa.here s.length)) dq (by rw[bn];show na[n].1.2.2.2.2.length<=_;omega) (by rw[bn];rfl) λs2 eo cP dx dY de ck=>⟨s2,rfl,⟨b,0,none⟩,⟨q1,by omega,by omega⟩,?_⟩
  refine⟨by rw[zi];exact(de bp (by omega) aL.nb).trans (ap.get bp (by omega)),?_⟩
  rw[zi,zi,Az]
  refine yy qau qav dx (by omega) rfl λcF v1 v2 v3=>?_
  obtain⟨dF,dC⟩:=aL.nst (ck cF v1 v2 v3)
  have aS:((na.modify n (axK (Z.nodes.length:Int) s' aQ)).modify n (axP (Z.last,aa.here s.length) s2 cP)).map (·.1)=(aa.addKid n (Z.nodes.length:Int) (Z.last,aa.here s.length)).nodes:=by
   rw[xn (f':=λx=>(x.1,x.2.1,x.2.2.1,x.2.2.2.1,x.2.2.2.2++[(Z.last,aa.here s.length)])) (λp=>rfl),xn (f':=λx=>(x.1,x.2.1,x.2.2.1,x.2.2.2.1++[(Z.nodes.length:Int)],x.2.2.2.2)) (λp=>rfl),h1]
   unfold PSt.addKid
   apply Bc
   intro i
   rw[Bn,Bn,Bn]
   cases aa.nodes[i]? with
   |none=>rfl
   |some x=>by_cases e:n=i <;> simp[e,zs0]
  have bz:RS lo cF M bp s l (aa.addKid n (Z.nodes.length:Int) (Z.last,aa.here s.length)) a3 e3 _:=⟨_,_,_,_,_,_,dF,bO.same rfl rfl,aS,rfl⟩
  have aN:=((di.trans cG).trans dl).trans dC
  rw[<-dv]at aN
  have bg:=ba.trans aN
  have cc:(aa.addKid n (Z.nodes.length:Int) (Z.last,aa.here s.length)).kind=aa.kind:=rfl
  have bU:(aa.addKid n (Z.nodes.length:Int) (Z.last,aa.here s.length)).here s.length=aa.here s.length:=rfl
  have cY:=zdh aa n (Z.nodes.length:Int) (Z.last,aa.here s.length)
  refine Jr bz ⟨_,rfl,zpg bz ⟨_,rfl,?_⟩⟩
  rw[cc,bU]
  obtain⟨kk,c1,A3,cn⟩:=zgn bz (show(aa.addKid n (Z.nodes.length:Int) (Z.last,aa.here s.length)).rest≠[]from ai) (by omega)
  refine⟨_,rfl,_,by rw[zi];exact c1,_,rfl,?_⟩
  rw[zi]
  refine cn λcg bq bj=>⟨λaf=>?_,λaf=>?_⟩
  ·have af:aa.kind=closing:=by simpa using af
   rw[if_pos af]at hL
   refine hK true cg _ _ _ _ bq (bg.trans bj) (by rw[qu];have:=ah.n;omega) ?_
   rw[hL];exact⟨rfl,rfl⟩
  ·have af:¬aa.kind=closing:=by simpa using af
   have h6:aa.kind=6:=by
    rcases hy with h|h
    ·exact h
    ·exact absurd h af
   rw[if_neg af,if_pos h6]at hL
   have bu:=Xe bT ae (n:=n) (k:=(Z.nodes.length:Int)) (p:=(Z.last,aa.here s.length)) ai
   have bV:=aN.trans bj
   have bh:=S2.trans bV
   refine⟨⟨f,σ',_,_,_,_,aB,bq,?_,?_,bg.trans bj,(ar.trans bu).le (by omega),by have:=bu.r;omega,?_,hL,?_⟩,?_⟩
   ·exact aC.frame (λc hc=>bh.fr c (aC.own c hc).2.1 (aJ c hc)) (Fr.le.refl M) λc hc=>(aC.own c hc).2.2
   ·intro c hc ho
    rcases bh.sub c ho with h|h
    ·exact aJ c hc h
    ·have:=(aC.own c hc).2.1;omega
   ·have:=ok2.r
    obtain⟨t,r,er⟩:=AX ai
    have e1:(aa.addKid n (Z.nodes.length:Int) (Z.last,aa.here s.length)).skip.rest.length+1=aa.rest.length:=z0d (st:=aa.addKid n (Z.nodes.length:Int) (Z.last,aa.here s.length)) ai
    omega
   ·obtain⟨t,r,er⟩:=AX ai
    have en:t.1=6:=by unfold PSt.kind at h6;rw[er]at h6;exact h6
    obtain⟨w1,w2,w3,w4⟩:=hw t (ar.w t (aM.w t (by rw[er];simp)))
    have w5:=w4 (by omega)
    have e1:aa.here s.length=t.2.1:=by unfold PSt.here;rw[er]
    have e2:(aa.addKid n (Z.nodes.length:Int) (Z.last,aa.here s.length)).skip.last=t.2.2:=by
     unfold PSt.skip PSt.addKid;dsimp only;rw[er]
    rw[e1,e2]at *
    rw[w64 (by omega)];omega
   ·have e1:=bq.left
    have:=bu.r
    show zxb cg bp<zxb h18 bp
    rw[e1,c7];omega
 have cJ:Okk Z Z 0:=Okk.refl Z
 refine⟨λh3=>?_,λh3=>?_⟩
 ·have h3:closing=3:=by simpa using h3
  have ae:kid=znf s val:=by
   rcases aO with⟨_,h⟩|⟨h,_⟩
   ·exact h
   ·exact absurd h3 h
  have eh:∀c,g.size<=c->M c=none:=cq
  refine z7d hg hM hs (by omega) cA (λt ht=>hw t (ar.w t ht)) aj (by omega) aI λbb ax ab a2 e2 x sp dB ca aV AQ=>⟨_,_,_,_,rfl,?_⟩
  intro aY
  have dL:Keep ax.size ax aY:=Keep.push _ _ (Ac _)
  have ek:aY.size=ax.size+1:=Al _
  have dD:Blk aY ax.size #[.int .i64 0,.int .i64 0]:=Blk.new _ _ _
  clear_value aY
  have d0:=ca.le
  refine za9 dD λaz cZ dZ cV=>?_
  have bZ:Keep ax.size ax az:=⟨by omega,λj hj=>(cZ j (by omega)).trans (dL.get j hj)⟩
  have cC:=dB.keep bZ
  have cy:Stp ak O1 az O1:=ca.trans (Stp.keep bZ)
  refine⟨λhb=>?_,λhb=>?_⟩
  ·have hb:bb=false:=by simpa using hb
   subst hb
   refine hK false az ab a2 e2 O1 cC (bC.trans cy) (by rw[aV];exact ar.n) ?_
   rw[hL,Jy,ae,zj3]
   cases hr:zv4 s σ Z with
   |inl t=>rw[hr]at AQ;exact absurd AQ.1 (by simp)
   |inr y=>rw[hr]at AQ;exact⟨rfl,AQ.2⟩
  have hb:bb=true:=by simpa using hb
  subst hb
  have bP:zv4 s σ Z=.inl (x,sp,ab):=by
   cases hr:zv4 s σ Z with
   |inl t=>rw[hr]at AQ;rw[AQ.2]
   |inr y=>rw[hr]at AQ;exact absurd AQ.1 (by simp)
  obtain⟨a6,_⟩:=z0e bP
  have a6:Okk Z ab 4:=a6
  intro aA
  have bi:Keep az.size az aA:=Keep.push _ _ (Ac _)
  have ej:aA.size=az.size+1:=Al _
  have dm:Blk aA az.size #[.string (Go.X.bl x)]:=Blk.new _ _ _
  clear_value aA
  have b9:=cC.keep bi
  have aT:Stp ak O1 aA O1:=cy.trans (Stp.keep bi)
  have cd:=aj.frame (λc hc=>aT.fr c (aj.own c hc).2.1 (aI c hc)) (Fr.le.refl M) λc hc=>(aj.own c hc).2.2
  have dO:=aT.le
  have nh:∀c∈aH,c<h18.size:=λc hc=>(ro.own c hc).2.1
  refine ORow.app qab (by omega) b9.ag cd (by omega) dm (x:=Go.X.bl x) rfl (by rw[AM];omega) λs' br cO bQ cT cH a7=>⟨s',rfl,sp.1,sp.2,?_,?_⟩
  ·refine z0l (cV.keep ?_)
   rw[a7 ax.size (by omega) λhm=>by have:=nh _ hm;omega]
   exact bi.get _ (by omega)
  have co:∀j,j<aA.size->(O1 j\/M j≠none)->br[j]?=aA[j]?:=λj hj ho=>a7 j hj λhm=>by
   rcases ho with ho|ho
   ·exact aI j hm ho
   ·exact ho (ro.own j hm).2.2
  have dA:=b9.frame cT λc hc ho=>co c hc ho
  have dh:Blk br h18.size #[.int .i64 0,.int .i64 0]:=by
   refine bM.keep ?_
   rw[a7 h18.size (by omega) λhm=>by have:=nh _ hm;omega]
   exact aT.fr _ (by omega) λho=>by have:=bB _ ho;omega
  refine za9 dh λdb bJ cB dH=>?_
  have bA:¬O1 h18.size:=λho=>by have:=bB _ ho;omega
  refine bY s' db (σ++[x]) cO sp ab a2 e2 (dA.off bA (cq _ (by omega)) cB bJ) ?_ ?_ dH ?_ (a6.le (by omega)) aV ?_ ?_
  ·rw[CQ]
   refine bQ.frame (λc hc=>bJ c λe=>?_) (Fr.le.refl M) λc hc=>(bQ.own c hc).2.2
   rcases cH c hc with h|h
   ·have:=nh c h;omega
   ·omega
  ·intro c hc ho
   rcases cH c hc with h|h
   ·exact aI c h ho
   ·have:=bB c ho;omega
  ·have Sg:Stp g O br O1:=by
    have A0:=bC.trans aT
    refine⟨by have:=A0.le;omega,A0.sub,λj hj hn=>?_⟩
    rw[a7 j (by have:=A0.le;omega) λhm=>by have:=(ro.own j hm).1;omega]
    exact A0.fr j hj hn
   exact Sg.loc (by omega) cB bJ
  ·rw[Ar]
   have:=a6.r
   show σ.length+1+ab.rest.length<=_
   omega
  ·rw[ae,zj3,bP];rfl
 ·have h3:¬closing=3:=by simpa using h3
  have ae:kid=zcc val:=by
   rcases aO with⟨h,_⟩|⟨_,h⟩
   ·exact absurd h h3
   ·exact h
  exact bY bI ak σ aH (0,0) Z a1 e1 cA aj aI bM bC cJ rfl hσ (by rw[ae];unfold zcc;rfl)
end
end
section
theorem z7e:ElemT Tp 34 62 (.agg #[.int .i64 0,.int .i64 0,.int .i64 0,.int .i64 0,.int .i64 0,.slice none 0 0,.slice none 0 0]) 7 88:=⟨by kernel_rfl,⟨Tryz.t62,by kernel_rfl,by kernel_rfl,by kernel_rfl,by kernel_rfl⟩,rfl,by decide⟩
theorem qax:qf Tp 34=true:=by kernel_rfl
theorem qay:qw Tp 34=1:=by kernel_rfl
theorem qbg:qf Tp 154=true:=by kernel_rfl
theorem qbh:qw Tp 154=1:=by kernel_rfl
section
variable {lo : Nat} {M gl : Fr} {bp : Nat} {s : Bs}
set_option maxRecDepth 100000 in
set_option maxHeartbeats 4000000 in
theorem zzm(hg:GL gl)(hM:Fr.le gl M)(hs:s.length<=65536):∀d:Nat,d<=32->qaa lo M bp s (33-(d:Int)) (Qb s d):=by
 intro d
 induction d with
 |zero=>
  intro hd key g st a e O P h4 hT hw K hK
  apply Zi
  intro h1 h2
  have k1:Keep g.size g h1:=Keep.push _ _ (Ac _)
  have k2:Keep h1.size h1 h2:=Keep.push _ _ (Ac _)
  have z1:h1.size=g.size+1:=Al _
  have B1:Blk h1 g.size #[.pointer (some ⟨bp,0,none⟩)]:=Blk.new _ _ _
  clear_value h1 h2
  have ab:Keep g.size g h2:=k1.trans k2 (by omega)
  have B2:=B1.keep (k2.get g.size (by omega))
  refine⟨_,B2.cell rfl,zkk (P.keep ab) ⟨_,rfl,?_⟩⟩
  refine(zm4 (k:=st.kind) (R:=λr=>r=ya st.kind) rfl).go hM (P.keep ab).ag (yr (a:=Arg.mk (.int .i64) _) (Wm _ _) jq) λv h8 M' r L hv hr=>⟨r,z8b hv,?_⟩
  subst hr
  have aj:=L.keep
  have k8:Keep g.size g h8:=ab.trans aj ab.size
  have B8:=B2.keep (aj.get g.size (by have:=ab.size;have:=k2.size;omega))
  refine⟨λhx=>⟨_,B8.cell rfl,?_⟩,λhx=>⟨λhy=>⟨_,B8.cell rfl,?_⟩,λhy=>?_⟩⟩
  ·refine Jq (P.keep k8) λg' P' S'=>⟨false,rfl,hK false g' st _ _ O P' ((Stp.keep (O:=O) k8).trans S') (Ac _) ?_⟩
   rw[Qb,if_pos (by simpa using hx)];exact⟨rfl,rfl⟩
  ·refine Jq (P.keep k8) λg' P' S'=>⟨false,rfl,hK false g' st _ _ O P' ((Stp.keep (O:=O) k8).trans S') (Ac _) ?_⟩
   rw[Qb,if_neg (by simpa using hx)];exact⟨rfl,rfl⟩
  ·exact absurd (of_decide_eq_false hy) (by omega)
 |succ d ih=>
  intro hd key g st a e O P h4 hT hw K hK
  have ih:=ih (by omega)
  have aU:=zge s d
  apply Zi
  intro h1 h2
  have k1:Keep g.size g h1:=Keep.push _ _ (Ac _)
  have k2:Keep h1.size h1 h2:=Keep.push _ _ (Ac _)
  have z1:h1.size=g.size+1:=Al _
  have z2:h2.size=h1.size+1:=Al _
  have B1:Blk h1 g.size #[.pointer (some ⟨bp,0,none⟩)]:=Blk.new _ _ _
  have Bk2:Blk h2 h1.size #[.int .i64 key.1,.int .i64 key.2]:=Blk.new _ _ _
  clear_value h1 h2
  have ab:Keep g.size g h2:=k1.trans k2 (by omega)
  have B2:=B1.keep (k2.get g.size (by omega))
  refine⟨_,B2.cell rfl,zkk (P.keep ab) ⟨_,rfl,?_⟩⟩
  refine(zm4 (k:=st.kind) (R:=λr=>r=ya st.kind) rfl).go hM (P.keep ab).ag (yr (a:=Arg.mk (.int .i64) _) (Wm _ _) jq) λv h8 M' r L hv hr=>⟨r,z8b hv,?_⟩
  subst hr
  have aj:=L.keep
  have k8:Keep g.size g h8:=ab.trans aj ab.size
  have z8:h2.size<=h8.size:=aj.size
  have B8:=B2.keep (aj.get g.size (by omega))
  have bg:=Bk2.keep (aj.get h1.size (by omega))
  have P8:=P.keep k8
  have S8:Stp g O h8 O:=Stp.keep k8
  refine⟨λhx=>⟨_,B8.cell rfl,?_⟩,λhx=>⟨λhy=>?_,λhy=>?_⟩⟩
  ·refine Jq P8 λg' P' S'=>⟨false,rfl,hK false g' st _ _ O P' (S8.trans S') (Ac _) ?_⟩
   rw[Qb,if_pos (by simpa using hx)];exact⟨rfl,rfl⟩
  ·have:=of_decide_eq_true hy;omega
  have hx:¬ya st.kind=0:=by simpa using hx
  have aB:=zet hx
  obtain⟨t,r,er⟩:=AX aB
  have bi:=P8
  obtain⟨rs,lf,na,sl,b,cs,W,aF,eO⟩:=bi
  have bB:na.length=st.nodes.length:=by rw[<-aF,AM]
  have aE:sl.len=st.nodes.length:=by rw[W.ns.len,bB]
  refine⟨_,B8.cell rfl,_,rfl,sl,by rw[zi];exact W.blk.cell rfl,?_⟩
  rw[aE]
  refine⟨λhz=>⟨_,B8.cell rfl,?_⟩,λhz=>?_⟩
  ·refine Jq P8 λg' P' S'=>⟨false,rfl,hK false g' st _ _ O P' (S8.trans S') (Ac _) ?_⟩
   have hz:st.nodes.length=4096:=by have:=of_decide_eq_true hz;omega
   rw[Qb,if_neg hx,if_pos hz];exact⟨rfl,rfl⟩
  have hz:¬st.nodes.length=4096:=λh=>by have:=of_decide_eq_false hz;omega
  have eV:Qb s (d+1) key st=match zj1 s (Qb s d) st.nodes.length (ya st.kind) (st.open key)with
   |.inl st'=>.inl (st'.setTo st.nodes.length)
   |.inr e=>.inr e:=by rw[Qb,if_neg hx,if_neg hz];rfl
  have rd:=W.rd
  have hl:=(rowLen W.rd).1
  rw[er]at rd hl
  rw[AH]at hl
  obtain⟨tb,o,e1,e2,e3,e4⟩:=ztb W.ag rd (k:=0) (by simp)
  have ba:st.kind=t.1:=by unfold PSt.kind;rw[er]
  have bI:bp<h8.size:=W.blk.lt
  have aY:∀c,O c->c<g.size:=λc h=>(P.own h).2.1
  refine⟨_,B8.cell rfl,_,rfl,sl,by rw[zi];exact W.blk.cell rfl,_,B8.cell rfl,_,B8.cell rfl,_,rfl,sl,by rw[zi];exact W.blk.cell rfl,_,B8.cell rfl,_,rfl,rs,by rw[zi];exact W.blk.cell rfl,_,⟨e1,by omega,by omega⟩,t.2.1,t.2.2,?_,key.1,key.2,bg.ld (cs:=[.int .i64 key.1,.int .i64 key.2]),rfl,rfl,rfl,?_⟩
  ·rw[zi,zi]
   exact⟨by rw[zi];exact e3,by rw[zi];exact e4,trivial⟩
  intro ai
  have af:Keep h8.size h8 ai:=Keep.push _ _ (Ac _)
  have cc:ai.size=h8.size+1:=Al _
  have bq:Blk ai h8.size (ndC ((ya st.kind,t.2,key,[],[]),ax0)).toArray:=Blk.new _ _ _
  clear_value ai
  refine⟨by rw[zi];exact af.get bp bI,af.get g.size (by omega),af.get g.size (by omega),?_⟩
  have bA:NSt lo h8 M na sl b ai na cs:=⟨W.ns.frame af.size λc hc=>af.get c (W.ns.own hc).2.1,af.size,λc h=>.inl h,λj hj _=>af.get j hj⟩
  obtain⟨ah,bG⟩:=W.nst bA
  have aT:lo<=ai.size:=by have:=(ah.own (.inl rfl));omega
  refine NS.push z7e (by omega) ah.ag aT ah.ns (x:=(ya st.kind,t.2,key,[],[])) rfl rfl bq (by omega) λs' bT b' cs' bF bS aP aA=>⟨s',rfl,_,rfl,?_⟩
  have br:¬nsO na sl b g.size:=λh=>by have:=aY g.size (by rw[eO];exact .inr h);omega
  refine⟨(aA g.size (by omega) br).trans (af.get g.size (by omega)),?_⟩
  rw[zi]
  have aG:¬nsO (na++[((ya st.kind,t.2,key,[],[]),ax0)]) s' b' bp:=λh=>by
   rcases aP bp h with h|h
   ·exact W.nb h
   ·omega
  have aL:=ah.blk.keep (aA bp (by omega) ah.nb)
  refine yy qax qay aL (by show 4<7;omega) rfl λaz u1 u2 u3=>?_
  have bJ:PW lo az M bp s st.rest st.last a e rs lf (na++[((ya st.kind,t.2,key,[],[]),ax0)]) s' b' cs':=by
   refine⟨u1,W.rd,bF.frame (by omega) λc hc=>u3 c λh=>aG (h ▸ hc),zg5 ah.ag λj hj hm=>?_,W.bl,aG⟩
   rw[u3 j λh=>hm (h ▸ W.bl.2)]
   exact aA j hj λh=>hm (ah.ns.own h).2.2
  have a7:Stp ai (ppO bp na sl b) az (ppO bp (na++[((ya st.kind,t.2,key,[],[]),ax0)]) s' b'):=by
   refine⟨by omega,λc h=>?_,λj hj hn=>?_⟩
   ·rcases h with h|h
    ·exact .inl (.inl h)
    ·rcases aP c h with h|h
     ·exact .inl (.inr h)
     ·exact .inr h
   ·rw[u3 j λh=>hn (.inl h)]
    exact aA j hj λh=>hn (.inr h)
  have aM:PaS lo az M bp s ⟨st.rest,st.last,st.nodes++[(ya st.kind,t.2,key,[],[])]⟩ a e (ppO bp (na++[((ya st.kind,t.2,key,[],[]),ax0)]) s' b'):=⟨rs,lf,_,_,_,_,bJ,by rw[CQ,aF];rfl,rfl⟩
  have ak:Stp h8 O az (ppO bp (na++[((ya st.kind,t.2,key,[],[]),ax0)]) s' b'):=by rw[eO];exact bG.trans a7
  generalize ppO bp (na++[((ya st.kind,t.2,key,[],[]),ax0)]) s' b'=O45 at aM ak
  have ar:¬O g.size:=λh=>by have:=aY _ h;omega
  have bC:=B8.keep (ak.fr g.size (by omega) ar)
  refine⟨_,bC.cell rfl,zpf aM aB λZ am bn=>⟨rfl,?_⟩⟩
  have bP:(⟨st.rest,st.last,st.nodes++[(ya st.kind,t.2,key,[],[])]⟩:PSt).skip=st.open key:=by
   unfold PSt.skip PSt.open
   rw[ba]
   dsimp only
   rw[er]
  rw[bP]at am
  have ae:=ak.trans bn
  have bm:=ae.le
  have au:∀c,c<h8.size->¬O c->¬O45 c:=λc hc hn h=>by
   rcases ak.sub c h with h|h
   ·exact hn h
   ·omega
  have aC:=B8.keep (ae.fr g.size (by omega) ar)
  have ax:=zou (key:=key) aB hz
  have bL:(st.open key).nodes.length=st.nodes.length+1:=zeu aB
  intro be aJ
  have aH:∀(bb:Bool) (g':za) (st':PSt) (a' e':Int) (O':Nat->Prop),PaS lo g' M bp s st' a' e' O'->Stp g O g' O'->(st.open key).nodes.length<=st'.nodes.length->g'[g.size]?=Z[g.size]?->Ans (zj1 s (Qb s d) st.nodes.length (ya st.kind) (st.open key)) bb st' a' e'->be bb g':=by
   intro bb g' st' a' e' O' P' S' n' a6 A'
   refine aJ bb g' ?_
   have B':=aC.keep a6
   obtain⟨b9,bV,aQ,bD,b1,b8,W1,an,a8⟩:=P'
   have aS:st.nodes.length<aQ.length:=by
    have:aQ.length=st'.nodes.length:=by rw[<-an,AM]
    omega
   obtain⟨q1,q2,q3,q4,q5⟩:=W1.ns.cell aS
   refine⟨_,B'.cell rfl,_,rfl,bD,by rw[zi];exact W1.blk.cell rfl,_,B'.cell rfl,_,rfl,st'.last,by rw[zi,zi];exact W1.blk.cell rfl,⟨b1,0,none⟩,⟨q1,by omega,by have:=W1.ns.len;omega⟩,?_⟩
   rw[zi,zi,zi,Af,Az,aE]
   refine yy zm1 zm2 q2 (by omega) rfl λg2 u1 u2 u3=>?_
   obtain⟨W2,S2⟩:=W1.nst (W1.ns.toB aS u1 u2 u3)
   refine hK bb g2 (st'.setTo st.nodes.length) a' e' _ ⟨_,_,_,_,_,_,W2,?_,rfl⟩ (S'.trans (by rw[a8];exact S2)) (by rw[zcd];omega) ?_
   ·rw[xn (f':=z4i st'.last) (λp=>rfl),an];rfl
   ·rw[eV]
    cases hr:zj1 s (Qb s d) st.nodes.length (ya st.kind) (st.open key)with
    |inl x=>rw[hr]at A';exact⟨A'.1,by rw[A'.2]⟩
    |inr x=>rw[hr]at A';exact A'
  have aV:Aa .i64 (33-((d+1:Nat):Int)+1)=33-(d:Int):=by rw[w64 (by omega)];omega
  have bY:=ax.t
  refine⟨λh5=>⟨_,aC.cell rfl,_,aC.cell rfl,?_⟩,λh5=>⟨λh6=>?_,λh6=>?_⟩⟩
  ·have h5:ya st.kind=5:=by simpa using h5
   refine zxa (J:=λ_=>False) (D:=λ_=>False) (HI:=λ_ _=>True) (kid:=zcc (Qb s d)) (λ_ _ _ _ _=>trivial) aV (z3q ih) (zj2 aU) (by kernel_rfl) (by omega) am trivial (λj hj=>hj.elim) (ax.m h4) (by omega) (λx hx=>hw x (ax.w x hx)) (by omega) λbb g' st' a' e' O' P' S' n' A'=>⟨bb,rfl,aH bb g' st' a' e' O' P' ?_ n' ?_ ?_⟩
   ·exact(S8.trans ae).trans ⟨S'.le,S'.sub,λj hj hn=>S'.fr j hj hn (λh=>h)⟩
   ·exact S'.fr g.size (by omega) (au _ (by omega) ar) (λh=>h)
   ·rw[aE]at A';unfold zj1;rw[if_pos h5];exact A'
  ·have h5:¬ya st.kind=5:=by simpa using h5
   have h6:ya st.kind=6:=by simpa using h6
   intro aa ay
   have bM:Keep Z.size Z aa:=Keep.push _ _ (Ac _)
   have aN:Keep aa.size aa ay:=Keep.push _ _ (Ac _)
   have bU:aa.size=Z.size+1:=Al _
   have cb:ay.size=aa.size+1:=Al _
   have bz:MapAt aa Z.size []:=MapAt.new _
   have bH:Blk ay aa.size #[.map none]:=Blk.new _ _ _
   clear_value aa ay
   refine yy qbg qbh bH (by show 0<1;omega) rfl λaI u1 u2 u3=>?_
   have ap:Keep Z.size Z aI:=⟨by omega,λj hj=>by rw[u3 j (by omega),aN.get j (by omega),bM.get j hj]⟩
   have bE:MapAt aI Z.size []:=(bz.keep (aN.get _ (by omega))).keep (u3 _ (by omega))
   have bh:=am.keep ap
   have aO:=aC.keep (ap.get g.size (by omega))
   have bZ:Stp Z O45 aI O45:=Stp.keep ap
   have aZ:∀c,O45 c->c<Z.size:=λc h=>(am.own h).2.1
   have bj:∀c,g.size<=c->M c=none:=λc hc=>by
    cases e:M c with
    |none=>rfl
    |some x=>have:=P.ag.lt e;omega
   refine⟨_,aO.cell rfl,?_⟩
   refine zxa (J:=λj=>j=Z.size) (D:=λj=>j=g.size\/j=aa.size\/j=Z.size) (HI:=λσ g'=>Blk g' g.size #[.pointer (some ⟨bp,0,none⟩)]/\Blk g' aa.size #[.map (some Z.size)]/\z8g Z.size σ g') (kid:=znf s (Qb s d)) (λσ x y hx hf=>⟨hx.1.keep (hf _ (.inl rfl)),hx.2.1.keep (hf _ (.inr (.inl rfl))),?_⟩) aV ?_ (zqy aU) (by kernel_rfl) (by omega) bh ⟨aO,u1,[],bE,λk=>rfl⟩ (λj hj=>?_) (ax.m h4) (by omega) (λx hx=>hw x (ax.w x hx)) (by omega) λbb g' st' a' e' O' P' S' n' A'=>⟨bb,rfl,aH bb g' st' a' e' O' P' ?_ n' ?_ ?_⟩
   ·obtain⟨l,ml,mk⟩:=hx.2.2
    exact⟨l,ml.keep (hf _ (.inr (.inr rfl))),mk⟩
   ·intro σ x ca a1 e1 O1 P1 I1 J1 bO bo bu K1 bQ
    show XC Tp _ #[.int .i64 (33-(d:Int)),.pointer (some ⟨g.size,0,none⟩),.pointer (some ⟨aa.size,0,none⟩)] x K1
    apply J0
    refine⟨_,I1.1.cell rfl,_,I1.2.1.cell rfl,?_⟩
    refine z7c hg hM hs ih (J:=λj=>j=g.size\/j=aa.size\/j=Z.size) (.inr (.inr rfl)) P1 I1.2.2 J1 bO bo bu (λj hj=>bj j (by omega)) λbb g' st' a' e' O' σ' P' S' n' H' A'=>⟨bb,rfl,bQ bb g' st' a' e' O' σ' P' S' n' (λhb=>⟨I1.1.keep ?_,I1.2.1.keep ?_,H' hb⟩) A'⟩
    ·have:=J1 g.size (.inl rfl)
     exact S'.fr _ this.1 this.2 (by omega)
    ·have:=J1 aa.size (.inr (.inl rfl))
     exact S'.fr _ this.1 this.2 (by omega)
   ·refine⟨by omega,λh=>?_⟩
    have:=aZ j h
    rcases hj with rfl|rfl|rfl
    ·exact au _ (by omega) ar h
    ·omega
    ·omega
   ·refine(S8.trans ae).trans ⟨by have:=S'.le;omega,λc h=>?_,λj hj hn=>?_⟩
    ·rcases S'.sub c h with h|h
     ·exact .inl h
     ·exact .inr (by omega)
    ·rw[S'.fr j (by omega) hn (by omega)];exact ap.get j hj
   ·rw[S'.fr g.size (by omega) (au _ (by omega) ar) (by omega)];exact ap.get _ (by omega)
   ·rw[aE]at A';unfold zj1;rw[if_neg h5,if_pos h6];exact A'
  ·have h5:¬ya st.kind=5:=by simpa using h5
   have h6:¬ya st.kind=6:=by simpa using h6
   refine aH true Z (st.open key) a e O45 am (S8.trans ae) (Ac _) rfl ?_
   unfold zj1;rw[if_neg h5,if_neg h6];exact⟨rfl,rfl⟩
end
end
section
def ztd(k:Int):Int:=if k=12 then 1 else if k=10\/k=11 then 2 else if k=9 then 3 else if k=8 then 4 else 0
theorem zxd{gl:Fr}{k:Int}{R:Int->Prop}(h:R (ztd k)):PC Tp gl 123 [Arg.mk (.int .i64) k] [.int .i64] R:=by
 apply Xq
 unfold ztd at h
 refine⟨λhx=>?_,λhx K hK=>?_⟩
 ·rw[if_pos (by simpa using hx)]at h;exact h
 have hx:¬k=12:=by simpa using hx
 rw[if_neg hx]at h
 have key:∀b:Bool,b=decide (k=10\/k=11)->K b:=λb hb=>hK b ⟨λh1=>by
   rw[h1]at hb
   rw[if_pos (of_decide_eq_true hb.symm)]at h;exact h,λh1=>by
   rw[h1]at hb
   rw[if_neg (of_decide_eq_false hb.symm)]at h
   refine⟨λh2=>?_,λh2=>⟨λh3=>?_,λh3=>?_⟩⟩
   ·rw[if_pos (by simpa using h2)]at h;exact h
   ·rw[if_neg (by simpa using h2),if_pos (by simpa using h3)]at h;exact h
   ·rw[if_neg (by simpa using h2),if_neg (by simpa using h3)]at h;exact h⟩
 refine⟨λh1=>key _ ?_,λh1=>key _ ?_⟩
 ·have:k=10:=by simpa using h1
  rw[h1,this];rfl
 ·have:¬k=10:=by simpa using h1
  rw[AB,beq_iff_eq,decide_eq_true_eq];omega
theorem zxe(k:Int):ya k=if k=2 then 6 else if k=4 then 5 else ztd k:=by
 unfold ya ztd
 by_cases h2:k=2
 ·subst h2;rfl
 ·by_cases h4:k=4
  ·subst h4;rfl
  ·simp only[h2,h4,if_false]
section
variable {lo : Nat} {M gl : Fr} {bp : Nat} {s : Bs} {l : List Tk}
set_option maxRecDepth 100000 in
set_option maxHeartbeats 4000000 in
theorem zgo(hg:GL gl)(hM:Fr.le gl M)(hs:s.length<=65536)(hl:l.length<=65536){d:Nat}(hd:d<=32)(a7:∀d',d=d'+1->z8h lo M bp s l (33-(d':Int)) (Qb s d')):z8h lo M bp s l (33-(d:Int)) (Qb s d):=by
 intro key g st a e O P h4 hT hw K hK
 apply Qh
 intro h1
 have k1:Keep g.size g h1:=Keep.push _ _ (Ac _)
 have z1:h1.size=g.size+1:=Al _
 have bF:Blk h1 g.size #[.int .i64 key.1,.int .i64 key.2]:=Blk.new _ _ _
 clear_value h1
 refine Jr (P.keep k1) ⟨_,rfl,?_⟩
 refine(zxd (k:=st.kind) (R:=λr=>r=ztd st.kind) rfl).go hM (P.keep k1).ag (yr (a:=Arg.mk (.int .i64) _) (Wm _ _) jq) λv h6 M' r L hv hr=>⟨r,z8b hv,?_⟩
 have k6:Keep g.size g h6:=k1.trans (c:=h6) (m:=g.size) ⟨L.keep.size,λj hj=>L.keep.get j (by omega)⟩ (Ac _)
 have bB:=bF.keep (L.keep.get g.size (by omega))
 have P6:=P.keep k6
 have S6:Stp g O h6 O:=Stp.keep k6
 have z6:=L.keep.size
 intro bn bi
 refine Jr P6 ⟨_,rfl,?_⟩
 have bh:∀x,x=(if st.kind=4 then 5 else ztd st.kind)->bn x h6:=λx hx=>bi x h6 λbr aZ=>by
  have ar:br (ya st.kind) h6:=by
   refine aZ _ _ ⟨λhx=>?_,λhx=>⟨λhy=>?_,λhy=>?_⟩⟩
   ·refine Qu P6 λg' P' S'=>⟨false,rfl,hK false g' st _ _ O P' (S6.trans S') (Ac _) ?_⟩
    have hx:ya st.kind=0:=by simpa using hx
    cases d <;> (rw[Qb,if_pos hx];exact⟨rfl,rfl⟩)
   ·have hx:¬ya st.kind=0:=by simpa using hx
    refine Qu P6 λg' P' S'=>⟨false,rfl,hK false g' st _ _ O P' (S6.trans S') (Ac _) ?_⟩
    have hy:=of_decide_eq_true hy
    cases d with
    |zero=>rw[Qb,if_neg hx];exact⟨rfl,rfl⟩
    |succ d=>omega
   obtain⟨d,rfl⟩:∃d',d=d'+1:=⟨d-1,by have:=of_decide_eq_false hy;omega⟩
   have ih:=a7 d rfl
   have aA:=zge s d
   have hx:¬ya st.kind=0:=by simpa using hx
   have aB:=zet hx
   obtain⟨t,r,er⟩:=AX aB
   have bG:=P6
   obtain⟨ls,k,na,sl,b,cs,W,A,aC,eO⟩:=bG
   have bL:na.length=st.nodes.length:=by rw[<-aC,AM]
   have aQ:sl.len=st.nodes.length:=by rw[W.ns.len,bL]
   refine⟨_,rfl,sl,by rw[zi];exact W.blk.cell rfl,λhz=>?_,λhz=>?_⟩
   ·refine Qu P6 λg' P' S'=>⟨false,rfl,hK false g' st _ _ O P' (S6.trans S') (Ac _) ?_⟩
    have hz:st.nodes.length=4096:=by have:=of_decide_eq_true hz;omega
    rw[Qb,if_neg hx,if_pos hz];exact⟨rfl,rfl⟩
   have hz:¬st.nodes.length=4096:=λh=>by have:=of_decide_eq_false hz;omega
   have eV:Qb s (d+1) key st=match zj1 s (Qb s d) st.nodes.length (ya st.kind) (st.open key)with
    |.inl st'=>.inl (st'.setTo st.nodes.length)
    |.inr e=>.inr e:=by rw[Qb,if_neg hx,if_neg hz];rfl
   obtain⟨hk,ek⟩:=A.cons er
   have bY:=(rowLen W.rd).1
   obtain⟨tb,o,e1,e2,e3,e4⟩:=ztb W.ag W.rd hk
   rw[ek]at e2 e3 e4
   have bo:st.kind=t.1:=by unfold PSt.kind;rw[er]
   have bQ:bp<h6.size:=W.blk.lt
   have cd:∀c,O c->c<g.size:=λc h=>(P.own h).2.1
   refine⟨_,rfl,sl,by rw[zi];exact W.blk.cell rfl,_,rfl,sl,by rw[zi];exact W.blk.cell rfl,_,rfl,ls,by rw[zi];exact W.blk.cell rfl,_,rfl,(k:Int),by rw[zi];exact W.blk.cell rfl,_,⟨e1,by omega,by omega⟩,t.2.1,t.2.2,?_,key.1,key.2,z0l bB,rfl,?_⟩
   ·rw[zi,zi,Af]
    exact⟨by rw[zi];exact e3,by rw[zi];exact e4,trivial⟩
   intro ah
   have ax:Keep h6.size h6 ah:=Keep.push _ _ (Ac _)
   have cj:ah.size=h6.size+1:=Al _
   have bC:Blk ah h6.size (ndC ((ya st.kind,t.2,key,[],[]),ax0)).toArray:=Blk.new _ _ _
   clear_value ah
   refine⟨by rw[zi];exact ax.get bp bQ,?_⟩
   have bJ:NSt lo h6 M na sl b ah na cs:=⟨W.ns.frame ax.size λc hc=>ax.get c (W.ns.own hc).2.1,ax.size,λc h=>.inl h,λj hj _=>ax.get j hj⟩
   obtain⟨af,bP⟩:=W.nst bJ
   have ba:lo<=ah.size:=by have:=(af.own (.inl rfl));omega
   refine NS.push z7e (by omega) af.ag ba af.ns (x:=(ya st.kind,t.2,key,[],[])) rfl rfl bC (by omega) λs' b9 b' cs' bO bZ a1 aM=>⟨s',rfl,_,rfl,?_⟩
   rw[zi]
   have aH:¬nsO (na++[((ya st.kind,t.2,key,[],[]),ax0)]) s' b' bp:=λh=>by
    rcases a1 bp h with h|h
    ·exact W.nb h
    ·omega
   have aT:=af.blk.keep (aM bp (by omega) af.nb)
   refine yy qax qay aT (by show 3<6;omega) rfl λay u1 u2 u3=>?_
   have u1:Blk ay bp (rpC s ls k s' a e).toArray:=u1
   have bS:RW lo ay M bp s l k a e ls (na++[((ya st.kind,t.2,key,[],[]),ax0)]) s' b' cs':=by
    refine⟨u1,W.rd,bO.frame (by omega) λc hc=>u3 c λh=>aH (h ▸ hc),zg5 af.ag λj hj hm=>?_,W.bl,aH⟩
    rw[u3 j λh=>hm (h ▸ W.bl.2)]
    exact aM j hj λh=>hm (af.ns.own h).2.2
   have bj:Stp ah (ppO bp na sl b) ay (ppO bp (na++[((ya st.kind,t.2,key,[],[]),ax0)]) s' b'):=by
    refine⟨by omega,λc h=>?_,λj hj hn=>?_⟩
    ·rcases h with h|h
     ·exact .inl (.inl h)
     ·rcases a1 c h with h|h
      ·exact .inl (.inr h)
      ·exact .inr h
    ·rw[u3 j λh=>hn (.inl h)]
     exact aM j hj λh=>hn (.inr h)
   have aU:RS lo ay M bp s l ⟨st.rest,st.last,st.nodes++[(ya st.kind,t.2,key,[],[])]⟩ a e (ppO bp (na++[((ya st.kind,t.2,key,[],[]),ax0)]) s' b'):=⟨ls,k,_,_,_,_,bS,A.same rfl rfl,by rw[CQ,aC];rfl,rfl⟩
   have ap:=bP.trans bj
   rw[<-eO]at ap
   generalize ppO bp (na++[((ya st.kind,t.2,key,[],[]),ax0)]) s' b'=O45 at aU ap
   obtain⟨kk,c1,A2,bH⟩:=zgn aU aB (by omega)
   refine⟨_,rfl,_,by rw[zi];exact c1,_,rfl,?_⟩
   rw[zi]
   refine bH λaP az bA=>?_
   have bU:(⟨st.rest,st.last,st.nodes++[(ya st.kind,t.2,key,[],[])]⟩:PSt).skip=st.open key:=by
    unfold PSt.skip PSt.open
    rw[bo]
    dsimp only
    rw[er]
   rw[bU]at az
   have be:=ap.trans bA
   have am:=zou (key:=key) aB hz
   have bT:(st.open key).nodes.length=st.nodes.length+1:=zeu aB
   have aS:(st.open key).rest.length<l.length:=by
    have h1:=am.r
    have h2:=A.rest
    have h3:st.rest.length=l.length-k:=by rw[h2,As]
    omega
   have an:=S6.trans be
   intro cg aF
   have aN:∀(bb:Bool) (g':za) (st':PSt) (a' e':Int) (O':Nat->Prop),RS lo g' M bp s l st' a' e' O'->Stp g O g' O'->(st.open key).nodes.length<=st'.nodes.length->Ans (zj1 s (Qb s d) st.nodes.length (ya st.kind) (st.open key)) bb st' a' e' ->
     (bb=true->∃aE:Addr,some (⟨bp,0,none⟩:Addr)=some aE/\∃Z:Sl,zc g' (Ae aE 3)=some (.slice Z.a Z.len Z.cap)/\∃aI:Addr,some (⟨bp,0,none⟩:Addr)=some aI/\∃aa:Sl,zc g' (Ae aI 1)=some (.slice aa.a aa.len aa.cap)/\∃aG:Addr,some (⟨bp,0,none⟩:Addr)=some aG/\∃ab:Int,zc g' (Ae aG 2)=some (.int .i64 ab) /\
      ∃aL:Addr,(aa.a=some aL/\0<=(Aa .i64 (ab-1):Int)/\(Aa .i64 (ab-1):Int)<((aa.len:Nat):Int))/\∃ae:Int,zc g' (Ae (Ae (aL.add ((Aa .i64 (ab-1):Int).toNat*3)) 1) 1)=some (.int .i64 ae) /\
      ∃aJ:Addr,(Z.a=some aJ/\0<=((sl.len:Nat):Int)/\((sl.len:Nat):Int)<((Z.len:Nat):Int))/\XRunU Tp (Aj 3 (.pointer (some (Ae (Ae (aJ.add ((((sl.len:Nat):Int)).toNat*7)) 1) 1))) (.int .i64 ae)) g' (λaY=>K (.bool bb) aY))/\(bb=false->K (.bool bb) g'):=by
    intro bb g' st' a' e' O' P' S' n' A'
    refine⟨λhb=>?_,λhb=>?_⟩
    ·subst hb
     have ai:zj1 s (Qb s d) st.nodes.length (ya st.kind) (st.open key)=.inl st':=by
      cases hr:zj1 s (Qb s d) st.nodes.length (ya st.kind) (st.open key)with
      |inl x=>rw[hr]at A';rw[A'.2]
      |inr x=>rw[hr]at A';exact absurd A'.1 (by simp)
     have bz:Okk (st.open key) st' 0:=by
      unfold zj1 at ai
      split at ai
      ·exact zev (by omega) (zj2 aA) ai
      ·split at ai
       ·exact zev (by omega) (zqy aA) ai
       ·cases ai;exact Okk.refl _
     obtain⟨bE,ak,a6,bM,b1,cc,W1,A1,au,bm⟩:=P'
     have a8:st.nodes.length<a6.length:=by
      have:a6.length=st'.nodes.length:=by rw[<-au,AM]
      omega
     obtain⟨q1,q2,q3,q4,q5⟩:=W1.ns.cell a8
     have bV:=(rowLen W1.rd).1
     have bI:st'.rest.length<l.length:=by have:=bz.r;omega
     have bD:0<ak:=by
      have:=A1.rest
      rcases CY ak with h|h
      ·rw[h,BB]at this;rw[this]at bI;omega
      ·exact h
     have b8:=A1.le
     have aV:ak-1<l.length:=by omega
     obtain⟨cb,o1,f1,f2,f3,f4⟩:=ztb W1.ag W1.rd aV
     have aO:=A1.last _ bD (Ak aV)
     have bq:Aa .i64 ((ak:Int)-1)=((ak-1:Nat):Int):=by rw[w64 (by omega)];omega
     refine⟨_,rfl,bM,by rw[zi];exact W1.blk.cell rfl,_,rfl,bE,by rw[zi];exact W1.blk.cell rfl,_,rfl,(ak:Int),by rw[zi];exact W1.blk.cell rfl,_,⟨f1,by omega,by omega⟩,st'.last,?_,⟨b1,0,none⟩,⟨q1,by omega,by have:=W1.ns.len;omega⟩,?_⟩
     ·rw[zi,zi,zi,bq,Af,aO];exact f4
     rw[zi,zi,zi,Af,Az,aQ]
     refine yy zm1 zm2 q2 (by omega) rfl λg2 u1 u2 u3=>?_
     obtain⟨W2,S2⟩:=W1.nst (W1.ns.toB a8 u1 u2 u3)
     rw[<-bm]at S2
     refine hK true g2 (st'.setTo st.nodes.length) a' e' _ ⟨_,_,_,_,_,_,W2,A1.same rfl rfl,?_,rfl⟩ (S'.trans S2) (by rw[zcd];omega) ?_
     ·rw[xn (f':=z4i st'.last) (λp=>rfl),au];rfl
     ·rw[eV,ai];exact⟨rfl,rfl⟩
    ·subst hb
     refine hK false g' st' a' e' O' P' S' (by omega) ?_
     rw[eV]
     cases hr:zj1 s (Qb s d) st.nodes.length (ya st.kind) (st.open key)with
     |inl x=>rw[hr]at A';exact absurd A'.1 (by simp)
     |inr x=>rw[hr]at A';exact A'
   have bg:Aa .i64 (33-((d+1:Nat):Int)+1)=33-(d:Int):=by rw[w64 (by omega)];omega
   have ca:=am.t
   refine⟨λh5=>?_,λh5=>?_⟩
   ·have h5:ya st.kind=5:=by simpa using h5
    refine zxc (kid:=zcc (Qb s d)) hg hM hs hl bg ih aA (by omega) (by omega) (.inr ⟨by omega,rfl⟩) az (am.m h4) (by omega) (λx hx=>hw x (am.w x hx)) aS (by omega) λbb g' st' a' e' O' P' S' n' A'=>⟨bb,rfl,aF bb g' λbu aj=>⟨λh6=>?_,λh6=>aj bb g' (aN bb g' st' a' e' O' P' (an.trans S') n' ?_)⟩⟩
    ·rw[h5]at h6;simp at h6
    ·rw[aQ]at A';unfold zj1;rw[if_pos h5];exact A'
   ·have h5:¬ya st.kind=5:=by simpa using h5
    refine aF true aP λbu aj=>⟨λh6=>?_,λh6=>aj true aP (aN true aP (st.open key) a e O45 az an (Ac _) ?_)⟩
    ·have h6:ya st.kind=6:=by simpa using h6
     refine zxc (kid:=znf s (Qb s d)) hg hM hs hl bg ih aA (by omega) (by omega) (.inl ⟨rfl,rfl⟩) az (am.m h4) (by omega) (λx hx=>hw x (am.w x hx)) aS (by omega) λbb g' st' a' e' O' P' S' n' A'=>⟨bb,rfl,aj bb g' (aN bb g' st' a' e' O' P' (an.trans S') n' ?_)⟩
     rw[aQ]at A';unfold zj1;rw[if_neg h5,if_pos h6];exact A'
    ·have h6:¬ya st.kind=6:=by simpa using h6
     unfold zj1;rw[if_neg h5,if_neg h6];exact⟨rfl,rfl⟩
  rw[zxe]at ar
  refine Jr P6 ⟨_,rfl,λh2=>?_,λh2=>?_⟩
  ·have h2:st.kind=2:=by simpa using h2
   rw[if_pos h2]at ar;exact ar
  ·have h2:¬st.kind=2:=by simpa using h2
   rw[if_neg h2]at ar
   rw[hx];exact ar
 refine⟨λh4=>bh _ ?_,λh4=>bh _ ?_⟩
 ·rw[if_pos (by simpa using h4)]
 ·rw[if_neg (by simpa using h4)];exact hr
theorem zre(hg:GL gl)(hM:Fr.le gl M)(hs:s.length<=65536)(hl:l.length<=65536):∀d:Nat,d<=32->z8h lo M bp s l (33-(d:Int)) (Qb s d)
 |0,h=>zgo hg hM hs hl h λd' e=>(by omega)
 |d+1,h=>zgo hg hM hs hl h λd' e=>by
  have:d'=d:=by omega
  subst this
  exact zre hg hM hs hl d' (by omega)
end
end
section
variable {s:Bs} {f a t:Nat} {k:Int}
theorem TkS.frame{h:za}{M:Fr}{b2 b3 b4 b5 bc D l:Nat}{rec:ztl}{out:List Tk}{sl:Sl}{bs:List Nat}{g g':za}(S:TkS h M b2 b3 b4 b5 bc D l rec s out sl bs g)(A:Apart h b2 b3 b4 b5 bc D l)(hz:g.size<=g'.size)(f:∀j,j<g.size->g'[j]?=g[j]?):TkS h M b2 b3 b4 b5 bc D l rec s out sl bs g':=by
 have ll:=lt_of_some S.rc
 have:=A.lo;have:=A.a3;have:=A.a4;have:=A.a5;have:=A.ac;have:=A.aD;have:=A.al
 have kz:=S.keep.size
 exact⟨⟨by omega,λj hj=>(f j (by omega)).trans (S.keep.get j hj)⟩,S.c.keep (f _ (by omega)),(f _ (by omega)).trans S.d,(f _ ll).trans S.rc,S.r2.keep (f _ (by omega)),S.r3.keep (f _ (by omega)),S.r4.keep (f _ (by omega)),S.r5.keep (f _ (by omega)),S.o.frame (λc hc=>f c (S.o.own c hc).2.1) (Fr.le.refl _) λc hc=>(S.o.own c hc).2.2⟩
theorem zzn{o:List Tk}(ha:a<s.length)(h:Jx s a=(k,t,0)):Q0 (f+1) s a o=Q0 f s t (o++[(k,((a:Int),(t:Int)))]):=by
 rw[Q0,if_pos ha,h];rfl
theorem zzo{k e:Int}{o:List Tk}(ha:a<s.length)(h:Jx s a=(k,t,e))(he:¬e=0):Q0 (f+1) s a o=([],t,e):=by
 rw[Q0,if_pos ha,h];simp only;rw[if_neg he]
theorem zxf{o:List Tk}(ha:¬a<s.length):Q0 f s a o=(o,a,0):=by
 cases f with
 |zero=>rfl
 |succ f=>rw[Q0,if_neg ha]
section
variable {h : za} {M gl : Fr} {b2 b3 b4 b5 bc D l : Nat} {rec : ztl} {s : Bs} {sl : Sl} {bs : List Nat} {g : za}
abbrev qac(b2 b3 b4 b5:Nat)(x9 x8 x0:Value):Env:=[(9,[],x9),(8,[],x8),(5,[],.pointer (some ⟨b5,0,none⟩)),(4,[],.pointer (some ⟨b4,0,none⟩)),(3,[],.pointer (some ⟨b3,0,none⟩)),(2,[],.pointer (some ⟨b2,0,none⟩)),(0,[],x0)]
set_option maxRecDepth 100000 in
set_option maxHeartbeats 4000000 in
theorem qad(A:Apart h b2 b3 b4 b5 bc D l)(hg:GL gl)(hM:Fr.le gl M)(ag:AgM M h)(S:TkS h M b2 b3 b4 b5 bc D l rec s [] sl bs g){x9 x8 x0:Value}
  (ae:∀{v1 v2:Value} {h2:za} {K:Value->za->Prop},h2[l]?=some (.loop (rec .ready none))->zgm Tp 25 (rfA (codeOf Tryz.f60)) (rfB (codeOf Tryz.f60)) rec l K (putO (putO (qac b2 b3 b4 b5 x9 x8 x0) (some 10) [] v1) (some 11) [] v2) h2->YX Tp l #[v1,v2] h2 K)
  {Q:za->Prop} (hN:∀g out sl bs,TkS h M b2 b3 b4 b5 bc D l rec s out sl bs g->yk s=(out,s.length,0)->out.length<=100000->Q g)
  (hE:∀(g:za) (t:Nat) (e:Int),¬e=0->yk s=([],t,e)->Keep h.size h g->g[D]?=some (.deferred (some []))->g[l]?=some (.loop (rec .done (some .ret)))->Blk g b2 #[.slice none 0 0]->Blk g b3 #[.int .i64 (t:Int)]->Blk g b4 #[.int .i64 e]->Q g):
  XCI Tp 197 #[.func (.yield l) #[] #[],.pointer (some ⟨bc,0,none⟩)] g (λ_ g'=>Q g'):=by
 have:=A.lo;have:=A.a3;have:=A.a4;have:=A.a5;have:=A.ac;have:=A.aD;have:=A.al
 apply zm0
 refine⟨bl s,S.c.cell rfl,λab=>?_,λah=>?_⟩
 ·have af:65536<s.length:=by rw[zd]at ab;simp at ab;omega
  refine ae S.rc (TkS.err A S (by omega) λg' q1 q2 q3 q4 q5 q6=>⟨false,rfl,?_⟩)
  refine hE g' 0 3 (by omega) ?_ q1 q2 q3 q4 q5 q6
  unfold yk;rw[if_pos af]
 ·have am:s.length<=65536:=by rw[zd]at ah;simp at ah;omega
  have hR:yk s=Q0 s.length s 0 []:=by unfold yk;rw[if_neg (by omega)]
  refine⟨λk g'=>∃(a f:Nat) (out:List Tk) (ax:Sl) (ay:List Nat),k=(a:Int)/\a<=s.length/\s.length-a<=f/\out.length<=a/\yk s=Q0 f s a out/\TkS h M b2 b3 b4 b5 bc D l rec s out ax ay g',λk _=>s.length-k.toNat,⟨0,s.length,[],sl,bs,rfl,by omega,by omega,Ac _,hR,S⟩,?_⟩
  rintro k g1 ⟨a,f,out,ar,aB,rfl,ha,hf,ho,hT,S1⟩
  refine⟨bl s,S1.c.cell rfl,λak=>⟨bl s,S1.c.cell rfl,?_⟩,λaj=>?_⟩
  ·have aa:a<s.length:=by rw[zd]at ak;simp at ak;omega
   obtain⟨f,rfl⟩:∃f',f=f'+1:=⟨f-1,by omega⟩
   have an:AgM M g1:=ag.keep S1.keep
   refine z6p hg hM an am aa λg2 k2=>?_
   obtain⟨tk,t,e,Z⟩:∃k t e,Jx s a=(k,t,e):=⟨_,_,_,rfl⟩
   have z2:=k2.size
   by_cases he:e=0
   ·subst he
    have hp:=zgd aa (by rw[Z])
    rw[Z]at hp
    have aC:a<t:=hp.1
    have aA:t<=s.length:=hp.2
    have ev:zmw s a=.tuple #[.agg #[.int .i64 tk,.int .i64 (a:Int),.int .i64 (t:Int)],.int .i64 0]:=by unfold zmw;rw[Z,if_pos rfl]
    refine⟨tk,a,t,0,ev,?_⟩
    intro g3
    have k3:Keep g2.size g2 g3:=Keep.push _ _ (Ac _)
    have z3:g3.size=g2.size+1:=Al _
    have B3:Blk g3 g2.size (zkp 0 0 0).toArray:=Blk.new _ _ _
    clear_value g3
    refine zwz B3 λg4 q1 q2 q3=>⟨tk,a,t,q3.ld,?_⟩
    have f4:∀j,j<g1.size->g4[j]?=g1[j]?:=λj hj=>by rw[q1 j (by omega),k3.get j (by omega),k2.get j hj]
    have S4:=S1.frame A (by omega) f4
    have ll:=lt_of_some S1.rc
    refine ae S4.rc (TkS.round A ag S4 (by omega) λg5 az au S5 z5 f5=>⟨true,rfl,λhx=>by simp at hx,λ_=>?_⟩)
    refine⟨t,?_,⟨t,f,_,az,au,rfl,aA,by omega,?_,?_,S5⟩,?_⟩
    ·rw[zi,zi]
     refine(q3.keep (f5 g2.size (by omega) (by omega) (by omega) λhm=>?_)).cell rfl
     have:=(S1.o.own g2.size hm).2.1
     omega
    ·rw[Ar];show out.length+1<=t;omega
    ·rw[hT,zzn aa Z]
    ·show s.length-(t:Int).toNat<s.length-(a:Int).toNat
     rw[Af,Af];omega
   ·have ev:=zey Z he
    refine⟨0,t,t,e,ev,?_⟩
    intro g3
    have k3:Keep g2.size g2 g3:=Keep.push _ _ (Ac _)
    have z3:g3.size=g2.size+1:=Al _
    have B3:Blk g3 g2.size (zkp 0 0 0).toArray:=Blk.new _ _ _
    clear_value g3
    refine zwz B3 λg4 q1 q2 q3=>⟨0,t,t,q3.ld,?_⟩
    have f4:∀j,j<g1.size->g4[j]?=g1[j]?:=λj hj=>by rw[q1 j (by omega),k3.get j (by omega),k2.get j hj]
    have S4:=S1.frame A (by omega) f4
    refine ae S4.rc (TkS.err A S4 he λg5 w1 w2 w3 w4 w5 w6=>⟨false,rfl,λ_=>?_,λhx=>by simp at hx⟩)
    exact hE g5 t e he (by rw[hT,zzo aa Z he]) w1 w2 w3 w4 w5 w6
  ·have ai:¬a<s.length:=by rw[zd]at aj;simp at aj;omega
   have ap:a=s.length:=by omega
   exact hN g1 out ar aB S1 (by rw[hT,zxf ai,ap]) (by omega)
end
end
end Go.X
end
section
namespace Go.X
open Go Go.X Go.Proofs Go.RowKit
set_option maxRecDepth 100000 in
set_option maxHeartbeats 4000000 in
section
theorem zzp{gl M:Fr}(hg:GL gl)(hM:Fr.le gl M){h:za}(ag:AgM M h){s:Bs}{K:Value->za->Prop}
  (hK:∀(h':za) (M':Fr) (t:Sl),Later h M h' M'->Rd M' (.row tTk) (yk s).1 [slV t]->K (.tuple #[slV t,.int .i64 ((yk s).2.1:Nat),.int .i64 (yk s).2.2]) h'):
  XC Tp 60 #[.string (bl s)] h K:=by
 apply zkj
 intro h1 h2 h3 h4
 have k1:Keep h.size h h1:=Keep.push _ _ (Ac _)
 have k2:Keep h1.size h1 h2:=Keep.push _ _ (Ac _)
 have k3:Keep h2.size h2 h3:=Keep.push _ _ (Ac _)
 have k4:Keep h3.size h3 h4:=Keep.push _ _ (Ac _)
 have z1:h1.size=h.size+1:=Al _
 have z2:h2.size=h1.size+1:=Al _
 have z3:h3.size=h2.size+1:=Al _
 have z4:h4.size=h3.size+1:=Al _
 have B1:Blk h1 h.size #[.slice none 0 0]:=Blk.new _ _ _
 have B2:Blk h2 h1.size #[.int .i64 0]:=Blk.new _ _ _
 have B3:Blk h3 h2.size #[.int .i64 0]:=Blk.new _ _ _
 have B4:Blk h4 h3.size #[.slice none 0 0]:=Blk.new _ _ _
 clear_value h4 h3 h2 h1
 apply zs5
 intro h5
 have k5:Keep h4.size h4 h5:=Keep.push _ _ (Ac _)
 have z5:h5.size=h4.size+1:=Al _
 have B5:Blk h5 h4.size #[.string (bl s)]:=Blk.new _ _ _
 clear_value h5
 refine⟨_,rfl,_,_,rfl,by kernel_rfl,λrec ae=>?_⟩
 have e5:∀j,j<h.size->h5[j]?=h[j]?:=λj hj=>by rw[k5.get j (by omega),k4.get j (by omega),k3.get j (by omega),k2.get j (by omega),k1.get j hj]
 have A:Apart h h.size h1.size h2.size h3.size h4.size h5.size (h5.size+1):=⟨by omega,by omega,by omega,by omega,by omega,by omega,rfl⟩
 obtain⟨g0,aa⟩:∃g0,g0=(h5.push (.deferred (some []))).push (.loop (rec .ready none)):=⟨_,rfl⟩
 have gz:g0.size=h5.size+2:=by rw[aa,Al,Al]
 have ge:∀j,j<h5.size->g0[j]?=h5[j]?:=λj hj=>by rw[aa,Array.getElem?_push_lt (by rw[Al];omega)];rw[Array.getElem_push_lt hj,AI hj]
 have gD:g0[h5.size]?=some (.deferred (some [])):=by rw[aa,Array.getElem?_push_lt (by rw[Al];omega),Array.getElem_push_eq]
 have ab:g0[h5.size+1]?=some (.loop (rec .ready none)):=by
  rw[aa]
  have:h5.size+1=(h5.push (.deferred (some []))).size:=by rw[Al]
  rw[this,Array.getElem?_push_size]
 rw[<-aa]
 clear aa
 have S:TkS h M h.size h1.size h2.size h3.size h4.size h5.size (h5.size+1) rec s [] ⟨none,0,0⟩ [] g0:=
  ⟨⟨by omega,λj hj=>(ge j (by omega)).trans (e5 j hj)⟩,B5.keep (ge _ (by omega)),gD,ab,
   B1.keep (by rw[ge _ (by omega),k5.get _ (by omega),k4.get _ (by omega),k3.get _ (by omega),k2.get _ (by omega)]),
   B2.keep (by rw[ge _ (by omega),k5.get _ (by omega),k4.get _ (by omega),k3.get _ (by omega)]),
   B3.keep (by rw[ge _ (by omega),k5.get _ (by omega),k4.get _ (by omega)]),
   B4.keep (by rw[ge _ (by omega),k5.get _ (by omega)]),.nil⟩
 refine qad A hg hM ag S (x9:=_) (x8:=_) (x0:=_) ae ?_ ?_
 ·intro g out sl bs S' hT ho
  have ll:=lt_of_some S'.rc
  refine .inl ⟨S'.rc,?_⟩
  obtain⟨g6,Z⟩:∃g6,g6=g.setIfInBounds (h5.size+1) (.loop (rec .exhausted none)):=⟨_,rfl⟩
  have z6:g6.size=g.size:=by rw[Z,A7]
  have f6:∀j,j≠h5.size+1->g6[j]?=g[j]?:=λj hj=>by rw[Z];exact yl hj
  rw[<-Z]
  clear Z
  refine⟨sl,(S'.r5.keep (f6 _ (by omega))).cell rfl,?_⟩
  refine yy z3h z3i (S'.r2.keep (f6 _ (by omega))) (by show 0<1;omega) rfl λg7 u1 u3 u2=>?_
  refine yy z6t z6u (S'.r3.keep ((u2 _ (by omega)).trans (f6 _ (by omega)))) (by show 0<1;omega) rfl λg8 v1 v3 v2=>?_
  refine yy z6v z6w (S'.r4.keep ((v2 _ (by omega)).trans ((u2 _ (by omega)).trans (f6 _ (by omega))))) (by show 0<1;omega) rfl λg9 w1 w3 w2=>?_
  have f9:∀j,j≠h5.size+1->j≠h.size->j≠h1.size->j≠h2.size->g9[j]?=g[j]?:=λj a1 a2 a3 a4=>by rw[w2 j a4,v2 j a3,u2 j a2,f6 j a1]
  refine⟨(f9 _ (by omega) (by omega) (by omega) (by omega)).trans S'.d,?_⟩
  have fx:∀j,j≠h5.size->(g9.setIfInBounds h5.size (.deferred none))[j]?=g9[j]?:=λj hj=>yl hj
  have Bx:Blk (g9.setIfInBounds h5.size (.deferred none)) h.size #[slV sl]:=u1.keep (by rw[fx _ (by omega),w2 _ (by omega),v2 _ (by omega)])
  have By:Blk (g9.setIfInBounds h5.size (.deferred none)) h1.size #[.int .i64 (((bl s).size:Nat):Int)]:=v1.keep (by rw[fx _ (by omega),w2 _ (by omega)])
  have Bz:Blk (g9.setIfInBounds h5.size (.deferred none)) h2.size #[.int .i64 0]:=w1.keep (fx _ (by omega))
  refine⟨sl,Bx.cell rfl,_,By.cell rfl,0,Bz.cell rfl,?_⟩
  have kx:Keep h.size h (g9.setIfInBounds h5.size (.deferred none)):=by
   have:=S'.keep.size
   refine⟨by rw[A7];omega,λj hj=>?_⟩
   rw[fx j (by omega),f9 j (by omega) (by omega) (by omega) (by omega)];exact S'.keep.get j hj
  have ow:=S'.o.own
  have ox:=S'.o.frame (h':=g9.setIfInBounds h5.size (.deferred none)) (λc hc=>by have:=ow c hc;rw[fx c (by omega),f9 c (by omega) (by omega) (by omega) (by omega)]) (Fr.le.refl M) λc hc=>(ow c hc).2.2
  have:=hK _ (MxL M (g9.setIfInBounds h5.size (.deferred none)) bs) sl (MxL.later ag kx λc hc=>by have:=ow c hc;omega) (by rw[hT];exact ox.rd (ag.keep kx) (λc hc=>hc) (by omega))
  rw[hT]at this
  rw[zd]
  exact this
 ·intro g t e he hT kg gd gr q2 q3 q4
  refine .inr ⟨gr,?_⟩
  obtain⟨g6,Z⟩:∃g6,g6=g.setIfInBounds (h5.size+1) (.loop (rec .exhausted (some .ret))):=⟨_,rfl⟩
  have z6:g6.size=g.size:=by rw[Z,A7]
  have f6:∀j,j≠h5.size+1->g6[j]?=g[j]?:=λj hj=>by rw[Z];exact yl hj
  rw[<-Z]
  clear Z
  refine⟨(f6 _ (by omega)).trans gd,?_⟩
  have fx:∀j,j≠h5.size->(g6.setIfInBounds h5.size (.deferred none))[j]?=g6[j]?:=λj hj=>yl hj
  have Bx:Blk (g6.setIfInBounds h5.size (.deferred none)) h.size #[.slice none 0 0]:=q2.keep (by rw[fx _ (by omega),f6 _ (by omega)])
  have By:Blk (g6.setIfInBounds h5.size (.deferred none)) h1.size #[.int .i64 (t:Int)]:=q3.keep (by rw[fx _ (by omega),f6 _ (by omega)])
  have Bz:Blk (g6.setIfInBounds h5.size (.deferred none)) h2.size #[.int .i64 e]:=q4.keep (by rw[fx _ (by omega),f6 _ (by omega)])
  refine⟨⟨none,0,0⟩,Bx.cell rfl,_,By.cell rfl,e,Bz.cell rfl,?_⟩
  have kx:Keep h.size h (g6.setIfInBounds h5.size (.deferred none)):=by
   have:=kg.size
   refine⟨by rw[A7];omega,λj hj=>?_⟩
   rw[fx j (by omega),f6 j (by omega)];exact kg.get j hj
  have:=hK _ M ⟨none,0,0⟩ (Later.same ag kx) (by rw[hT];exact⟨_,rfl,none,0,rfl,⟨by simp,by simp⟩,.inl rfl⟩)
  rw[hT]at this
  exact this
end
end Go.X
end
section
namespace Go.X
open Go Go.X Go.Proofs Go.RowKit
section
variable {l s:Bs} {gl:Fr} {a:Nat}
theorem u8e(c d:UInt8):(((d.toNat:Int))==((c.toNat:Int)))=decide (d=c):=by
 rw[AB,beq_iff_eq,decide_eq_true_eq]
 constructor
 ·intro h;exact Cz.1 (by omega)
 ·intro h;rw[h]
theorem zte{k:Nat}(hk:k<l.length):zb (bl l) k=(l[k].toNat:Int):=by rw[zp,Ak hk];rfl
theorem zkl(hl:l.length<=1000){c:UInt8}{R:Bool->Prop}(h:R (jk l c)):PC Tp gl 200 [Arg.mk (.int .u8) (c.toNat:Int),Arg.mk .str (bl l)] [.bool] R:=by
 apply za3
 rw[zd]
 refine⟨λi=>∃k:Nat,i=(k:Int)/\k<=l.length/\∀j (hj:j<l.length),j<k->l[j]≠c,λi=>l.length-i.toNat,⟨0,rfl,by omega,λj _ hj=>by omega⟩,?_⟩
 rintro i ⟨k,rfl,hk,hn⟩
 refine⟨λhx=>⟨⟨by omega,of_decide_eq_true hx⟩,λhy=>?_,λhy=>?_⟩,λhx=>?_⟩
 ·have hx:=of_decide_eq_true hx
  have Z:k<l.length:=by omega
  rw[Af,zte Z,u8e]at hy
  have hy:=of_decide_eq_true hy
  have e:jk l c=true:=by unfold jk;exact decide_eq_true (by rw[<-hy];exact AP Z)
  rw[e]at h;exact h
 ·have hx:=of_decide_eq_true hx
  have Z:k<l.length:=by omega
  rw[Af,zte Z,u8e]at hy
  have hy:=of_decide_eq_false hy
  rw[w64 (by omega)]
  refine⟨⟨k+1,by omega,by omega,λj hj aa=>?_⟩,by dsimp only;omega⟩
  rcases AF j k with h1|h1
  ·exact hn j hj h1
  ·have:j=k:=by omega
   subst this;exact hy
 ·have hx:=of_decide_eq_false hx
  have e:jk l c=false:=by
   unfold jk
   refine decide_eq_false λhm=>?_
   obtain⟨j,hj,e⟩:=AY hm
   exact hn j hj (by omega) e
  rw[e]at h;exact h
theorem zxg(hl:l.length<=1000)(hs:s.length<=65536)(ha:a<=s.length){R:Int->Prop}(h:R ((a+Zh (jk l) (s.drop a):Nat):Int)):PC Tp gl 201 [Arg.mk .str (bl s),Arg.mk (.int .i64) (a:Int),Arg.mk .str (bl l)] [.int .i64] R:=by
 apply zdj
 rw[zd]
 have af:(s.drop a).length=s.length-a:=As
 refine⟨λi=>∃k:Nat,i=((a+k:Nat):Int)/\k<=(s.drop a).length/\∀j (hj:j<(s.drop a).length),j<k->jk l (s.drop a)[j]=true,λi=>s.length-i.toNat,⟨0,rfl,by omega,λj _ hj=>by omega⟩,?_⟩
 rintro i ⟨k,rfl,hk,hn⟩
 refine⟨λhx=>?_,λhx=>?_⟩
 ·have hx:=of_decide_eq_true hx
  have Z:a+k<s.length:=by omega
  have ab:k<(s.drop a).length:=by omega
  have eg:s[a+k]=(s.drop a)[k]:=by rw[Do]
  refine⟨⟨by omega,hx⟩,?_⟩
  rw[Af,zte Z,eg]
  refine zkl hl ⟨λhy=>?_,λhy=>?_⟩
  ·have hy:jk l (s.drop a)[k]=false:=by simpa using hy
   have:=zgc (p:=jk l) hk (λj hj=>hn j (by omega) hj) (λ_=>hy)
   rw[this]at h;exact h
  ·have hy:jk l (s.drop a)[k]=true:=by simpa using hy
   rw[w64 (by omega)]
   refine⟨⟨k+1,by omega,by omega,λj hj ae=>?_⟩,by dsimp only;omega⟩
   rcases AF j k with h1|h1
   ·exact hn j hj h1
   ·have:j=k:=by omega
    subst this;exact hy
 ·have hx:=of_decide_eq_false hx
  have aa:k=(s.drop a).length:=by omega
  have:=zgc (p:=jk l) hk (λj hj=>hn j (by omega) hj) (λhh=>by omega)
  rw[this]at h;exact h
def z0m(s:Bs)(a:Nat)(r:Int×Int×Int):Prop:=r.2.1=((Jx s a).2.1:Int)/\r.2.2=(Jx s a).2.2/\((Jx s a).2.2=0->r.1=(Jx s a).1)
theorem z7f:∀k:Nat,k<6->∀c:UInt8,signB[k]?=some c->Lib.indexByte signB c=(k:Int)/\c∈signB:=by decide
set_option maxHeartbeats 2000000 in
theorem z7g(hs:s.length<=65536)(ha:a<s.length){R:Int×Int×Int->Prop}(h:∀r,z0m s a r->R r):PC Tp gl 122 [Arg.mk .str (bl s),Arg.mk (.int .i64) (a:Int)] [.int .i64,.int .i64,.int .i64] R:=by
 apply zdi
 have hd:s.drop a=s[a]::s.drop (a+1):=Ay ha
 have ah:(s.drop a).length=s.length-a:=As
 have eV:=zmx hd
 have b0:zb (bl s) (a:Int).toNat=(s[a].toNat:Int):=by rw[Af];exact zte ha
 have ab:=λp=>zor p (s.drop a)
 have bs:(⟨#[123,125,91,93,44,58]⟩:Bt)=bl signB:=rfl
 have bb:(⟨#[32,9,10,13]⟩:Bt)=bl Ws:=rfl
 have bh:(⟨#[45,48,49,50,51,52,53,54,55,56,57]⟩:Bt)=bl zmh:=rfl
 have bn:(⟨#[45,43,46,48,49,50,51,52,53,54,55,56,57,101,69]⟩:Bt)=bl zd6:=rfl
 have bm:(⟨#[97,98,99,100,101,102,103,104,105,106,107,108,109,110,111,112,113,114,115,116,117,118,119,120,121,122]⟩:Bt)=bl y7:=rfl
 rw[b0,bs,bb,bh,bn,bm,zd,zd]
 generalize s[a]=c at eV hd
 refine⟨⟨by omega,by omega⟩,λi=>∃k:Nat,i=(k:Int)/\k<=6/\∀j (hj:j<signB.length),j<k->signB[j]≠c,λi=>6-i.toNat,⟨0,rfl,by omega,λj _ hj=>by omega⟩,?_⟩
 rintro i ⟨k,rfl,hk,hn⟩
 have s6:signB.length=6:=rfl
 refine⟨λhx=>⟨⟨by omega,of_decide_eq_true hx⟩,λhy=>?_,λhy=>?_⟩,λhx=>?_⟩
 ·have hx:=of_decide_eq_true hx
  have Z:k<signB.length:=by omega
  rw[Af,zte Z,u8e]at hy
  have hy:=of_decide_eq_true hy
  obtain⟨e1,e2⟩:=z7f k (by omega) c (by rw[Ak Z,hy])
  rw[if_pos e2]at eV
  refine h _ ?_
  unfold z0m
  rw[eV,e1,w64 (by omega),w64 (by omega)]
  exact⟨by show(a:Int)+1=((a+1:Nat):Int);omega,rfl,λ_=>rfl⟩
 ·have hx:=of_decide_eq_true hx
  have Z:k<signB.length:=by omega
  rw[Af,zte Z,u8e]at hy
  have hy:=of_decide_eq_false hy
  rw[w64 (by omega)]
  refine⟨⟨k+1,by omega,by omega,λj hj af=>?_⟩,by dsimp only;omega⟩
  rcases AF j k with h1|h1
  ·exact hn j hj h1
  ·have:j=k:=by omega
   subst this;exact λhh=>hy hh.symm
 ·have hx:=of_decide_eq_false hx
  have ae:¬c∈signB:=λhm=>by
   obtain⟨j,hj,e⟩:=AY hm
   exact hn j hj (by omega) e
  rw[if_neg ae]at eV
  refine zkl (by decide) ⟨λhy=>?_,λhy=>?_⟩
  ·have hy:c∈Ws:=of_decide_eq_true hy
   rw[if_pos hy]at eV
   refine zxg (by decide) hs (by omega) (h _ ?_)
   unfold z0m;rw[eV];exact⟨rfl,rfl,λ_=>rfl⟩
  have hy:¬c∈Ws:=of_decide_eq_false hy
  rw[if_neg hy]at eV
  rw[show((c.toNat:Int)==34)=decide (c=34)from u8i (n:=34) (by omega)]
  refine⟨λhz=>?_,λhz=>?_⟩
  ·have hz:=of_decide_eq_true hz
   rw[if_pos hz]at eV
   refine z2w (by omega) (h _ ?_)
   have he:zze s (a:Int)=(((qz s a).2.1:Int),(qz s a).2.2):=by
    unfold zze;rw[if_neg (by omega),Af]
   rw[he]
   unfold z0m
   rw[eV]
   by_cases h0:(qz s a).2.2=0
   ·rw[if_pos h0];exact⟨rfl,h0,λ_=>rfl⟩
   ·rw[if_neg h0];exact⟨rfl,rfl,λhh=>absurd hh h0⟩
  have hz:=of_decide_eq_false hz
  rw[if_neg hz]at eV
  refine zkl (by decide) ⟨λhw=>?_,λhw=>?_⟩
  ·have hw:c∈zmh:=of_decide_eq_true hw
   rw[if_pos hw]at eV
   refine zxg (by decide) hs (by omega) ?_
   have:=ab (jk zd6)
   refine⟨⟨by omega,by omega,by omega⟩,?_⟩
   have ex:(bl s).extract (a:Int).toNat ((a+Zh (jk zd6) (s.drop a):Nat):Int).toNat=bl ((s.drop a).take (Zh (jk zd6) (s.drop a))):=by
    rw[Af,Af,zt];congr 1;rw[C7]
   rw[ex]
   refine zgb (by rw[AO];omega) ⟨λhe=>?_,λhe=>?_⟩
   ·have he:¬(zo ((s.drop a).take (Zh (jk zd6) (s.drop a)))).2=0:=by simpa using he
    rw[if_neg he]at eV
    refine h _ ?_
    unfold z0m;rw[eV];exact⟨rfl,rfl,λhh=>absurd hh he⟩
   ·have he:(zo ((s.drop a).take (Zh (jk zd6) (s.drop a)))).2=0:=by simpa using he
    rw[if_pos he]at eV
    refine h _ ?_
    unfold z0m;rw[eV];exact⟨rfl,rfl,λ_=>rfl⟩
  have hw:¬c∈zmh:=of_decide_eq_false hw
  rw[if_neg hw]at eV
  refine zxg (by decide) hs (by omega) ?_
  have:=ab (jk y7)
  refine⟨⟨by omega,by omega,by omega⟩,?_⟩
  have ex:(bl s).extract (a:Int).toNat ((a+Zh (jk y7) (s.drop a):Nat):Int).toNat=bl ((s.drop a).take (Zh (jk y7) (s.drop a))):=by
   rw[Af,Af,zt];congr 1;rw[C7]
  rw[ex]
  have e:=λl:Bs=>(zb5 ((s.drop a).take (Zh (jk y7) (s.drop a))) l:((bl _:Bt).toList==((⟨l.toArray⟩:Bt):Bt).toList)=_)
  have e1:=e [116,114,117,101];have e2:=e [102,97,108,115,101];have e3:=e [110,117,108,108]
  rw[e1,e2,e3]
  have aa:∀k:Int,Yq ((s.drop a).take (Zh (jk y7) (s.drop a)))=k->¬k=0->R (k,((a+Zh (jk y7) (s.drop a):Nat):Int),0):=λk hk h0=>by
   rw[hk,if_neg h0]at eV
   refine h _ ?_
   unfold z0m;rw[eV];exact⟨rfl,rfl,λ_=>rfl⟩
  refine⟨λhx=>aa 10 ?_ (by omega),λhx=>⟨λhy=>aa 11 ?_ (by omega),λhy=>⟨λhz=>aa 12 ?_ (by omega),λhz=>?_⟩⟩⟩
  ·unfold Yq;rw[if_pos (of_decide_eq_true hx)]
  ·unfold Yq;rw[if_neg (of_decide_eq_false hx),if_pos (of_decide_eq_true hy)]
  ·unfold Yq;rw[if_neg (of_decide_eq_false hx),if_neg (of_decide_eq_false hy),if_pos (of_decide_eq_true hz)]
  ·have:Yq ((s.drop a).take (Zh (jk y7) (s.drop a)))=0:=by unfold Yq;rw[if_neg (of_decide_eq_false hx),if_neg (of_decide_eq_false hy),if_neg (of_decide_eq_false hz)]
   rw[if_pos this]at eV
   refine h _ ?_
   unfold z0m;rw[eV];exact⟨rfl,rfl,λhh=>by simp at hh⟩
theorem zm5:∀(f:Nat) (s:Bs) (a:Nat) (o:List Tk),(Q0 f s a o).1.length<=o.length+f
 |0,s,a,o=>Nat.le_add_right _ _
 |f+1,s,a,o=>by
  rw[Q0]
  split
  ·split
   ·have:=zm5 f s (Jx s a).2.1 (o++[((Jx s a).1,((a:Int),((Jx s a).2.1:Int)))])
    rw[Ar,List.length_singleton]at this;omega
   ·simp
  ·simp
theorem ztf{R:List Tk×Int×Int->Prop}(h:R ((yk s).1,((yk s).2.1:Int),(yk s).2.2)):PC Tp gl 63 [Arg.mk .str (bl s)] [.row (.pair (.int .i64) (.pair (.int .i64) (.int .i64))),.int .i64,.int .i64] R:=by
 apply Xp
 rw[zd]
 refine⟨λhx=>?_,λhx=>?_⟩
 ·have hx:=of_decide_eq_true hx
  unfold yk at h;rw[if_pos (by omega)]at h;exact h
 have hx:=of_decide_eq_false hx
 have hR:yk s=Q0 s.length s 0 []:=by unfold yk;rw[if_neg (by omega)]
 refine⟨λout i=>∃(a f:Nat),i=(a:Int)/\a<=s.length/\s.length-a<=f/\out.length<=a/\yk s=Q0 f s a out,λ_ i=>s.length-i.toNat,⟨0,s.length,rfl,by omega,by omega,by simp,hR⟩,?_⟩
 rintro out i ⟨a,f,rfl,ha,hf,ho,hT⟩
 refine⟨λhy=>?_,λhy=>?_⟩
 ·have hy:=of_decide_eq_true hy
  have Z:a<s.length:=by omega
  obtain⟨f,rfl⟩:∃f',f=f'+1:=⟨f-1,by omega⟩
  refine z7g (by omega) Z λr hr=>?_
  obtain⟨k,t,e⟩:=r
  obtain⟨r1,r2,r3⟩:=hr
  dsimp only at r1 r2 r3
  refine⟨λhe=>?_,λhe=>?_⟩
  ·have he:¬e=0:=by simpa using he
   rw[hT,Q0,if_pos Z,if_neg (by rw[<-r2];exact he)]at h
   rw[<-r1,<-r2]at h
   exact h
  ·have he:e=0:=by simpa using he
   have h0:(Jx s a).2.2=0:=by rw[<-r2];exact he
   have hp:=zgd Z h0
   have hk:=r3 h0
   subst hk r1
   refine⟨by simp;omega,⟨(Jx s a).2.1,f,rfl,hp.2,by omega,?_,?_⟩,?_⟩
   ·rw[Ar];show out.length+1<=_;omega
   ·rw[hT,Q0,if_pos Z,if_pos h0]
   ·show s.length-((Jx s a).2.1:Int).toNat<s.length-(a:Int).toNat
    rw[Af,Af];omega
 ·have hy:=of_decide_eq_false hy
  have e:Q0 f s a out=(out,a,0):=by cases f with
   |zero=>rfl
   |succ f=>rw[Q0,if_neg (by omega)]
  rw[hT,e]at h
  exact h
end
section
variable {lo b:Nat} {g:za} {M:Fr} {cs:Array Value}
def ztg(na:NA)(b:Nat):List Nat:=if na.length=0 then []else b::na.flatMap λp=>p.2.kb++p.2.pb
theorem zrf{na:NA}{sl:Sl}(H:NS lo g M na sl b cs){c:Nat}(h:c∈ztg na b):lo<=c:=by
 unfold ztg at h
 split at h
 ·cases h
 rename_i h0
 rcases Ai.1 h with rfl|h
 ·exact(H.lb (H.cell (n:=0) (by omega)).2.2.1).1
 ·obtain⟨p,hp,hc⟩:=Be.1 h
  exact((H.nd p hp).own (Av.1 hc)).1
theorem zph{na:NA}(h:0<na.length):ztg na b=b::na.flatMap λp=>p.2.kb++p.2.pb:=by unfold ztg;rw[if_neg (by omega)]
theorem NS.rd{na:NA}{sl:Sl}(H:NS lo g M na sl b cs)(ag:AgM M g)(hn:na.length<=4096)(hk:∀p∈na,ndW p.1<=1000000):Rd (MxL M g (ztg na b)) (.row tNd) (na.map (·.1)) [slV sl]:=by
 have hl:=H.len
 have hc:=H.cr.ro.le
 refine⟨_,rfl,sl.a,sl.cap,?_,⟨by rw[AM];omega,by rw[AM];omega⟩,?_⟩
 ·show slV _=_
  unfold slV;rw[AM,hl]
 ·by_cases h0:na=[]
  ·left;rw[h0];rfl
  ·have hp:0<na.length:=Bl.2 h0
   obtain⟨h1,h2,h3,h4,h5⟩:=H.cell hp
   refine .inr ⟨b,0,cs,h1,MxL.at (by rw[zph hp];exact Am) h2,λi hi=>?_⟩
   rw[AM]at hi
   have hm:=AP hi
   obtain⟨q1,q2⟩:=H.cr.el i (ndC na[i]) (by rw[Cc,Ak hi];rfl)
   rw[Az,show sz tNd=7 from rfl,q2,List.getElem_map]
   have I:=H.nd _ hm
   have hw:=hk _ hm
   unfold ndW at hw
   have r1:=I.kk.rd ag (all:=ztg na b) (λc hc=>by rw[zph hp];exact Ag _ (Be.2 ⟨_,hm,Av.2 (.inl hc)⟩)) (by omega)
   have r2:=I.pp.rd ag (all:=ztg na b) (λc hc=>by rw[zph hp];exact Ag _ (Be.2 ⟨_,hm,Av.2 (.inr hc)⟩)) (by omega)
   refine⟨[.int .i64 na[i].1.1],[.int .i64 na[i].1.2.1.1,.int .i64 na[i].1.2.1.2,.int .i64 na[i].1.2.2.1.1,.int .i64 na[i].1.2.2.1.2,slV na[i].2.ks,slV na[i].2.ps],rfl,rfl,?_⟩
   refine⟨[.int .i64 na[i].1.2.1.1,.int .i64 na[i].1.2.1.2],[.int .i64 na[i].1.2.2.1.1,.int .i64 na[i].1.2.2.1.2,slV na[i].2.ks,slV na[i].2.ps],rfl,⟨_,_,rfl,rfl,rfl⟩,?_⟩
   refine⟨[.int .i64 na[i].1.2.2.1.1,.int .i64 na[i].1.2.2.1.2],[slV na[i].2.ks,slV na[i].2.ps],rfl,⟨_,_,rfl,rfl,rfl⟩,?_⟩
   exact⟨[slV na[i].2.ks],[slV na[i].2.ps],rfl,r1,r2⟩
theorem zim{x:Bs}{l:List Nd}{sl:Sl}(i j:Int)(h:Rd M (.row tNd) l [slV sl]):zco M [.pair .str (.row tNd),.int .i64,.int .i64] ((bl x,l),i,j) (.tuple #[.agg #[.string (bl x),slV sl],.int .i64 i,.int .i64 j]):=by
 refine⟨[.agg #[.string (bl x),slV sl],.int .i64 i,.int .i64 j],⟨_,_,rfl,?_,_,_,rfl,Wm _ i,_,rfl,Wm _ j⟩,rfl⟩
 exact⟨[.string (bl x),slV sl],rfl,[.string (bl x)],[slV sl],rfl,rfl,h⟩
theorem zzq{T:Ty}:Rd M (.row T) [] [slV ⟨none,0,0⟩]:=⟨_,rfl,none,0,rfl,⟨by simp,by simp⟩,.inl rfl⟩
theorem qae:qf Tp 36=true:=by kernel_rfl
theorem qaf:qw Tp 36=2:=by kernel_rfl
theorem Zr{x y:Value}(B:Blk g b #[x,y]){u:Bt}{v:Sl}{K:za->Prop}(hK:∀g',(∀j,j≠b->g'[j]?=g[j]?)->g'.size=g.size->Blk g' b #[.string u,slV v]->K g'):
  XRunU Tp (Aj 36 (.pointer (some ⟨b,0,none⟩)) (.agg #[.string u,slV v])) g K:=by
 refine Jv (vs:=[.string u,slV v]) qae B rfl qaf (Ac _) (λw hw=>?_) λg' q1 q2 q3=>hK g' q3 q2 q1
 simp at hw;rcases hw with rfl|rfl <;> rfl
theorem zd7{l:List Tk}{k:Nat}(hk:k<l.length):qc (l.take (k+1))=qc (l.take k)++(if l[k].1≠1 then [l[k]]else []):=by
 unfold qc
 rw[AL hk,List.filter_append]
 congr 1
 by_cases h:l[k].1=1
 ·simp[h]
 ·simp[h]
end
section
variable {s:Bs}
theorem zkm(h:(yk s).2.2=0):s.length<=65536/\(yk s).1.length<=s.length:=by
 unfold yk at h ⊢
 split at h
 ·simp at h
 ·rename_i hh
  rw[if_neg hh]
  have:=zm5 s.length s 0 []
  rw[CP,Az]at this
  exact⟨by omega,this⟩
set_option maxRecDepth 100000 in
set_option maxHeartbeats 4000000 in
theorem zm6{gl:Fr}(hg:GL gl){R:(Bt×List Nd)×Int×Int->Prop}(hR:R ((bl (wv s).1.1,(wv s).1.2),(wv s).2.1,(wv s).2.2)):
  PC Tp gl 19 [Arg.mk .str (bl s)] [.pair .str (.row tNd),.int .i64,.int .i64] R:=by
 intro h M vs hM ag ha
 match vs,ha with
 |[u1],⟨a1,_⟩=>
  obtain rfl:=xp (s:=bl s) a1
  apply PX.of
  apply zj6
  intro h1
  have k1:Keep h.size h h1:=Keep.push _ _ (Ac _)
  have z1:h1.size=h.size+1:=Al _
  have B1:Blk h1 h.size #[.string ⟨#[]⟩,.slice none 0 0]:=Blk.new _ _ _
  clear_value h1
  have a8:AgM M h1:=ag.keep k1
  refine zzp hg hM a8 λh3 M1 t L1 rt=>⟨t,_,_,rfl,?_⟩
  have B3:=B1.keep (L1.keep.get h.size (by omega))
  have z3:=L1.keep.size
  have k3:Keep h.size h h3:=k1.trans (c:=h3) (m:=h.size) ⟨z3,λj hj=>L1.keep.get j (by omega)⟩ (Ac _)
  have bq:∀b,b<h.size->M1 b=M b:=λb hb=>L1.old b (by omega)
  have bG:M h.size=none:=by
   cases e:M h.size with
   |none=>rfl
   |some x=>have:=ag.lt e;omega
  have aN:M1 h.size=none:=by rw[L1.old _ (by omega)];exact bG
  refine⟨λhx=>?_,λhx=>?_⟩
  ·have hx:¬(yk s).2.2=0:=by simpa using hx
   have eD:wv s=(([],[]),((yk s).2.1:Int),(yk s).2.2):=by unfold wv;rw[if_neg hx]
   rw[eD]at hR
   refine Zr (u:=⟨#[]⟩) (v:=⟨none,0,0⟩) B3 λh7 f7 z7 B7=>⟨_,_,B7.ld (cs:=[.string ⟨#[]⟩,slV ⟨none,0,0⟩]),?_⟩
   exact⟨M,_,Later.same ag ⟨by omega,λj hj=>by rw[f7 j (by omega)];exact k3.get j hj⟩,zim (x:=[]) (l:=[]) _ _ zzq,hR⟩
  have hx:(yk s).2.2=0:=by simpa using hx
  obtain⟨hs,bC⟩:=zkm hx
  have eD:wv s=match Qb s 32 (0,0) ⟨qc (yk s).1,0,[]⟩with
   |.inl st=>if st.rest=[]then((s,st.nodes),(s.length:Int),0)else(([],[]),st.here s.length,2)
   |.inr e=>(([],[]),e.1,e.2):=by unfold wv;rw[if_pos hx];rfl
  have aU:=zie (zqw s)
  generalize (yk s).1=tl at rt bC eD aU
  have rl:=(rowLen rt).1
  intro ay
  have bS:Keep h3.size h3 ay:=Keep.push _ _ (Ac _)
  have bZ:ay.size=h3.size+1:=Al _
  have bm:Blk ay h3.size (ppC s ⟨none,0,0⟩ 0 0 ⟨none,0,0⟩ 0 0).toArray:=Blk.new _ _ _
  clear_value ay
  have aP:∀c,h3.size<=c->M1 c=none:=λc hc=>by
   cases e:M1 c with
   |none=>rfl
   |some x=>have:=L1.ag.lt e;omega
  refine⟨λk g=>∃(n:Nat) (rs:Sl) (bs:List Nat),k=(n:Int)/\n<=tl.length/\ORow (h3.size+1) g M1 tTk (qc (tl.take n)) rs bs/\Blk g h3.size (ppC s rs 0 0 ⟨none,0,0⟩ 0 0).toArray/\Keep h3.size h3 g,λk _=>tl.length-k.toNat,⟨0,⟨none,0,0⟩,[],rfl,by omega,.nil,bm,bS⟩,?_⟩
  rintro k g ⟨n,rs,bs,rfl,hn,ro,Bp,kg⟩
  have agg:AgM M1 g:=L1.ag.keep kg
  have zg:h3.size+1<=g.size:=by have:=Bp.lt;omega
  refine⟨λax=>?_,λbM=>?_⟩
  ·have ax:n<tl.length:=by have:=of_decide_eq_true ax;omega
   obtain⟨tb,o,e1,e2,e3,e4⟩:=ztb agg rt ax
   have au:=zd7 ax
   refine⟨_,⟨e1,by omega,by omega⟩,tl[n].1,tl[n].2.1,tl[n].2.2,?_,?_⟩
   ·rw[zi,Af]
    exact⟨by rw[zi];exact e2,by rw[zi];exact e3,by rw[zi];exact e4,trivial⟩
   intro ar
   have bz:Keep g.size g ar:=Keep.push _ _ (Ac _)
   have b9:ar.size=g.size+1:=Al _
   have bD:Blk ar g.size (zkp 0 0 0).toArray:=Blk.new _ _ _
   clear_value ar
   refine zwz bD λab q1 q2 q3=>⟨tl[n].1,by rw[zi];exact q3.cell rfl,?_⟩
   have aJ:Keep g.size g ab:=⟨by omega,λj hj=>(q1 j (by omega)).trans (bz.get j hj)⟩
   have ae:=ro.frame (λc hc=>aJ.get c (ro.own c hc).2.1) (Fr.le.refl M1) λc hc=>(ro.own c hc).2.2
   have an:=Bp.keep (aJ.get _ (by omega))
   have aB:Keep h3.size h3 ab:=kg.trans (c:=ab) (m:=h3.size) ⟨by omega,λj hj=>aJ.get j (by omega)⟩ (Ac _)
   have aE:Aa .i64 ((n:Int)+1)=((n+1:Nat):Int):=by rw[w64 (by omega)];omega
   rw[aE]
   refine⟨λhb=>⟨_,rfl,rs,by rw[zi];exact an.cell rfl,tl[n].1,tl[n].2.1,tl[n].2.2,q3.ld,?_⟩,λhb=>?_⟩
   ·have hb:tl[n].1≠1:=by simpa using hb
    rw[if_pos hb]at au
    intro ai
    have ap:Keep ab.size ab ai:=Keep.push _ _ (Ac _)
    have bT:ai.size=ab.size+1:=Al _
    have ba:Blk ai ab.size (zkp tl[n].1 tl[n].2.1 tl[n].2.2).toArray:=Blk.new _ _ _
    clear_value ai
    refine⟨by rw[zi];exact ap.get h3.size (by omega),?_⟩
    have aZ:=ae.frame (λc hc=>ap.get c (ae.own c hc).2.1) (Fr.le.refl M1) λc hc=>(ae.own c hc).2.2
    have aQ:=an.keep (ap.get _ (by omega))
    have aA:Keep h3.size h3 ai:=aB.trans (c:=ai) (m:=h3.size) ⟨by omega,λj hj=>ap.get j (by omega)⟩ (Ac _)
    have be:(qc (tl.take n)).length<=n:=by
     have:(qc (tl.take n)).length<=(tl.take n).length:=List.length_filter_le _ _
     rw[AO]at this;omega
    refine ORow.app zw5 (by omega) (L1.ag.keep aA) aZ (by omega) ba (zw6 _ _ _) (by omega) λs' ca bn aM cj c29 aY=>⟨s',rfl,_,rfl,?_⟩
    rw[zi]
    have bF:h3.size∉bs:=λhm=>by have:=(ro.own _ hm).1;omega
    refine yy z3m z3n (aQ.keep (aY _ (by omega) bF)) (by show 1<7;omega) rfl λbi u1 u2 u3=>⟨⟨n+1,s',bn,rfl,by omega,?_,u1,?_⟩,?_⟩
    ·rw[au]
     exact aM.frame (λc hc=>u3 c λe=>by have:=(aM.own c hc).1;omega) (Fr.le.refl M1) λc hc=>(aM.own c hc).2.2
    ·refine aA.trans (c:=bi) (m:=h3.size) ⟨by omega,λj hj=>?_⟩ (Ac _)
     rw[u3 j (by omega),aY j (by omega) λhm=>by have:=(ro.own j hm).1;omega]
    ·show tl.length-((n+1:Nat):Int).toNat<tl.length-(n:Int).toNat
     omega
   ·have hb:¬tl[n].1≠1:=by simpa using hb
    rw[if_neg hb,A8]at au
    refine⟨⟨n+1,rs,bs,rfl,by omega,by rw[au];exact ae,an,aB⟩,?_⟩
    show tl.length-((n+1:Nat):Int).toNat<tl.length-(n:Int).toNat
    omega
  ·have bH:n=tl.length:=by have:=of_decide_eq_false bM;omega
   subst bH
   rw[BD]at ro
   have be:(qc tl).length<=tl.length:=List.length_filter_le _ _
   have bB:=ro.rd agg (all:=bs) (λc hc=>hc) (by omega)
   have bP:AgM (MxL M1 g bs) g:=MxL.ag agg bs
   have aC:∀c∈bs,h3.size+1<=c:=λc hc=>(ro.own c hc).1
   have aG:∀c,c∉bs->MxL M1 g bs c=M1 c:=λc hc=>by unfold MxL;rw[if_neg hc]
   have bj:Fr.le gl (MxL M1 g bs):=hM.trans (L1.le.trans (zch agg bs))
   have P:PaS h3.size g (MxL M1 g bs) h3.size s ⟨qc tl,0,[]⟩ 0 0 (ppO h3.size [] ⟨none,0,0⟩ 0):=by
    refine⟨rs,0,[],⟨none,0,0⟩,0,#[],⟨Bp,bB,.nil,bP,⟨Ac _,?_⟩,?_⟩,rfl,rfl⟩
    ·rw[aG _ λhm=>by have:=aC _ hm;omega];exact aP _ (Ac _)
    ·rintro(⟨h1,_⟩|⟨p,hp,_⟩)
     ·exact h1 rfl
     ·cases hp
   have hT:(⟨qc tl,0,[]⟩:PSt).T<=200000:=by unfold PSt.T;simp;omega
   have bI:=zzm (lo:=h3.size) (M:=MxL M1 g bs) (bp:=h3.size) (s:=s) hg bj hs 32 (Ac _) (0,0) g _ 0 0 _ P (by simp) hT aU
   refine bI _ λb bA st' a' e' O' P' S' n' A'=>⟨b,rfl,?_⟩
   intro bE a7
   have aO:∀(ok:Bool) (ah:za) (aa:PSt) (a1 e1:Int) (O1:Nat->Prop),PaS h3.size ah (MxL M1 g bs) h3.size s aa a1 e1 O1->Stp g (ppO h3.size [] ⟨none,0,0⟩ 0) ah O1->(ok=false->wv s=(([],[]),a1,e1))->(ok=true->wv s=((s,aa.nodes),(s.length:Int),0)/\aa.nodes.length<=4096/\aa.T<=200000)->bE ok ah:=by
    intro ok ah aa a1 e1 O1 P1 S1 hf ht
    refine a7 ok ah ?_
    have bL:∀c,c<h3.size->¬ppO h3.size [] ⟨none,0,0⟩ 0 c:=λc hc=>by
     rintro(h1|⟨h1,_⟩|⟨p,hp,_⟩)
     ·omega
     ·exact h1 rfl
     ·cases hp
    have aI:∀j,j<h3.size->ah[j]?=h3[j]?:=λj hj=>(S1.fr j (by omega) (bL j hj)).trans (kg.get j hj)
    have cd:=S1.le
    have Bd:=B3.keep (aI h.size (by omega))
    have bJ:=P1
    obtain⟨aL,br,af,ak,b1,aS,W1,Z,bg⟩:=bJ
    have cc:=W1.blk.lt
    refine⟨λho=>⟨_,rfl,a1,by rw[zi];exact W1.blk.cell rfl,_,rfl,e1,by rw[zi];exact W1.blk.cell rfl,rfl,rfl,?_⟩,λho=>⟨_,rfl,ak,by rw[zi];exact W1.blk.cell rfl,?_⟩⟩
    ·have ho:ok=false:=by simpa using ho
     refine Zr (u:=⟨#[]⟩) (v:=⟨none,0,0⟩) Bd λbU a6 ck bu=>?_
     have am:=a6 h3.size (by omega)
     refine⟨by rw[zi];exact am,by rw[zi];exact am,by rw[zi];exact am,_,_,bu.ld (cs:=[.string ⟨#[]⟩,slV ⟨none,0,0⟩]),?_⟩
     rw[hf ho]at hR
     exact⟨M,_,Later.same ag ⟨by omega,λj hj=>by rw[a6 j (by omega),aI j (by omega)];exact k3.get j hj⟩,zim (x:=[]) (l:=[]) _ _ zzq,hR⟩
    ·have ho:ok=true:=by simpa using ho
     obtain⟨bh,bV,b8⟩:=ht ho
     refine Zr (u:=bl s) (v:=ak) Bd λaz aH bY bO=>⟨_,_,bO.ld (cs:=[.string (bl s),slV ak]),?_⟩
     rw[bh]at hR
     rw[zd]
     have bo:MxL M1 g bs h.size=none:=by rw[aG _ λhm=>by have:=aC _ hm;omega];exact aN
     have aV:NS h3.size az (MxL M1 g bs) af ak b1 aS:=W1.ns.frame (by omega) λc hc=>aH c λe=>by have:=(W1.ns.own hc).1;omega
     have aj:AgM (MxL M1 g bs) az:=zg5 W1.ag λj hj hm=>aH j λe=>hm (e ▸ bo)
     have cb:af.length=aa.nodes.length:=by rw[<-Z,AM]
     have aT:=aV.rd aj (by omega) λp hp=>by
      have:p.1∈aa.nodes:=by rw[<-Z];exact List.mem_map_of_mem hp
      have:=zv3 this;omega
     rw[Z]at aT
     refine⟨MxL (MxL M1 g bs) az (ztg af b1),_,⟨⟨by omega,λj hj=>by rw[aH j (by omega),aI j (by omega)];exact k3.get j hj⟩,?_,λc hc=>?_,MxL.ag aj _⟩,zim _ _ aT,hR⟩
     ·exact L1.le.trans ((zch agg bs).trans (zch aj _))
     ·have h1:c∉ztg af b1:=λhm=>by have:=zrf aV hm;omega
      have e1:MxL (MxL M1 g bs) az (ztg af b1) c=MxL M1 g bs c:=by unfold MxL;rw[if_neg h1]
      rw[e1,aG c λhm=>by have:=aC c hm;omega]
      exact bq c hc
   have bQ:=P'
   obtain⟨aL,br,af,ak,b1,aS,W1,Z,bg⟩:=bQ
   have cg:=(rowLen W1.rd).1
   refine⟨_,λ_=>rfl,aL,λ_=>by rw[zi];exact W1.blk.cell rfl,λhc=>?_,λhc=>?_⟩
   ·have hb:b=true/\0<st'.rest.length:=by
     cases b with
     |false=>simp at hc
     |true=>simp at hc;exact⟨rfl,by omega⟩
    refine Jq P' λg' P2 S2=>⟨false,rfl,aO false g' st' _ _ O' P2 (S'.trans S2) (λ_=>?_) (λh=>(by cases h))⟩
    rw[eD]
    cases hr:Qb s 32 (0,0) ⟨qc tl,0,[]⟩with
    |inl x=>
     rw[hr]at A'
     rw[A'.2]at hb ⊢
     dsimp only
     rw[if_neg λe=>by rw[e]at hb;simp at hb]
    |inr x=>rw[hr]at A';rw[A'.1]at hb;exact absurd hb.1 (by simp)
   ·refine aO b bA st' a' e' O' P' S' (λhb=>?_) (λhb=>?_)
    ·rw[eD]
     cases hr:Qb s 32 (0,0) ⟨qc tl,0,[]⟩with
     |inl x=>rw[hr]at A';rw[A'.1]at hb;cases hb
     |inr x=>rw[hr]at A';rw[A'.2]
    ·subst hb
     have hz:st'.rest=[]:=by
      have:¬0<aL.len:=by simpa using hc
      exact AU.1 (by omega)
     cases hr:Qb s 32 (0,0) ⟨qc tl,0,[]⟩with
     |inl x=>
      rw[hr]at A' eD
      have aF:=zge s 32 _ _ _ hr
      rw[<-A'.2]at aF eD
      dsimp only at eD
      rw[if_pos hz]at eD
      exact⟨eD,aF.m (by simp),by have:=aF.t;omega⟩
     |inr x=>rw[hr]at A';exact absurd A'.1 (by simp)
end
end Go.X
end
section
namespace Go.X
open Go Go.X Go.Proofs Go.RowKit
set_option maxRecDepth 100000 in
set_option maxHeartbeats 4000000 in
section
theorem zpi{gl:Fr}(hg:GL gl){s:Bs}{R:(Bt×List Nd)×Int×Int->Prop}(hR:R ((bl (wv s).1.1,(wv s).1.2),(wv s).2.1,(wv s).2.2)):
  PC Tp gl 20 [Arg.mk .str (bl s)] [.pair .str (.row tNd),.int .i64,.int .i64] R:=by
 intro h M vs hM ag ha
 match vs,ha with
 |[u1],⟨a1,_⟩=>
  obtain rfl:=xp (s:=bl s) a1
  apply PX.of
  apply zav
  intro h1
  have k1:Keep h.size h h1:=Keep.push _ _ (Ac _)
  have z1:h1.size=h.size+1:=Al _
  have B1:Blk h1 h.size #[.string ⟨#[]⟩,.slice none 0 0]:=Blk.new _ _ _
  clear_value h1
  have aU:AgM M h1:=ag.keep k1
  refine(ztf (gl:=gl) (s:=s) (R:=λr=>r=((yk s).1,((yk s).2.1:Int),(yk s).2.2)) rfl).go hM aU (yr (a:=Arg.mk .str _) (rdStr _) jq) λv h3 M1 rr L1 hv hr=>?_
  subst hr
  obtain⟨vs,⟨v1,rest,rfl,a7,v2,bj,rfl,bI,v3,rfl,bG⟩,rfl⟩:=hv
  rw[qs bI,qs bG]
  obtain⟨t,rfl,rt⟩:=z5q a7
  refine⟨t,_,_,rfl,?_⟩
  have B3:=B1.keep (L1.keep.get h.size (by omega))
  have z3:=L1.keep.size
  have k3:Keep h.size h h3:=k1.trans (c:=h3) (m:=h.size) ⟨z3,λj hj=>L1.keep.get j (by omega)⟩ (Ac _)
  have bi:∀b,b<h.size->M1 b=M b:=λb hb=>L1.old b (by omega)
  have bz:M h.size=none:=by
   cases e:M h.size with
   |none=>rfl
   |some x=>have:=ag.lt e;omega
  have aG:M1 h.size=none:=by rw[L1.old _ (by omega)];exact bz
  refine⟨λhx=>?_,λhx=>?_⟩
  ·have hx:¬(yk s).2.2=0:=by simpa using hx
   have eD:wv s=(([],[]),((yk s).2.1:Int),(yk s).2.2):=by unfold wv;rw[if_neg hx]
   rw[eD]at hR
   refine Zr (u:=⟨#[]⟩) (v:=⟨none,0,0⟩) B3 λh7 f7 z7 B7=>⟨_,_,B7.ld (cs:=[.string ⟨#[]⟩,slV ⟨none,0,0⟩]),?_⟩
   exact⟨M,_,Later.same ag ⟨by omega,λj hj=>by rw[f7 j (by omega)];exact k3.get j hj⟩,zim (x:=[]) (l:=[]) _ _ zzq,hR⟩
  have hx:(yk s).2.2=0:=by simpa using hx
  obtain⟨hs,bq⟩:=zkm hx
  have eD:wv s=match Qb s 32 (0,0) ⟨qc (yk s).1,0,[]⟩with
   |.inl st=>if st.rest=[]then((s,st.nodes),(s.length:Int),0)else(([],[]),st.here s.length,2)
   |.inr e=>(([],[]),e.1,e.2):=by unfold wv;rw[if_pos hx];rfl
  have aN:=zie (zqw s)
  generalize (yk s).1=tl at rt bq eD aN
  have rl:=(rowLen rt).1
  intro ap
  have bL:Keep h3.size h3 ap:=Keep.push _ _ (Ac _)
  have bT:ap.size=h3.size+1:=Al _
  have be:Blk ap h3.size (rpC s ⟨none,0,0⟩ 0 ⟨none,0,0⟩ 0 0).toArray:=Blk.new _ _ _
  clear_value ap
  have aI:∀c,h3.size<=c->M1 c=none:=λc hc=>by
   cases e:M1 c with
   |none=>rfl
   |some x=>have:=L1.ag.lt e;omega
  refine⟨λk g=>∃(n:Nat) (rs:Sl) (bs:List Nat),k=(n:Int)/\n<=tl.length/\ORow (h3.size+1) g M1 tTk (qc (tl.take n)) rs bs/\Blk g h3.size (rpC s rs 0 ⟨none,0,0⟩ 0 0).toArray/\Keep h3.size h3 g,λk _=>tl.length-k.toNat,⟨0,⟨none,0,0⟩,[],rfl,by omega,.nil,be,bL⟩,?_⟩
  rintro k g ⟨n,rs,bs,rfl,hn,ro,Bp,kg⟩
  have agg:AgM M1 g:=L1.ag.keep kg
  have zg:h3.size+1<=g.size:=by have:=Bp.lt;omega
  refine⟨λan=>?_,λbE=>?_⟩
  ·have an:n<tl.length:=by have:=of_decide_eq_true an;omega
   obtain⟨tb,o,e1,e2,e3,e4⟩:=ztb agg rt an
   have am:=zd7 an
   have ay:Aa .i64 ((n:Int)+1)=((n+1:Nat):Int):=by rw[w64 (by omega)];omega
   rw[ay]
   refine⟨_,⟨e1,by omega,by omega⟩,tl[n].1,by rw[zi,zi,Af];exact e2,λhb=>?_,λhb=>?_⟩
   ·have hb:tl[n].1≠1:=by simpa using hb
    refine⟨_,rfl,rs,by rw[zi];exact Bp.cell rfl,_,⟨e1,by omega,by omega⟩,tl[n].1,tl[n].2.1,tl[n].2.2,?_,?_⟩
    ·rw[zi,Af]
     exact⟨by rw[zi];exact e2,by rw[zi];exact e3,by rw[zi];exact e4,trivial⟩
    rw[if_pos hb]at am
    intro af
    have ak:Keep g.size g af:=Keep.push _ _ (Ac _)
    have bO:af.size=g.size+1:=Al _
    have aV:Blk af g.size (zkp tl[n].1 tl[n].2.1 tl[n].2.2).toArray:=Blk.new _ _ _
    clear_value af
    refine⟨by rw[zi];exact ak.get h3.size (by omega),?_⟩
    have aQ:=ro.frame (λc hc=>ak.get c (ro.own c hc).2.1) (Fr.le.refl M1) λc hc=>(ro.own c hc).2.2
    have aJ:=Bp.keep (ak.get _ (by omega))
    have au:Keep h3.size h3 af:=kg.trans (c:=af) (m:=h3.size) ⟨by omega,λj hj=>ak.get j (by omega)⟩ (Ac _)
    have aY:(qc (tl.take n)).length<=n:=by
     have:(qc (tl.take n)).length<=(tl.take n).length:=List.length_filter_le _ _
     rw[AO]at this;omega
    refine ORow.app zw5 (by omega) (L1.ag.keep au) aQ (by omega) aV (zw6 _ _ _) (by omega) λs' bV bg aF cb c29 aP=>⟨s',rfl,_,rfl,?_⟩
    rw[zi]
    have bu:h3.size∉bs:=λhm=>by have:=(ro.own _ hm).1;omega
    refine yy z3m z3n (aJ.keep (aP _ (by omega) bu)) (by show 1<6;omega) rfl λa8 u1 u2 u3=>⟨⟨n+1,s',bg,rfl,by omega,?_,u1,?_⟩,?_⟩
    ·rw[am]
     exact aF.frame (λc hc=>u3 c λe=>by have:=(aF.own c hc).1;omega) (Fr.le.refl M1) λc hc=>(aF.own c hc).2.2
    ·refine au.trans (c:=a8) (m:=h3.size) ⟨by omega,λj hj=>?_⟩ (Ac _)
     rw[u3 j (by omega),aP j (by omega) λhm=>by have:=(ro.own j hm).1;omega]
    ·show tl.length-((n+1:Nat):Int).toNat<tl.length-(n:Int).toNat
     omega
   ·have hb:¬tl[n].1≠1:=by simpa using hb
    rw[if_neg hb,A8]at am
    refine⟨⟨n+1,rs,bs,rfl,by omega,by rw[am];exact ro,Bp,kg⟩,?_⟩
    show tl.length-((n+1:Nat):Int).toNat<tl.length-(n:Int).toNat
    omega
  ·have bA:n=tl.length:=by have:=of_decide_eq_false bE;omega
   subst bA
   rw[BD]at ro
   have aY:(qc tl).length<=tl.length:=List.length_filter_le _ _
   have bo:=ro.rd agg (all:=bs) (λc hc=>hc) (by omega)
   have bH:AgM (MxL M1 g bs) g:=MxL.ag agg bs
   have ax:∀c∈bs,h3.size+1<=c:=λc hc=>(ro.own c hc).1
   have aA:∀c,c∉bs->MxL M1 g bs c=M1 c:=λc hc=>by unfold MxL;rw[if_neg hc]
   have ba:Fr.le gl (MxL M1 g bs):=hM.trans (L1.le.trans (zch agg bs))
   have P:RS h3.size g (MxL M1 g bs) h3.size s (qc tl) ⟨qc tl,0,[]⟩ 0 0 (ppO h3.size [] ⟨none,0,0⟩ 0):=by
    refine⟨rs,0,[],⟨none,0,0⟩,0,#[],⟨Bp,bo,.nil,bH,⟨Ac _,?_⟩,?_⟩,⟨rfl,CK _,λt h=>absurd h (by omega)⟩,rfl,rfl⟩
    ·rw[aA _ λhm=>by have:=ax _ hm;omega];exact aI _ (Ac _)
    ·rintro(⟨h1,_⟩|⟨p,hp,_⟩)
     ·exact h1 rfl
     ·cases hp
   have hT:(⟨qc tl,0,[]⟩:PSt).T<=200000:=by unfold PSt.T;simp;omega
   have bB:=zre (lo:=h3.size) (M:=MxL M1 g bs) (bp:=h3.size) (s:=s) (l:=qc tl) hg ba hs (by omega) 32 (Ac _) (0,0) g _ 0 0 _ P (by simp) hT aN
   refine bB _ λb bn st' a' e' O' P' S' n' A'=>⟨b,rfl,?_⟩
   intro br aT
   have aH:∀(ok:Bool) (ae:za) (aa:PSt) (a1 e1:Int) (O1:Nat->Prop),RS h3.size ae (MxL M1 g bs) h3.size s (qc tl) aa a1 e1 O1->Stp g (ppO h3.size [] ⟨none,0,0⟩ 0) ae O1->(ok=false->wv s=(([],[]),a1,e1))->(ok=true->wv s=((s,aa.nodes),(s.length:Int),0)/\aa.nodes.length<=4096/\aa.T<=200000)->br ok ae:=by
    intro ok ae aa a1 e1 O1 P1 S1 hf ht
    refine aT ok ae ?_
    have bD:∀c,c<h3.size->¬ppO h3.size [] ⟨none,0,0⟩ 0 c:=λc hc=>by
     rintro(h1|⟨h1,_⟩|⟨p,hp,_⟩)
     ·omega
     ·exact h1 rfl
     ·cases hp
    have aC:∀j,j<h3.size->ae[j]?=h3[j]?:=λj hj=>(S1.fr j (by omega) (bD j hj)).trans (kg.get j hj)
    have b9:=S1.le
    have Bd:=B3.keep (aC h.size (by omega))
    have bC:=P1
    obtain⟨aE,k1,ab,ai,b1,aL,W1,A1,Z,aZ⟩:=bC
    have b8:=W1.blk.lt
    refine⟨λho=>⟨_,rfl,a1,by rw[zi];exact W1.blk.cell rfl,_,rfl,e1,by rw[zi];exact W1.blk.cell rfl,rfl,rfl,?_⟩,λho=>⟨_,rfl,ai,by rw[zi];exact W1.blk.cell rfl,?_⟩⟩
    ·have ho:ok=false:=by simpa using ho
     refine Zr (u:=⟨#[]⟩) (v:=⟨none,0,0⟩) Bd λbP aS cc bm=>?_
     have aj:=aS h3.size (by omega)
     refine⟨by rw[zi];exact aj,by rw[zi];exact aj,by rw[zi];exact aj,_,_,bm.ld (cs:=[.string ⟨#[]⟩,slV ⟨none,0,0⟩]),?_⟩
     rw[hf ho]at hR
     exact⟨M,_,Later.same ag ⟨by omega,λj hj=>by rw[aS j (by omega),aC j (by omega)];exact k3.get j hj⟩,zim (x:=[]) (l:=[]) _ _ zzq,hR⟩
    ·have ho:ok=true:=by simpa using ho
     obtain⟨a6,bQ,bU⟩:=ht ho
     refine Zr (u:=bl s) (v:=ai) Bd λar aB bS bF=>⟨_,_,bF.ld (cs:=[.string (bl s),slV ai]),?_⟩
     rw[a6]at hR
     rw[zd]
     have bh:MxL M1 g bs h.size=none:=by rw[aA _ λhm=>by have:=ax _ hm;omega];exact aG
     have aO:NS h3.size ar (MxL M1 g bs) ab ai b1 aL:=W1.ns.frame (by omega) λc hc=>aB c λe=>by have:=(W1.ns.own hc).1;omega
     have ah:AgM (MxL M1 g bs) ar:=zg5 W1.ag λj hj hm=>aB j λe=>hm (e ▸ bh)
     have bY:ab.length=aa.nodes.length:=by rw[<-Z,AM]
     have aM:=aO.rd ah (by omega) λp hp=>by
      have:p.1∈aa.nodes:=by rw[<-Z];exact List.mem_map_of_mem hp
      have:=zv3 this;omega
     rw[Z]at aM
     refine⟨MxL (MxL M1 g bs) ar (ztg ab b1),_,⟨⟨by omega,λj hj=>by rw[aB j (by omega),aC j (by omega)];exact k3.get j hj⟩,?_,λc hc=>?_,MxL.ag ah _⟩,zim _ _ aM,hR⟩
     ·exact L1.le.trans ((zch agg bs).trans (zch ah _))
     ·have h1:c∉ztg ab b1:=λhm=>by have:=zrf aO hm;omega
      have e1:MxL (MxL M1 g bs) ar (ztg ab b1) c=MxL M1 g bs c:=by unfold MxL;rw[if_neg h1]
      rw[e1,aA c λhm=>by have:=ax c hm;omega]
      exact bi c hc
   have bJ:=P'
   obtain⟨aE,k1,ab,ai,b1,aL,W1,A1,Z,aZ⟩:=bJ
   have ca:=(rowLen W1.rd).1
   have bZ:st'.rest.length=(qc tl).length-k1:=by rw[A1.rest,As]
   have bM:=A1.le
   refine⟨_,λ_=>rfl,(k1:Int),λ_=>by rw[zi];exact W1.blk.cell rfl,_,λ_=>rfl,aE,λ_=>by rw[zi];exact W1.blk.cell rfl,λhc=>?_,λhc=>?_⟩
   ·have hb:b=true/\0<st'.rest.length:=by
     cases b with
     |false=>simp at hc
     |true=>simp at hc;exact⟨rfl,by omega⟩
    refine Qu P' λg' P2 S2=>⟨false,rfl,aH false g' st' _ _ O' P2 (S'.trans S2) (λ_=>?_) (λh=>(by cases h))⟩
    rw[eD]
    cases hr:Qb s 32 (0,0) ⟨qc tl,0,[]⟩with
    |inl x=>
     rw[hr]at A'
     rw[A'.2]at hb ⊢
     dsimp only
     rw[if_neg λe=>by rw[e]at hb;simp at hb]
    |inr x=>rw[hr]at A';rw[A'.1]at hb;exact absurd hb.1 (by simp)
   ·refine aH b bn st' a' e' O' P' S' (λhb=>?_) (λhb=>?_)
    ·rw[eD]
     cases hr:Qb s 32 (0,0) ⟨qc tl,0,[]⟩with
     |inl x=>rw[hr]at A';rw[A'.1]at hb;cases hb
     |inr x=>rw[hr]at A';rw[A'.2]
    ·subst hb
     have hz:st'.rest=[]:=by
      have:¬(k1:Int)<(aE.len:Int):=by simpa using hc
      exact AU.1 (by omega)
     cases hr:Qb s 32 (0,0) ⟨qc tl,0,[]⟩with
     |inl x=>
      rw[hr]at A' eD
      have az:=zge s 32 _ _ _ hr
      rw[<-A'.2]at az eD
      dsimp only at eD
      rw[if_pos hz]at eD
      exact⟨eD,az.m (by simp),by have:=az.t;omega⟩
     |inr x=>rw[hr]at A';exact absurd A'.1 (by simp)
end
end Go.X
end
section
namespace Go.X
section
theorem Js(s0:Bt)(h:za)(R:Value->za->Prop)
  (H:XC Tp 13 #[] h (λb c=>∃d,b=.bool d/\(decide ((s0.size:Int)>4096)=true->R (.bool d) c)/\(decide ((s0.size:Int)>4096)=false->XC Tp 14 #[.string s0] c (λe f=>∃g i j k l m,e=.tuple #[.agg #[.int .i64 g,.string i,slV j,slV k],.int .i64 l,.int .i64 m]/\let n:=f.push (.cells #[.int .i64 0,.string (⟨#[]⟩:Bt),.slice none 0 0,.slice none 0 0] 26);XRunU Tp (Aj 26 (.pointer (some ⟨f.size,0,none⟩)) (.agg #[.int .i64 g,.string i,slV j,slV k])) n (λo=>∃(p:Int->za->Prop) (q:Int->za->Nat),p 0 o/\∀r:Int,∀s:za,p r s->((decide (r<2)=true->XC Tp 15 #[.string s0] s (λt u=>∃v w x y z A,t=.tuple #[.agg #[.int .i64 v,.string w,slV x,slV y],.int .i64 z,.int .i64 A]/\let B:=u.push (.cells #[.int .i64 0,.string (⟨#[]⟩:Bt),.slice none 0 0,.slice none 0 0] 26);XRunU Tp (Aj 26 (.pointer (some ⟨u.size,0,none⟩)) (.agg #[.int .i64 v,.string w,slV x,slV y])) B (λC=>∃D E F G,zf C ⟨u.size,0,none⟩ 0 [.int .i64 D,.string E,slV F,slV G]/\∃I J L M,zf C ⟨f.size,0,none⟩ 0 [.int .i64 I,.string J,slV L,slV M]/\XC Tp 16 #[.agg #[.int .i64 D,.string E,slV F,slV G],.agg #[.int .i64 I,.string J,slV L,slV M]] C (λN O=>∃P,N=.bool P/\∃Q S T U,zf O ⟨u.size,0,none⟩ 0 [.int .i64 Q,.string S,slV T,slV U]/\XC Tp 17 #[.agg #[.int .i64 Q,.string S,slV T,slV U]] O (λV W=>V=.tuple #[]/\((bif (bif (!P)then true else(z != l))then true else(A != m))=true->R (.bool false) W)/\((bif (bif (!P)then true else(z != l))then true else(A != m))=false->(p (Aa .i64 (r+1)) W/\q (Aa .i64 (r+1)) W<q r s)))))))/\(decide (r<2)=false->R (.bool d) s))))))):
  XC Tp 3 #[.string s0] h R:=
 XF ⟨[],[(6,[(7,.one (.int .i64))])],[]⟩ [.tmp 2] 51 Tryz.func3 H
theorem zcn(s0:Bt)(h:za)(R:Value->za->Prop)
  (H:let b:=h.push (.cells #[.int .i64 0,.string (⟨#[]⟩:Bt),.slice none 0 0,.slice none 0 0] 26);XC Tp 20 #[.string s0] b (λc d=>∃e f g i,c=.tuple #[.agg #[.string e,slV f],.int .i64 g,.int .i64 i]/\let j:=d.push (.cells #[.string (⟨#[]⟩:Bt),.slice none 0 0] 36);XRunU Tp (Aj 36 (.pointer (some ⟨d.size,0,none⟩)) (.agg #[.string e,slV f])) j (λk=>((i != 0)=true->XRunU Tp (Aj 26 (.pointer (some ⟨h.size,0,none⟩)) (.agg #[.int .i64 0,.string (⟨#[]⟩:Bt),.slice none 0 0,.slice none 0 0])) k (λl=>∃m n o p,zf l ⟨h.size,0,none⟩ 0 [.int .i64 m,.string n,slV o,slV p]/\R (.tuple #[.agg #[.int .i64 m,.string n,slV o,slV p],.int .i64 g,.int .i64 i]) l))/\((i != 0)=false->∃q r,zf k ⟨d.size,0,none⟩ 0 [.string q,slV r]/\XC Tp 22 #[.agg #[.string q,slV r],.int .i64 0] k (λs t=>∃u v w x,s=.agg #[.int .i64 u,.string v,slV w,slV x]/\XRunU Tp (Aj 26 (.pointer (some ⟨h.size,0,none⟩)) (.agg #[.int .i64 u,.string v,slV w,slV x])) t (λy=>∃z A B C,zf y ⟨h.size,0,none⟩ 0 [.int .i64 z,.string A,slV B,slV C]/\R (.tuple #[.agg #[.int .i64 z,.string A,slV B,slV C],.int .i64 g,.int .i64 0]) y)))))):
  XC Tp 14 #[.string s0] h R:=
 XF ⟨[],[],[]⟩ [.cell 2 26,.tmp 3,.tmp 4] 22 Tryz.func14 H
theorem zm7(s0:Bt)(h:za)(R:Value->za->Prop)
  (H:let b:=h.push (.cells #[.int .i64 0,.string (⟨#[]⟩:Bt),.slice none 0 0,.slice none 0 0] 26);XC Tp 19 #[.string s0] b (λc d=>∃e f g i,c=.tuple #[.agg #[.string e,slV f],.int .i64 g,.int .i64 i]/\let j:=d.push (.cells #[.string (⟨#[]⟩:Bt),.slice none 0 0] 36);XRunU Tp (Aj 36 (.pointer (some ⟨d.size,0,none⟩)) (.agg #[.string e,slV f])) j (λk=>((i != 0)=true->XRunU Tp (Aj 26 (.pointer (some ⟨h.size,0,none⟩)) (.agg #[.int .i64 0,.string (⟨#[]⟩:Bt),.slice none 0 0,.slice none 0 0])) k (λl=>∃m n o p,zf l ⟨h.size,0,none⟩ 0 [.int .i64 m,.string n,slV o,slV p]/\R (.tuple #[.agg #[.int .i64 m,.string n,slV o,slV p],.int .i64 g,.int .i64 i]) l))/\((i != 0)=false->∃q r,zf k ⟨d.size,0,none⟩ 0 [.string q,slV r]/\XC Tp 59 #[.agg #[.string q,slV r],.int .i64 0,.int .i64 1] k (λs t=>∃u v w x,s=.agg #[.int .i64 u,.string v,slV w,slV x]/\XRunU Tp (Aj 26 (.pointer (some ⟨h.size,0,none⟩)) (.agg #[.int .i64 u,.string v,slV w,slV x])) t (λy=>∃z A B C,zf y ⟨h.size,0,none⟩ 0 [.int .i64 z,.string A,slV B,slV C]/\R (.tuple #[.agg #[.int .i64 z,.string A,slV B,slV C],.int .i64 g,.int .i64 0]) y)))))):
  XC Tp 15 #[.string s0] h R:=
 XF ⟨[],[],[]⟩ [.cell 2 26,.tmp 3,.tmp 4] 22 Tryz.func15 H
end
end Go.X
end
section
namespace Go.X
open Go Go.X Go.Proofs Go.RowKit
section
variable {s:Bs} {M gl:Fr} {h:za} {K:Value -> za -> Prop}
theorem zm8(h:(wv s).2.2=0):(yk s).2.2=0:=by
 unfold wv at h
 split at h
 ·assumption
 ·exact h
theorem z3r{x:Bs×List Nd}{i j:Int}{v:Value}(h:zco M [.pair .str (.row tNd),.int .i64,.int .i64] ((bl x.1,x.2),i,j) v):∃sl:Sl,v=.tuple #[.agg #[.string (bl x.1),slV sl],.int .i64 i,.int .i64 j]/\Rd M (.row tNd) x.2 [slV sl]:=by
 obtain⟨vs,⟨v1,rest,rfl,hx,v2,Z,rfl,hy,v3,rfl,hz⟩,rfl⟩:=h
 rw[qs hy,qs hz]
 obtain⟨cs,rfl,c1,c2,rfl,e1,e2⟩:=hx
 have e1:c1=[.string (bl x.1)]:=e1
 subst e1
 obtain⟨sl,rfl⟩:∃sl:Sl,c2=[slV sl]:=by
  obtain⟨w,e,a,c,q,_⟩:=e2
  exact⟨⟨a,_,c⟩,by rw[e,q];rfl⟩
 exact⟨sl,rfl,e2⟩
set_option maxRecDepth 100000 in
set_option maxHeartbeats 2000000 in
theorem z0n(hg:GL gl)(hM:Fr.le gl M)(ag:AgM M h)
  (hK:∀(h':za) (bs:List Nat) (sk si:Sl),Keep h.size h h'->OT h' (Zd s).1 bs (jz (Zd s).1 sk si)->(∀b∈bs,h.size<=b)->K (.tuple #[.agg #[.int .i64 (Zd s).1.kind,.string (Zd s).1.text,slV sk,slV si],.int .i64 (Zd s).2.1,.int .i64 (Zd s).2.2]) h'):
  XC Tp 15 #[.string (bl s)] h K:=by
 apply zm7
 intro h1
 have k1:Keep h.size h h1:=Keep.push _ _ (Ac _)
 have z1:h1.size=h.size+1:=Al _
 have R1:Blk h1 h.size #[.int .i64 0,.string ⟨#[]⟩,.slice none 0 0,.slice none 0 0]:=Blk.new _ _ _
 clear_value h1
 refine(zm6 hg (s:=s) (R:=λr=>r=((bl (wv s).1.1,(wv s).1.2),(wv s).2.1,(wv s).2.2)) rfl).go hM (ag.keep k1) (yr (a:=Arg.mk .str _) (rdStr _) jq) λv h3 M' r L hv hr=>?_
 subst hr
 obtain⟨sl,rfl,rd⟩:=z3r hv
 refine⟨_,sl,_,_,rfl,?_⟩
 have k3:=L.keep
 have z3:=k3.size
 have af:Keep h.size h h3:=k1.trans (c:=h3) (m:=h.size) ⟨z3,λj hj=>k3.get j (by omega)⟩ (Ac _)
 have R3:=R1.keep (k3.get h.size (by omega))
 intro h8
 have k8:Keep h3.size h3 h8:=Keep.push _ _ (Ac _)
 have z8:h8.size=h3.size+1:=Al _
 have D8:Blk h8 h3.size #[.string ⟨#[]⟩,.slice none 0 0]:=Blk.new _ _ _
 clear_value h8
 refine Zr (u:=bl (wv s).1.1) (v:=sl) D8 λh9 f9 z9 D9=>?_
 have k9:Keep h3.size h3 h9:=⟨by omega,λj hj=>(f9 j (by omega)).trans (k8.get j hj)⟩
 have aa:Keep h.size h h9:=af.trans (c:=h9) (m:=h.size) ⟨k9.size,λj hj=>k9.get j (by omega)⟩ (Ac _)
 have R9:=R3.keep (k9.get h.size (by omega))
 refine⟨λhx=>?_,λhx=>?_⟩
 ·have hx:¬(wv s).2.2=0:=by simpa using hx
  have eR:Zd s=(.mk 0 (bl []) [] [],(wv s).2.1,(wv s).2.2):=by unfold Zd;rw[if_neg hx]
  rw[eR]at hK
  refine Zf (k:=0) (s:=⟨#[]⟩) (sk:=⟨none,0,0⟩) (si:=⟨none,0,0⟩) R9 λg f z B=>⟨_,_,_,_,B.ld (cs:=[.int .i64 0,.string ⟨#[]⟩,slV ⟨none,0,0⟩,slV ⟨none,0,0⟩]),?_⟩
  obtain⟨bs,ot,ab⟩:=(Own.new (lo:=h.size) (hi:=g.size) (b0:=h.size) (k:=0) (s:=bl []) B (Ac _) (Ac _)).ot
  exact hK g bs ⟨none,0,0⟩ ⟨none,0,0⟩ (aa.trans (c:=g) (m:=h.size) ⟨by omega,λj hj=>f j (by omega)⟩ (Ac _)) ot (λb hb=>(ab b hb).1)
 ·have hx:(wv s).2.2=0:=by simpa using hx
  obtain⟨lvs,G,e1,e2,e3,e4⟩:=zgf hx
  obtain⟨hs,ah⟩:=zkm (zm8 hx)
  have eR:Zd s=(xm s (wv s).1.2 33 0,(s.length:Int),0):=by unfold Zd;rw[if_pos hx]
  rw[eR]at hK
  rw[e1]at D9
  rw[e2]
  refine⟨_,sl,D9.ld (cs:=[.string (bl s),slV sl]),?_⟩
  have ae:AgM M' h9:=L.ag.keep k9
  refine zw8 hg hs G (λx hx=>by have:=e4 x hx;unfold ndW at this;omega) 33 0 1 1 rfl (by omega) (by omega) (by omega) h9 M' sl (hM.trans L.le) ae rd _ λai bs sk si Z ot hb=>⟨_,_,sk,si,rfl,?_⟩
  have aj:=Z.size
  refine Zf (R9.keep (Z.get h.size (by omega))) λg f z B=>⟨_,_,sk,si,B.ld (cs:=[_,_,slV sk,slV si]),?_⟩
  exact hK g bs sk si (aa.trans (c:=g) (m:=h.size) ⟨by omega,λj hj=>by rw[f j (by omega)];exact Z.get j (by omega)⟩ (Ac _)) (ot.frame λc hc=>f c (by have:=hb c hc;omega)) (λc hc=>by have:=hb c hc;omega)
set_option maxRecDepth 100000 in
set_option maxHeartbeats 2000000 in
theorem z3s(hg:GL gl)(hM:Fr.le gl M)(ag:AgM M h)
  (hK:∀(h':za) (bs:List Nat) (sk si:Sl),Keep h.size h h'->OT h' (Zd s).1 bs (jz (Zd s).1 sk si)->(∀b∈bs,h.size<=b)->K (.tuple #[.agg #[.int .i64 (Zd s).1.kind,.string (Zd s).1.text,slV sk,slV si],.int .i64 (Zd s).2.1,.int .i64 (Zd s).2.2]) h'):
  XC Tp 14 #[.string (bl s)] h K:=by
 apply zcn
 intro h1
 have k1:Keep h.size h h1:=Keep.push _ _ (Ac _)
 have z1:h1.size=h.size+1:=Al _
 have R1:Blk h1 h.size #[.int .i64 0,.string ⟨#[]⟩,.slice none 0 0,.slice none 0 0]:=Blk.new _ _ _
 clear_value h1
 refine(zpi hg (s:=s) (R:=λr=>r=((bl (wv s).1.1,(wv s).1.2),(wv s).2.1,(wv s).2.2)) rfl).go hM (ag.keep k1) (yr (a:=Arg.mk .str _) (rdStr _) jq) λv h3 M' r L hv hr=>?_
 subst hr
 obtain⟨sl,rfl,rd⟩:=z3r hv
 refine⟨_,sl,_,_,rfl,?_⟩
 have k3:=L.keep
 have z3:=k3.size
 have af:Keep h.size h h3:=k1.trans (c:=h3) (m:=h.size) ⟨z3,λj hj=>k3.get j (by omega)⟩ (Ac _)
 have R3:=R1.keep (k3.get h.size (by omega))
 intro h8
 have k8:Keep h3.size h3 h8:=Keep.push _ _ (Ac _)
 have z8:h8.size=h3.size+1:=Al _
 have D8:Blk h8 h3.size #[.string ⟨#[]⟩,.slice none 0 0]:=Blk.new _ _ _
 clear_value h8
 refine Zr (u:=bl (wv s).1.1) (v:=sl) D8 λh9 f9 z9 D9=>?_
 have k9:Keep h3.size h3 h9:=⟨by omega,λj hj=>(f9 j (by omega)).trans (k8.get j hj)⟩
 have aa:Keep h.size h h9:=af.trans (c:=h9) (m:=h.size) ⟨k9.size,λj hj=>k9.get j (by omega)⟩ (Ac _)
 have R9:=R3.keep (k9.get h.size (by omega))
 refine⟨λhx=>?_,λhx=>?_⟩
 ·have hx:¬(wv s).2.2=0:=by simpa using hx
  have eR:Zd s=(.mk 0 (bl []) [] [],(wv s).2.1,(wv s).2.2):=by unfold Zd;rw[if_neg hx]
  rw[eR]at hK
  refine Zf (k:=0) (s:=⟨#[]⟩) (sk:=⟨none,0,0⟩) (si:=⟨none,0,0⟩) R9 λg f z B=>⟨_,_,_,_,B.ld (cs:=[.int .i64 0,.string ⟨#[]⟩,slV ⟨none,0,0⟩,slV ⟨none,0,0⟩]),?_⟩
  obtain⟨bs,ot,ab⟩:=(Own.new (lo:=h.size) (hi:=g.size) (b0:=h.size) (k:=0) (s:=bl []) B (Ac _) (Ac _)).ot
  exact hK g bs ⟨none,0,0⟩ ⟨none,0,0⟩ (aa.trans (c:=g) (m:=h.size) ⟨by omega,λj hj=>f j (by omega)⟩ (Ac _)) ot (λb hb=>(ab b hb).1)
 ·have hx:(wv s).2.2=0:=by simpa using hx
  obtain⟨lvs,G,e1,e2,e3,e4⟩:=zgf hx
  obtain⟨hs,ah⟩:=zkm (zm8 hx)
  have eR:Zd s=(xm s (wv s).1.2 33 0,(s.length:Int),0):=by unfold Zd;rw[if_pos hx]
  rw[eR]at hK
  rw[e1]at D9
  rw[e2]
  refine⟨_,sl,D9.ld (cs:=[.string (bl s),slV sl]),?_⟩
  have ae:AgM M' h9:=L.ag.keep k9
  refine zw9 hg hs G (λx hx=>by have:=e4 x hx;unfold ndW at this;omega) 33 0 1 rfl (by omega) h9 M' sl (hM.trans L.le) ae rd _ λai bs sk si Z ot hb=>⟨_,_,sk,si,rfl,?_⟩
  have aj:=Z.size
  refine Zf (R9.keep (Z.get h.size (by omega))) λg f z B=>⟨_,_,sk,si,B.ld (cs:=[_,_,slV sk,slV si]),?_⟩
  exact hK g bs sk si (aa.trans (c:=g) (m:=h.size) ⟨by omega,λj hj=>by rw[f j (by omega)];exact Z.get j (by omega)⟩ (Ac _)) (ot.frame λc hc=>f c (by have:=hb c hc;omega)) (λc hc=>by have:=hb c hc;omega)
end
section
theorem qag{M:Fr}{t:Bs}{nodes:List Nd}{u:Value}(h:RdV M zng (bl t,nodes) u):∃sl:Sl,u=.agg #[.string (bl t),slV sl]/\Rd M (.row tNd) nodes [slV sl]:=by
 obtain⟨cs,rfl,c1,c2,rfl,e1,e2⟩:=h
 have e1:c1=[.string (bl t)]:=e1
 subst e1
 obtain⟨sl,rfl⟩:∃sl:Sl,c2=[slV sl]:=by
  obtain⟨w,e,a,c,q,_⟩:=e2
  exact⟨⟨a,_,c⟩,by rw[e,q];rfl⟩
 exact⟨sl,rfl,e2⟩
section
variable {t : Bs} {nodes : List Nd} {lvs : List Nat} {gl : Fr}
theorem zxh(hg:GL gl)(ht:t.length<=65536)(G:GoodN lvs nodes)(Z:∀x∈nodes,x.2.2.2.1.length<=200000){k l:Nat}{L:Int}(hl:lvs[k]?=some l)(h1:1<=L)(h2:L<=(l:Int)){R:Tr->Prop}(hR:R (xm t nodes 33 k)):PC Tp gl 59 [Arg.mk zng (bl t,nodes),Arg.mk (.int .i64) (k:Int),Arg.mk (.int .i64) L] [.tree] R:=by
 intro h M vs hM ag ha
 match vs,ha with
 |[u1,u2,u3],⟨a1,a2,a3,_⟩=>
  obtain⟨sl,rfl,rd⟩:=qag a1
  obtain rfl:=qs (i:=(k:Int)) a2
  obtain rfl:=qs (i:=L) a3
  apply PX.of
  exact zw8 hg ht G Z 33 k l L hl (by omega) h1 h2 h M sl hM ag rd _ λh' bs sk si k' ot hb=>⟨MxL M h' bs,_,MxL.later ag k' hb,zsn.2 ot.rdv,hR⟩
def z3t(t:Bs)(nodes:List Nd)(k:Int):Tr×Bool:=if 0<=k/\k<(nodes.length:Int)then(xm t nodes 33 k.toNat,true)else(.mk 0 (bl []) [] [],false)
theorem z3u(hg:GL gl)(ht:t.length<=65536)(G:GoodN lvs nodes)(Z:∀x∈nodes,x.2.2.2.1.length<=200000){k:Int}{R:Tr×Bool->Prop}(hR:R (z3t t nodes k)):PC Tp gl 21 [Arg.mk zng (bl t,nodes),Arg.mk (.int .i64) k] [.tree,.bool] R:=by
 apply zmm
 unfold z3t at hR
 have e:(bif (decide ((k:Int)<0))then true else(decide ((k:Int)>=((Cy nodes:Nat):Int))))=decide (¬(0<=k/\k<(nodes.length:Int))):=by
  rw[AB]
  simp only[Bool.cond_eq_ite,Bool.if_true_left,A4,decide_eq_true_eq]
  omega
 dsimp only
 rw[e]
 refine⟨λhx=>?_,λhx=>?_⟩
 ·rw[if_neg (of_decide_eq_true hx)]at hR;exact hR
 ·have hx:0<=k/\k<(nodes.length:Int):=Decidable.not_not.1 (of_decide_eq_false hx)
  rw[if_pos hx]at hR
  obtain⟨j,rfl⟩:∃j:Nat,k=(j:Int):=⟨k.toNat,by omega⟩
  rw[Af]at hR
  have hj:j<lvs.length:=by rw[G.len];omega
  have aa:=G.lv j _ (Ak hj)
  refine zxh hg ht G Z (Ak hj) (by omega) (by omega) ?_
  have et:Tr.mk (xm t nodes 33 j).kind (xm t nodes 33 j).text (xm t nodes 33 j).keys (xm t nodes 33 j).items=xm t nodes 33 j:=by cases xm t nodes 33 j;rfl
  rw[et];exact hR
theorem z3v(hg:GL gl){s:Bs}{R:Tr×Int×Int->Prop}(hR:R (Zd s)):PC Tp gl 15 [Arg.mk .str (bl s)] [.tree,.int .i64,.int .i64] R:=by
 intro h M vs hM ag ha
 match vs,ha with
 |[u1],⟨a1,_⟩=>
  obtain rfl:=xp (s:=bl s) a1
  apply PX.of
  exact z0n hg hM ag λh' bs sk si k' ot hb=>⟨MxL M h' bs,_,MxL.later ag k' hb,⟨[_,_,_],⟨_,_,rfl,ot.rdv,_,_,rfl,Wm _ _,_,rfl,Wm _ _⟩,rfl⟩,hR⟩
end
end
end Go.X
end
section
namespace Go.X
open Go Go.Lib
section
theorem zrg(x:Bt):∀(l:List Bt) (i:Nat),(idxFromS l x i=-1/\x∉l)\/∃k:Nat,idxFromS l x i=((i+k:Nat):Int)/\k<l.length/\l[k]?=some x
 |[],i=>.inl ⟨rfl,by simp⟩
 |z::l,i=>by
  unfold idxFromS
  by_cases h:z=x
  ·rw[if_pos h];exact .inr ⟨0,rfl,by simp,by simp[h]⟩
  ·rw[if_neg h]
   rcases zrg x l (i+1)with⟨h1,h2⟩|⟨k,h1,h2,h3⟩
   ·exact .inl ⟨h1,by simp[h2];exact λe=>h e.symm⟩
   ·exact .inr ⟨k+1,by rw[h1];congr 1;omega,by simp;omega,by simpa using h3⟩
def zm9(v:Tr)(s:Bt):Int:=if v.kind=6 then idxOfS v.keys s else if v.kind=5 then(if(zmq (lb s)).2=true/\(zmq (lb s)).1<v.items.length then(zmq (lb s)).1 else -1)else -1
end
section
variable {t:Bs} {k:Nat}
def z3w(t:Bs)(nodes:List Nd)(k:Nat)(s:Bt):Int:=match nodes[k]? with
 |none=>-1
 |some x=>if 0<=zm9 (xm t nodes 33 k) s then x.2.2.2.1.getD (zm9 (xm t nodes 33 k) s).toNat (-1)else -1
def atP(t:Bs)(nodes:List Nd):Nat->List Bt->Option Nat
 |k,[]=>some k
 |k,s::p=>if 0<=z3w t nodes k s then atP t nodes (z3w t nodes k s).toNat p else none
def atR(t:Bs)(nodes:List Nd)(p:List Bt):Int×Bool:=if nodes.length=0\/zmj p=false then(0,false)else match atP t nodes 0 p with
 |some k=>((k:Int),true)
 |none=>(0,false)
theorem zin{nodes:List Nd}{k f:Nat}{x:Nd}(h:nodes[k]?=some x):xm t nodes (f+1) k=.mk x.1 (bl (Jz x.1 (zw t x.2.1))) (if x.1=6 then x.2.2.2.1.map λc=>bl (zgg t nodes c)else []) (x.2.2.2.1.map λc=>xm t nodes f c.toNat):=by
 rw[xm,h]
theorem z7h{nodes:List Nd}{x:Nd}(h:nodes[k]?=some x)(s:Bt):zm9 (xm t nodes 33 k) s=-1\/∃j:Nat,zm9 (xm t nodes 33 k) s=(j:Int)/\j<x.2.2.2.1.length:=by
 rw[zin h]
 unfold zm9
 by_cases h6:x.1=6
 ·simp only[Tr.kind,Tr.keys,h6,if_true]
  rcases zrg s (x.2.2.2.1.map λc=>bl (zgg t nodes c)) 0 with⟨h1,_⟩|⟨j,h1,h2,_⟩
  ·exact .inl h1
  ·exact .inr ⟨j,by unfold idxOfS;rw[h1];simp,by simpa using h2⟩
 ·simp only[Tr.kind,if_neg h6]
  by_cases h5:x.1=5
  ·rw[if_pos h5]
   split
   ·rename_i hc
    have:=zii hc.1
    simp only[Tr.items,AM]at hc
    exact .inr ⟨(zmq (lb s)).1.toNat,by omega,by omega⟩
   ·exact .inl rfl
  ·rw[if_neg h5];exact .inl rfl
theorem z3x{nodes:List Nd}{lvs:List Nat}(G:GoodN lvs nodes){k l:Nat}(hl:lvs[k]?=some l)(s:Bt):z3w t nodes k s=-1\/∃j:Nat,z3w t nodes k s=(j:Int)/\j<nodes.length/\lvs[j]?=some (l+1):=by
 unfold z3w
 cases hx:nodes[k]? with
 |none=>exact .inl rfl
 |some x=>
  dsimp only
  rcases z7h (t:=t) hx s with e|⟨j,e,hj⟩
  ·rw[e];exact .inl rfl
  ·rw[e,if_pos (by omega),Af]
   have hd:x.2.2.2.1.getD j (-1)=x.2.2.2.1[j]:=by simp[List.getD,hj]
   rw[hd]
   obtain⟨i,e1,_,e2⟩:=G.kid k l x hx hl _ (AP hj)
   have:=(Aw.1 e2).1
   rw[G.len]at this
   exact .inr ⟨i,e1,this,e2⟩
end
end Go.X
end
section
namespace Go.X
open Go Go.X Go.Proofs Go.RowKit
section
variable {k:Nat}
theorem zrh{gl:Fr}{t:Bs}{nodes:List Nd}{k:Int}{R:Bool->Prop}(hR:R (decide (0<=k/\k<(nodes.length:Int)))):PC Tp gl 72 [Arg.mk zng (bl t,nodes),Arg.mk (.int .i64) k] [.bool] R:=by
 apply zka
 have e:(bif (decide ((k:Int)>=0))then(decide ((k:Int)<((Cy nodes:Nat):Int)))else false)=decide (0<=k/\k<(nodes.length:Int)):=by
  rw[AB]
  simp only[Bool.cond_eq_ite,decide_eq_true_eq]
  split <;> simp <;> omega
 dsimp only
 rw[e];exact hR
theorem zzr{l:List Int}(h:k<l.length):l[((k:Int)).toNat]?=some l[k]:=by rw[Af,Ak h]
section
variable {t : Bs} {nodes : List Nd} {lvs : List Nat} {gl : Fr}
theorem z7i(hg:GL gl)(ht:t.length<=65536)(G:GoodN lvs nodes)(ap:∀x∈nodes,x.2.2.2.1.length<=200000){k l:Nat}(hl:lvs[k]?=some l){s:Bt}(hs:(lb s).length<=1048576){R:Int->Prop}(hR:R (z3w t nodes k s)):PC Tp gl 71 [Arg.mk zng (bl t,nodes),Arg.mk (.int .i64) (k:Int),Arg.mk .str s] [.int .i64] R:=by
 have af:k<nodes.length:=by have:=(Aw.1 hl).1;rw[G.len]at this;exact this
 have hx:nodes[k]?=some nodes[k]:=Ak af
 have aj:=ap _ (AP af)
 apply zox
 unfold z3w at hR
 rw[hx]at hR
 dsimp only at hR
 have aa:=z7h (t:=t) hx s
 rw[zin hx]at hR aa
 generalize nodes[k]=x at hx aj hR aa
 refine⟨x,⟨by omega,by rw[Af];exact hx⟩,x,⟨by omega,by rw[Af];exact hx⟩,λh5=>?_,λh5=>⟨λh6=>?_,λh6=>?_⟩⟩
 ·have h5:x.1=5:=by simpa using h5
  have h6:¬x.1=6:=by omega
  have hi:=zwm hg (l:=lb s) hs (R:=λr=>r=zmq (lb s)) rfl
  rw[zof]at hi
  refine hi.mono λr hr=>?_
  subst hr
  unfold zm9 at hR
  simp only[Tr.kind,Tr.keys,Tr.items,h5,if_true,AM]at hR
  rw[if_neg (show¬((5:Int)=6)by decide)]at hR
  refine⟨λhc=>?_,λhc=>?_⟩
  ·have Z:(zmq (lb s)).2=true/\(zmq (lb s)).1<(x.2.2.2.1.length:Int):=by
    simp only[Bool.cond_eq_ite]at hc
    split at hc
    ·rename_i h1;exact⟨h1,of_decide_eq_true hc⟩
    ·cases hc
   have hr:=zii Z.1
   obtain⟨j,hj⟩:∃j:Nat,(zmq (lb s)).1=(j:Int):=⟨(zmq (lb s)).1.toNat,by omega⟩
   rw[if_pos Z,if_pos hr.1]at hR
   rw[hj]at hR Z ⊢
   have ak:j<x.2.2.2.1.length:=by omega
   refine⟨x.2.2.2.1[j],⟨by omega,zzr ak⟩,?_⟩
   rw[Af]at hR
   have hd:x.2.2.2.1.getD j (-1)=x.2.2.2.1[j]:=by simp[List.getD,ak]
   rw[hd]at hR;exact hR
  ·have Z:¬((zmq (lb s)).2=true/\(zmq (lb s)).1<(x.2.2.2.1.length:Int)):=λh1=>by
    rw[h1.1,cond_true,decide_eq_true h1.2]at hc;cases hc
   rw[if_neg Z,if_neg (by decide)]at hR;exact hR
 ·have h6:x.1=6:=by simpa using h6
  unfold zm9 at hR aa
  simp only[Tr.kind,Tr.keys,Tr.items,h6,if_true]at hR aa
  generalize ai:(x.2.2.2.1.map λc=>bl (zgg t nodes c))=ks at hR aa
  have ar:ks.length=x.2.2.2.1.length:=by rw[<-ai,AM]
  refine⟨λi=>∃n:Nat,i=(n:Int)/\n<=x.2.2.2.1.length/\∀j,j<n->ks.getD j ByteArray.empty≠s,λi=>x.2.2.2.1.length-i.toNat,⟨0,rfl,by omega,λj hj=>by omega⟩,?_⟩
  rintro i ⟨n,rfl,hn,ab⟩
  refine⟨λhc=>?_,λhc=>?_⟩
  ·have Z:n<x.2.2.2.1.length:=by have:=of_decide_eq_true hc;omega
   refine⟨x.2.2.2.1[n],⟨by omega,zzr Z⟩,?_⟩
   obtain⟨j,e1,_,e2⟩:=G.kid k l x hx hl _ (AP Z)
   have hj:=(Aw.1 e2).1
   rw[G.len]at hj
   refine zrh ⟨x.2.2.2.1[n],λ_=>⟨by omega,zzr Z⟩,?_⟩
   have an:decide (0<=x.2.2.2.1[n]/\x.2.2.2.1[n]<(nodes.length:Int))=true:=decide_eq_true ⟨by omega,by omega⟩
   rw[an]
   have ah:nodes[j]?=some nodes[j]:=Ak hj
   refine⟨λr=>r=bl (zs2 t nodes[j]),λ_=>?_,λr hr=>?_⟩
   ·rw[e1];exact zwx hg ht ah rfl
   ·have hr:=hr rfl
    subst hr
    have ae:ks.getD n ByteArray.empty=bl (zs2 t nodes[j]):=by
     rw[<-ai]
     simp only[List.getD,Cc,Ak Z,DZ,Option.getD_some]
     rw[e1];unfold zgg;rw[Af,ah]
    refine⟨λhq=>?_,λhq=>?_⟩
    ·rw[cond_true]at hq
     have hq:bl (zs2 t nodes[j])=s:=by rw[Yl,Yl]at hq;exact zl2.1 (eq_of_beq hq)
     have:=Lib.idxOfS_hit ks ks.length n s (by omega) (Ac _) (by rw[ae,hq]) ab
     rw[BD]at this
     rw[this,if_pos (by omega),Af]at hR
     have hd:x.2.2.2.1.getD n (-1)=x.2.2.2.1[n]:=by simp[List.getD,Z]
     rw[hd]at hR
     exact⟨x.2.2.2.1[n],⟨by omega,zzr Z⟩,hR⟩
    ·rw[cond_true]at hq
     have hq:bl (zs2 t nodes[j])≠s:=by intro e;rw[e]at hq;simp at hq
     have hw:=Qg Z (by omega)
     rw[hw]
     refine⟨⟨n+1,rfl,by omega,λi hi=>?_⟩,by simp only[Af];omega⟩
     by_cases am:i=n
     ·subst am;rw[ae];exact hq
     ·exact ab i (by omega)
  ·have Z:n=ks.length:=by have:=of_decide_eq_false hc;omega
   subst Z
   have:=Lib.idxOfS_miss ks ks.length s ab
   rw[BD]at this
   rw[this,if_neg (by decide)]at hR
   exact hR
 ·have h5:¬x.1=5:=by simpa using h5
  have h6:¬x.1=6:=by simpa using h6
  unfold zm9 at hR
  simp only[Tr.kind,if_neg h5,if_neg h6]at hR
  rw[if_neg (by decide)]at hR;exact hR
theorem qah(hg:GL gl)(ht:t.length<=65536)(G:GoodN lvs nodes)(h0:nodes.length≠0->lvs[0]?=some 1)(af:∀x∈nodes,x.2.2.2.1.length<=200000){p:List Bt}(hp:SL p){R:Int×Bool->Prop}(hR:R (atR t nodes p)):PC Tp gl 23 [Arg.mk zng (bl t,nodes),Arg.mk (.row .str) p] [.int .i64,.bool] R:=by
 have ai:=hp.n
 apply zs7
 unfold atR at hR
 dsimp only
 refine⟨λr=>r=zmj p,λ_=>zzb hg hp rfl,λr hr=>⟨λhc=>?_,λhc=>?_⟩⟩
 ·rw[if_pos ?_]at hR
  ·exact hR
  ·cases hn:(((Cy nodes:Nat):Int)==0)with
   |true=>exact .inl (by have:=eq_of_beq hn;omega)
   |false=>
    rw[hn]at hr hc
    have:=hr rfl
    subst this
    rw[cond_false]at hc
    exact .inr (by simpa using hc)
 ·have hn:(((Cy nodes:Nat):Int)==0)=false:=by
   cases hn:(((Cy nodes:Nat):Int)==0)with
   |true=>rw[hn]at hc;cases hc
   |false=>rfl
  rw[hn]at hr hc
  have:=hr rfl
  subst this
  rw[cond_false]at hc
  have hn:nodes.length≠0:=λe=>by rw[e]at hn;exact absurd hn (by decide)
  rw[if_neg (by rintro(h|h);exact hn h;rw[h]at hc;cases hc)]at hR
  refine⟨λkk i=>∃n c l:Nat,i=(n:Int)/\kk=(c:Int)/\n<=p.length/\lvs[c]?=some l/\atP t nodes 0 p=atP t nodes c (p.drop n),λkk i=>p.length-i.toNat,⟨0,0,1,rfl,rfl,by omega,h0 hn,rfl⟩,?_⟩
  rintro kk i ⟨n,c,l,rfl,rfl,ah,hl,Z⟩
  refine⟨λhc=>?_,λhc=>?_⟩
  ·have aa:n<p.length:=by have:=of_decide_eq_true hc;omega
   have ab:p.drop n=p[n]::p.drop (n+1):=Ay aa
   refine⟨p[n],⟨by omega,z2g aa⟩,?_⟩
   refine z7i hg ht G af hl (by have:=hp.s _ (AP aa);omega) (zrh ?_)
   rw[ab,atP]at Z
   rcases z3x (t:=t) G hl p[n]with e|⟨j,e,hj,ae⟩
   ·rw[e]at Z ⊢
    rw[if_neg (by decide)]at Z
    rw[Z]at hR
    exact⟨λ_=>hR,λhx=>by simp at hx⟩
   ·rw[e]at Z ⊢
    rw[if_pos (by omega),Af]at Z
    have hw:=Qg aa (by omega)
    rw[hw]
    have hd:decide (0<=(j:Int)/\(j:Int)<(nodes.length:Int))=true:=decide_eq_true ⟨by omega,by omega⟩
    rw[hd]
    exact⟨λhx=>(by cases hx),λ_=>⟨⟨n+1,j,l+1,rfl,rfl,by omega,ae,Z⟩,by simp only[Af];omega⟩⟩
  ·have aa:n=p.length:=by have:=of_decide_eq_false hc;omega
   subst aa
   rw[DC,atP]at Z
   rw[Z]at hR
   exact hR
end
end
end Go.X
end
section
namespace Go.X
open Go Go.Lib
section
def zT:Tr:=.mk 0 ⟨#[]⟩ [] []
end
end Go.X
end
section
namespace Go.X.U
section
variable {o:Oper} {ρ:Operand -> Value} {h h':za} {a b:Act} {P:Program} {ops:Array Oper} {listed:Array Bool} {i n:Nat}
def Xs(o:Oper):Option Bool:=match o.op with
 |.fieldAddr _ _ _=>some true
 |.indexAddr _ _ _=>some true
 |.move _=>some true
 |.assign _=>some true
 |.load _ _=>some false
 |.binOp _ _ _ _ _=>some true
 |.call c=>match c.callee with
  |.builtin .len=>some true
  |_=>none
 |_=>none
def ze(o:Oper):Bool:=match Xs o with
 |some _=>true
 |none=>false
def zj(o:Oper):Bool:=match Xs o with
 |some b=>!b
 |none=>false
def zl:Nat->List Oper->List Nat
 |_,[]=>[]
 |k,o::l=>bif ze o then zl (k+1) l else k::zl (k+1) l
def Q7(ops:Array Oper):List Nat->Bool
 |[]=>true
 |[_]=>true
 |i::j::l=>bif Region.waitsFor .any ops j i then Q7 ops (j::l)else false
def jg(ops:Array Oper)(i:Nat):List Nat->Bool
 |[]=>false
 |j::l=>bif Region.waitsFor .any ops j i then true else jg ops i l
def ze9(ops:Array Oper)(T:List Nat):Nat->Bool
 |0=>false
 |k+1=>bif (match ops[k]? with
  |some o=>bif zj o then !(jg ops k T)else false
  |none=>false)then true else ze9 ops T k
def j6(l:List Oper):Bool:=l.all λo=>match o.guard with
 |none=>jc o.op
 |some _=>false
def Q8(ops:Array Oper):Nat->Bool
 |0=>true
 |k+1=>bif (match ops[k]? with
  |some o=>bif yw ops k (tmpsOf o.op.operands.toList) ops.size then(bif ze o then(zl 0 ops.toList).all λj=>!(Region.waitsFor .any ops k j)||(match yh ops j with
   |some t=>!(memN (tmpsOf o.op.operands.toList) t)
   |none=>true)else true)else false
  |none=>true)then Q8 ops k else false
def zro(ops:Array Oper):Bool:=bif j6 ops.toList then(bif qd ops ops.size then(bif jl ops ops.size then(bif Q7 ops (zl 0 ops.toList)then Q8 ops ops.size else false)else false)else false)else false
def zth(o:Oper)(ρ:Operand->Value)(h h':za):Prop:=match o.op with
 |.load _ x=>∀c,ρ x=.pointer (some c)->h'[c.block]?=h[c.block]?
 |_=>True
theorem zxi(o:Oper)(ρ:Operand->Value)(h:za):zth o ρ h h:=by
 unfold zth;split
 ·exact λ_ _=>rfl
 ·trivial
theorem zdo{ρ ρ':Operand->Value}(e:∀x∈o.op.operands.toList,ρ x=ρ' x)(H:zth o ρ h h'):zth o ρ' h h':=by
 unfold zth at H ⊢
 split
 ·rename_i t x ho
  rw[ho]at H e
  exact λc hc=>H c (by rw[e x (by simp[Op.operands]),hc])
 ·trivial
def qS(P:Program)(o:Oper)(ρ:Operand->Value)(h:za)(K:Value->Prop):Prop:=match o.op with
 |.call _=>zcq P (execOp ρ o) K
 |_=>w7 P o ρ none h K
def zna(ops:Array Oper)(T:List Nat)(e:Env)(h0 h':za):Nat->Prop
 |0=>True
 |k+1=>match ops[k]? with
  |some o=>bif zj o then(bif jg ops k T then zna ops T e h0 h' k else(match o.op with
   |.load _ x=>(match Yu e [] x with
    |some (.pointer (some c))=>h'[c.block]?=h0[c.block]?/\zna ops T e h0 h' k
    |_=>False)
   |_=>False))else zna ops T e h0 h' k
  |none=>zna ops T e h0 h' k
theorem zio{ops:Array Oper}{T:List Nat}{e:Env}{h0 h':za}:∀{m:Nat},zna ops T e h0 h' m->∀k ok,k<m->ops[k]?=some ok->zj ok=true->jg ops k T=false->∃t x c,ok.op=.load t x/\Yu e [] x=some (.pointer (some c))/\h'[c.block]?=h0[c.block]?
 |0,_,k,_,hk,_,_,_=>by omega
 |m+1,H,k,ok,hk,ho,hl,ha=>by
  unfold zna at H
  rcases AF k m with h1|h1
  ·have H':zna ops T e h0 h' m:=by
    split at H
    ·rename_i o _
     cases hlo:zj o with
     |false=>rw[hlo]at H;exact H
     |true=>
      rw[hlo]at H
      simp only[cond_true]at H
      cases haw:jg ops m T with
      |true=>rw[haw]at H;exact H
      |false=>
       rw[haw]at H
       simp only[cond_false]at H
       split at H
       ·split at H
        ·exact H.2
        ·exact H.elim
       ·exact H.elim
    ·exact H
   exact zio H' k ok h1 ho hl ha
  ·have:k=m:=by omega
   subst this
   rw[ho]at H
   simp only[hl,ha,cond_true,cond_false]at H
   split at H
   ·rename_i t x Z
    split at H
    ·rename_i c hc
     exact⟨t,x,c,Z,hc,H.1⟩
    ·exact H.elim
   ·exact H.elim
def wU(P:Program)(n:Nat)(h:za)(K:Env->Prop):List Oper->Env->Prop
 |[],e=>K e
 |o::l,e=>bif ze o then(bif qk n [] o.dst then(bif jc o.op then(bif known e [] o.op.operands.toList then qS P o (rho e []) h λv=>wU P n h K l (putO e o.dst [] v)else False)else False)else False)else wU P n h K l e
def wT(P:Program)(n:Nat)(ops:Array Oper)(h0:za)(K:Env->za->Prop):List Nat->List Nat->Env->za->Prop
 |_,[],e,h=>K (clean e) h
 |T,j::l,e,h=>match ops[j]? with
  |some o=>bif qk n [] o.dst then opW P o e [] h λv h'=>(bif ze9 ops (j::T) ops.size then zna ops (j::T) (putO e o.dst [] v) h0 h' ops.size/\wT P n ops h0 K (j::T) l (putO e o.dst [] v) h' else wT P n ops h0 K (j::T) l (putO e o.dst [] v) h')else False
  |none=>False
def qg:Nat->List Oper->(Nat->Value)->Act->Act
 |_,[],_,a=>a
 |k,o::l,f,a=>qg (k+1) l f (bif ze o then a.put o.dst (f k)else a)
theorem yi{a b:Act}:∀{l:List Operand},(∀t∈tmpsOf l,zm a t=zm b t)->∀x∈l,a.eval x=b.eval x
 |[],_,x,hx=>by cases hx
 |y::l,h,x,hx=>by
  rcases Ai.1 hx with rfl|hx
  ·cases x with
   |tmp t=>exact h t (by simp[tmpsOf])
   |const v=>rfl
   |global g=>rfl
   |func f=>rfl
  ·refine yi (l:=l) (λt ht=>h t ?_) x hx
   cases y <;> simp[tmpsOf,ht]
theorem yj(hs:jc o.op=true)(h:∀t∈tmpsOf o.op.operands.toList,zm a t=zm b t):execOp a.eval o=execOp b.eval o:=
 execOp_congr o (λcs b hb=>by rw[hb]at hs;cases hs) λx hx=>yi h x (by simpa using hx)
theorem znb{q:Addr}(e:h'[q.block]?=h[q.block]?):zc h' q=zc h q:=by unfold zc;rw[e]
theorem z3y(q:Addr)(i:Nat):(q.add i).block=q.block:=by unfold Ae;split <;> rfl
theorem ziq{h h':za}{q:Addr}(e:h'[q.block]?=h[q.block]?):∀{vs:List Value} {i:Nat},zf h q i vs->zf h' q i vs
 |[],_,_=>trivial
 |_::_,i,⟨h1,h2⟩=>⟨(znb (q:=q.add i) (by rw[z3y];exact e)).trans h1,ziq e h2⟩
theorem W4(hq:ze o=true){K:Value->Prop}(H:qS P o ρ h K):
  ∃v,K v/\∀h',(zj o=false\/zth o ρ h h')->QExec P (execOp ρ o) h' (.value v):=by
 unfold qS at H
 cases ho:o.op with
 |load t x=>
  rw[ho]at H
  simp only at H
  unfold w7 at H
  rw[ho]at H
  simp only at H
  unfold ziu at H
  split at H
  ·rename_i q b hp hv
   obtain⟨y,h1,h2⟩:=H
   refine⟨_,h2,λh' hk=>?_⟩
   have hb:h'[q.block]?=h[q.block]?:=by
    rcases hk with hk|hk
    ·unfold zj Xs at hk;rw[ho]at hk;cases hk
    ·unfold zth at hk;rw[ho]at hk;exact hk q hp
   simp only[execOp,ho,hp]
   exact(zbd hv (by rw[znb hb];exact h1.out trivial)).val
  ·rename_i q l hp hv
   obtain⟨vs,h0,⟨h1,h2⟩,_⟩:=Zs H (je l)
   refine⟨_,h2,λh' hk=>?_⟩
   have hb:h'[q.block]?=h[q.block]?:=by
    rcases hk with hk|hk
    ·unfold zj Xs at hk;rw[ho]at hk;cases hk
    ·unfold zth at hk;rw[ho]at hk;exact hk q hp
   simp only[execOp,ho,hp]
   exact(zbe hv h0 (ziq hb (h1.out trivial))).val
  ·exact H.elim
 |fieldAddr t x i=>
  rw[ho]at H
  simp only at H
  unfold w7 at H;rw[ho]at H
  obtain⟨v,h1,h2⟩:=zn H none
  exact⟨v,h1,λh' _=>h2 trivial h'⟩
 |indexAddr t x i=>
  rw[ho]at H
  simp only at H
  unfold w7 at H;rw[ho]at H
  simp only at H
  cases he:J9 P t with
  |false=>rw[he]at H;exact H.elim
  |true=>
   rw[he]at H
   obtain⟨v,h1,h2⟩:=wb (j9 he) H
   refine⟨v,h1,λh' _=>?_⟩
   simp only[execOp,ho]
   exact(h2 trivial h').val
 |move x=>
  rw[ho]at H
  simp only at H
  unfold w7 at H;rw[ho]at H
  obtain⟨v,h1,h2⟩:=zn H none
  exact⟨v,h1,λh' _=>h2 trivial h'⟩
 |assign x=>
  rw[ho]at H
  simp only at H
  unfold w7 at H;rw[ho]at H
  obtain⟨v,h1,h2⟩:=zn H none
  exact⟨v,h1,λh' _=>h2 trivial h'⟩
 |binOp op t x y t'=>
  rw[ho]at H
  simp only at H
  unfold w7 at H;rw[ho]at H
  simp only at H
  obtain⟨v,h1,h2⟩:=ziv ho H
  exact⟨v,h1,λh' _=>h2 trivial h'⟩
 |call c=>
  rw[ho]at H
  simp only at H
  obtain⟨v,h1,h2⟩:=zn H none
  exact⟨v,h1,λh' _=>h2 trivial h'⟩
 |_=>unfold ze Xs at hq;rw[ho]at hq;cases hq
theorem qh(σ:Nat->Value):valid σ []:=by unfold valid;trivial
theorem Zt:∀{l:List Oper} {k:Nat} {f:Nat->Value} {a:Act},(qg k l f a).tmps.size=a.tmps.size/\(qg k l f a).defers=a.defers
 |[],_,_,_=>⟨rfl,rfl⟩
 |o::l,k,f,a=>by
  unfold qg
  have:=Zt (l:=l) (k:=k+1) (f:=f) (a:=bif ze o then a.put o.dst (f k)else a)
  rw[this.1,this.2]
  cases ze o with
  |true=>exact⟨size_put _ _ _,zy _ _ _⟩
  |false=>exact⟨rfl,rfl⟩
theorem zk{d:Option Nat}{u:Value}{s:Nat}(h:d≠some s):zm (a.put d u) s=zm a s:=by
 cases d with
 |none=>rfl
 |some t=>exact qe λe=>h (by rw[e])
theorem yc{s:Nat}:∀{l:List Oper} {k:Nat} {f:Nat->Value} {a:Act},(∀o∈l,ze o=true->o.dst≠some s)->zm (qg k l f a) s=zm a s
 |[],_,_,_,_=>rfl
 |o::l,k,f,a,h=>by
  unfold qg
  rw[yc λo' Z=>h o' (Ag _ Z)]
  cases hq:ze o with
  |true=>exact zk (h o Am hq)
  |false=>rfl
theorem Ql{P:Program}{n:Nat}{h:za}{K:Env->Prop}:∀{l:List Oper} {k:Nat} {e:Env} {a:Act},wU P n h K l e->Sat n e a->∃(f:Nat->Value) (e':Env),K e'/\Sat n e' (qg k l f a) /\
  ∀i o,l[i]?=some o->ze o=true->jc o.op=true/\qk n [] o.dst=true/\∀h',(zj o=false\/zth o (qg k (l.take i) f a).eval h h')->QExec P (execOp (qg k (l.take i) f a).eval o) h' (.value (f (k+i)))
 |[],k,e,a,H,hs=>⟨λ_=>undef,e,H,hs,λi o h=>by simp at h⟩
 |o::l,k,e,a,H,hs=>by
  unfold wU at H
  cases hq:ze o with
  |false=>
   rw[hq]at H
   obtain⟨f,e',h1,h2,h3⟩:=Ql (k:=k+1) H hs
   refine⟨f,e',h1,by unfold qg;rw[hq];exact h2,λi o' hi Z=>?_⟩
   cases i with
   |zero=>simp at hi;subst hi;rw[hq]at Z;cases Z
   |succ i=>
    have:=h3 i o' (by simpa using hi) Z
    rw[Cd]
    unfold qg
    rw[hq,show k+(i+1)=k+1+i by omega];exact this
  |true=>
   rw[hq]at H
   simp only[cond_true]at H
   cases hd:qk n [] o.dst with
   |false=>rw[hd]at H;exact H.elim
   |true=>
    rw[hd]at H
    simp only[cond_true]at H
    cases hns:jc o.op with
    |false=>rw[hns]at H;exact H.elim
    |true=>
     rw[hns]at H
     simp only[cond_true]at H
     cases hk:known e [] o.op.operands.toList with
     |false=>rw[hk]at H;exact H.elim
     |true=>
      rw[hk]at H
      simp only[cond_true]at H
      obtain⟨v,H1,H2⟩:=W4 hq H
      obtain⟨f,e',h1,h2,h3⟩:=Ql (k:=k+1) (a:=a.put o.dst v) H1 (hs.putO hd (λ_=>rfl) λhv=>absurd (qh _) hv)
      have hf:∀(m:List Oper) (j:Nat) (b:Act),qg (k+1+j) m (λx=>if x=k then v else f x) b=qg (k+1+j) m f b:=by
       intro m
       induction m with
       |nil=>intro j b;rfl
       |cons o' m ih=>
        intro j b
        unfold qg
        dsimp only
        rw[if_neg (show¬k+1+j=k by omega),show k+1+j+1=k+1+(j+1)by omega,ih]
      refine⟨λx=>if x=k then v else f x,e',h1,?_,λi o' hi Z=>?_⟩
      ·unfold qg
       rw[hq,cond_true]
       dsimp only
       rw[if_pos rfl]
       have:=hf l 0 (a.put o.dst v)
       rw[CG]at this
       rw[this];exact h2
      ·cases i with
       |zero=>
        simp at hi;subst hi
        rw[DO,CG]
        dsimp only
        rw[if_pos rfl]
        refine⟨hns,hd,λh' hh=>?_⟩
        show QExec P (execOp a.eval o) h' _
        rw[Qj hs (qh _) hns hk]
        exact H2 h' (hh.imp id λr=>zdo (λx hx=>j8 hs (qh _) hk x hx) r)
       |succ i=>
        have:=h3 i o' (by simpa using hi) Z
        rw[Cd]
        unfold qg
        rw[hq,cond_true]
        dsimp only
        rw[if_pos rfl]
        have e2:=hf (l.take i) 0 (a.put o.dst v)
        rw[CG]at e2
        rw[e2,if_neg (show¬k+(i+1)=k by omega),show k+(i+1)=k+1+i by omega]
        exact this
theorem Q9{next:Act->World->Prop}{Q:Exit->Act->World->Prop}{r:Result Next}(hb:b.defers=[])
  (H:o.upon P b (λc w=>c.defers=[]/\∀v,c=b.put o.dst v->next (a.put o.dst v) w) (λ_ _ _=>False) r):o.upon P a next Q r:=by
 have lo:¬LetsOut (λ(_:Exit) (_:Act) (_:World)=>False):=λh=>by
  obtain⟨_,_,h⟩:=h
  exact h
 cases r with
 |ok x w=>
  cases x with
  |value v=>exact H.2 v rfl
  |skip=>exact H.2 undef rfl
  |defer d=>
   have:=H.1
   rw[zy]at this;cases this
  |enter f args=>
   refine Calls.mono (show Calls P f args w _ from H) λe w' he=>?_
   cases e with
   |returned v=>exact he.2 v rfl
   |panicked c=>exact he.elim
   |outgrown=>exact absurd he lo
  |row row args=>exact Rows.mono (show Rows P row args w _ from H) λv w' he=>he.2 v rfl
  |_=>exact H
 |halt x w=>cases x <;> first|exact H.elim|exact H
theorem qo{j:Nat}:∀{l:List Oper} {k:Nat},j∈zl k l↔k<=j/\∃o,l[j-k]?=some o/\ze o=false
 |[],k=>by simp[zl]
 |o::l,k=>by
  unfold zl
  cases hq:ze o with
  |true=>
   rw[cond_true,qo (l:=l)]
   constructor
   ·rintro⟨h1,o',h2,h3⟩
    exact⟨by omega,o',by rw[show j-k=(j-(k+1))+1 by omega];simpa using h2,h3⟩
   ·rintro⟨h1,o',h2,h3⟩
    rcases Dg h1 with e|e
    ·subst e
     simp at h2;subst h2;rw[hq]at h3;cases h3
    ·exact⟨by omega,o',by rw[show j-k=(j-(k+1))+1 by omega]at h2;simpa using h2,h3⟩
  |false=>
   rw[cond_false,Ai,qo (l:=l)]
   constructor
   ·rintro(rfl|⟨h1,o',h2,h3⟩)
    ·exact⟨Ac _,o,by simp,hq⟩
    ·exact⟨by omega,o',by rw[show j-k=(j-(k+1))+1 by omega];simpa using h2,h3⟩
   ·rintro⟨h1,o',h2,h3⟩
    rcases Dg h1 with e|e
    ·exact .inl e.symm
    ·exact .inr ⟨by omega,o',by rw[show j-k=(j-(k+1))+1 by omega]at h2;simpa using h2,h3⟩
theorem yf:∀{l:List Oper} {k:Nat},(zl k l).Nodup
 |[],_=>List.nodup_nil
 |o::l,k=>by
  unfold zl
  cases ze o with
  |true=>exact yf
  |false=>exact DK.2 ⟨λh=>by have:=(qo.1 h).1;omega,yf⟩
theorem qm{ops:Array Oper}:∀{m:Nat},Q8 ops m=true->∀k o,k<m->ops[k]?=some o->yw ops k (tmpsOf o.op.operands.toList) ops.size=true/\(ze o=true->∀j∈zl 0 ops.toList,Region.waitsFor .any ops k j=true->∀t,yh ops j=some t->t∉tmpsOf o.op.operands.toList)
 |0,_,k,o,hk,_=>by omega
 |m+1,h,k,o,hk,ho=>by
  unfold Q8 at h
  split at h
  ·rename_i o' Z
   cases hs:yw ops m (tmpsOf o'.op.operands.toList) ops.size with
   |false=>rw[hs]at h;cases h
   |true=>
    rw[hs,cond_true]at h
    rcases AF k m with h1|h1
    ·refine qm (m:=m) ?_ k o h1 ho
     revert h
     cases(bif ze o' then(zl 0 ops.toList).all λj=>!(Region.waitsFor .any ops m j)||(match yh ops j with
      |some t=>!(memN (tmpsOf o'.op.operands.toList) t)
      |none=>true)else true) <;> intro h <;> first|exact h|cases h
    ·have:k=m:=by omega
     subst this
     have:o'=o:=Aq (Z.symm.trans ho)
     subst this
     refine⟨hs,λhq j hj hw t ht=>?_⟩
     rw[hq,cond_true]at h
     cases hall:(zl 0 ops.toList).all λj=>!(Region.waitsFor .any ops k j)||(match yh ops j with
      |some t=>!(memN (tmpsOf o'.op.operands.toList) t)
      |none=>true)with
     |false=>rw[hall]at h;cases h
     |true=>
      have:=Ba.1 hall j hj
      rw[hw,ht]at this
      simp only[Bool.not_true,Dk,C3]at this
      exact we this
  ·rename_i Z
   rw[cond_true]at h
   rcases AF k m with h1|h1
   ·exact qm h k o h1 ho
   ·have:k=m:=by omega
    subst this
    rw[Z]at ho;cases ho
theorem Zx{ops:Array Oper}:∀{l:List Nat},Q7 ops l=true->∀q i j,l[q]?=some i->l[q+1]?=some j->Region.waitsFor .any ops j i=true
 |[],_,q,i,j,h,_=>by simp at h
 |[_],_,q,i,j,_,h=>by simp at h
 |a::b::l,h,q,i,j,h1,h2=>by
  unfold Q7 at h
  cases hw:Region.waitsFor .any ops b a with
  |false=>rw[hw]at h;cases h
  |true=>
   rw[hw,cond_true]at h
   cases q with
   |zero=>simp at h1 h2;subst h1;subst h2;exact hw
   |succ q=>exact Zx h q i j (by simpa using h1) (by simpa using h2)
theorem wh{ops:Array Oper}{i:Nat}:∀{l:List Nat},jg ops i l=true->∃j∈l,Region.waitsFor .any ops j i=true
 |[],h=>by cases h
 |j::l,h=>by
  unfold jg at h
  cases hw:Region.waitsFor .any ops j i with
  |true=>exact⟨j,Am,hw⟩
  |false=>
   rw[hw,cond_false]at h
   obtain⟨j',h1,h2⟩:=wh h
   exact⟨j',Ag _ h1,h2⟩
theorem Ya{ops:Array Oper}{T:List Nat}:∀{m:Nat},ze9 ops T m=false->∀k o,k<m->ops[k]?=some o->zj o=true->jg ops k T=true
 |0,_,k,o,hk,_,_=>by omega
 |m+1,h,k,o,hk,ho,hl=>by
  unfold ze9 at h
  cases hb:(match ops[m]? with
   |some o=>bif zj o then !(jg ops m T)else false
   |none=>false)with
  |true=>rw[hb]at h;cases h
  |false=>
   rw[hb,cond_false]at h
   rcases AF k m with h1|h1
   ·exact Ya h k o h1 ho hl
   ·have:k=m:=by omega
    subst this
    rw[ho]at hb
    simp only[hl,cond_true,Bool.not_eq_false']at hb
    exact hb
theorem jm{i p:Nat}(hi:i∈Region.ready .any ops listed)(hw:Region.waitsFor .any ops i p=true):listed.getD p false=true:=by
 obtain⟨oj,ab,e,he,hb,aa⟩:=Region.waitsFor_spec hw
 obtain⟨_,o,ho,Z⟩:=mem_ready.1 hi
 have:oj=o:=Aq (ab.symm.trans ho)
 subst this
 rw[<-aa];exact Z e he hb
theorem qp(inv:HeadInv .any ops n listed){i p:Nat}(hi:listed.getD i false=true)(hw:Region.waitsFor .any ops i p=true):listed.getD p false=true:=by
 obtain⟨oj,aa,e,he,hb,Z⟩:=Region.waitsFor_spec hw
 rw[<-Z];exact inv.closed i oj aa hi e he hb
theorem Zy{p:Nat->Bool}{N:Nat}(h:∃k,k<N/\p k=false):∃k,k<N/\p k=false/\∀j,j<k->p j=true:=by
 obtain⟨k,h1,h2⟩:=h
 induction k using Nat.strongRecOn with
 |_ k ih=>
  by_cases hm:∃j,j<k/\p j=false
  ·obtain⟨j,h3,h4⟩:=hm
   exact ih j h3 (by omega) h4
  ·exact⟨k,h1,h2,λj hj=>by
    cases hb:p j with
    |true=>rfl
    |false=>exact absurd ⟨j,hj,hb⟩ hm⟩
theorem Wb(h:zro ops=true):j6 ops.toList=true/\qd ops ops.size=true/\jl ops ops.size=true/\Q7 ops (zl 0 ops.toList)=true/\Q8 ops ops.size=true:=by
 unfold zro at h
 cases h1:j6 ops.toList <;> cases h2:qd ops ops.size <;> cases h3:jl ops ops.size <;> cases h4:Q7 ops (zl 0 ops.toList) <;> simp[h1,h2,h3,h4]at h ⊢
 exact h
theorem Zl{l:List Oper}(h:j6 l=true):∀o∈l,o.guard=none/\jc o.op=true:=by
 intro o ho
 have:=Ba.1 h o ho
 cases hg:o.guard with
 |none=>rw[hg]at this;exact⟨rfl,this⟩
 |some g=>rw[hg]at this;cases this
theorem wj:∀{l m:List Oper} {k:Nat} {f:Nat->Value} {a:Act},qg k (l++m) f a=qg (k+l.length) m f (qg k l f a)
 |[],m,k,f,a=>rfl
 |o::l,m,k,f,a=>by
  have e:∀l',qg k (o::l') f a=qg (k+1) l' f (bif ze o then a.put o.dst (f k)else a):=λ_=>rfl
  rw[Br,e,e,wj,show k+1+l.length=k+(o::l).length by simp;omega]
theorem toL(ho:ops[i]?=some o):ops.toList[i]?=some o:=by rw[Bw];exact ho
theorem ofL(ho:ops.toList[i]?=some o):ops[i]?=some o:=by rw[Bw]at ho;exact ho
structure StM (P:Program) (n:Nat) (ops:Array Oper) (h0:za) (K:Env->za->Prop) (f:Nat->Value) (a0:Act) (listed:Array Bool) (a b:Act) (e:Env) (h:za) (done todo:List Nat):Prop where
 inv:HeadInv .any ops ops.size listed
 ag:∀s,(∀i o,ops[i]?=some o->ze o=true->listed.getD i false=false->o.dst≠some s)->zm a s=zm b s
 sz:a.tmps.size=n
 ad:a.defers=[]
 sb:Sat n e b
 qv:∀i o t,ops[i]?=some o->ze o=true->o.dst=some t->zm b t=f i/\t<n
 qx:∀i o,ops[i]?=some o->ze o=true->∀h',(zj o=false\/zth o b.eval h0 h')->QExec P (execOp b.eval o) h' (.value (f i))
 tt:zl 0 ops.toList=done.reverse++todo
 ch:∀j,j∈zl 0 ops.toList->(listed.getD j false=true↔j∈done)
 wt:wT P n ops h0 K done todo e h
 kp:∀i o,ops[i]?=some o->zj o=true->listed.getD i false=false->zth o b.eval h0 h
 sm:Same (yn ops.toList) a0 a
theorem xo{o:Oper}:∀{l:List Oper},o∈l->∀i,o.dst=some i->i∈yn l
 |[],h,_,_=>by cases h
 |x::l,h,i,hi=>by
  unfold yn
  rcases Ai.1 h with rfl|h
  ·rw[hi];exact Am
  ·have:=xo h i hi
   split
   ·exact Ag _ this
   ·exact this
theorem zh{k:Nat}(h:ops[k]?=some o):yh ops k=o.dst:=by simp[yh,h]
theorem znp{h0:za}{K:Env->za->Prop}{Q:Exit->Act->World->Prop}(B:World)(bo:zro ops=true){f:Nat->Value}{a0:Act}
  (hQ:∀e' a' d' h',Sat n e' a'->Same (yn ops.toList) a0 a'->K e' h'->Q .normal a' (mk B d' h')):
  ∀(N:Nat) (U:List Nat) (listed:Array Bool) (a b:Act) (e:Env) (h:za) (d:Nat) (done todo:List Nat),U.length=N->U.Nodup->(∀k,k∈U↔k<ops.size/\listed.getD k false=false) ->
   StM P n ops h0 K f a0 listed a b e h done todo->wpAny P .any ops Q N listed a (mk B d h):=by
 obtain⟨bL,aM,bJ,aB,au⟩:=Wb bo
 have a1:∀(i:Nat) (o:Oper),ops[i]?=some o->o.guard=none/\jc o.op=true:=λi o ho=>Zl bL o (by
  obtain⟨ab,e⟩:=Ad.1 ho
  rw[<-e];simp)
 have bG:∀{listed:Array Bool} {a b:Act} {e:Env} {h:za} {d:Nat} {done todo:List Nat},(∀k,k<ops.size->listed.getD k false=true)->StM P n ops h0 K f a0 listed a b e h done todo->Q .normal a (mk B d h):=by
  intro listed a b e h d done todo ae S
  have ak:todo=[]:=by
   cases todo with
   |nil=>rfl
   |cons j l=>
    have hj:j∈zl 0 ops.toList:=by rw[S.tt];simp
    have ab:j<ops.size:=by
     obtain⟨_,o,ho,_⟩:=qo.1 hj
     have:=(Aw.1 ho).1
     simpa using this
    have hd:=(S.ch j hj).1 (ae j ab)
    have hn:=yf (l:=ops.toList) (k:=0)
    rw[S.tt,BH]at hn
    exact absurd rfl (hn.2.2 j (by simpa using hd) j (by simp))
  have hw:=S.wt
  rw[ak]at hw
  unfold wT at hw
  have hv:∀s,zm a s=zm b s:=λs=>S.ag s λi o ho hq hl=>by
   rw[ae i (Ad.1 ho).1]at hl;cases hl
  have hs:Sat n e a:=⟨S.ad,S.sz,λx hx=>by
   have:=S.sb.all x hx
   have e1:zm a=zm b:=funext hv
   rw[e1];exact this⟩
  exact hQ _ _ _ _ hs.clean S.sm hw
 intro N
 induction N with
 |zero=>
  intro U listed a b e h d done todo hU _ ai S
  have br:U=[]:=AU.1 hU
  subst br
  have ae:∀k,k<ops.size->listed.getD k false=true:=λk hk=>by
   cases hb:listed.getD k false with
   |true=>rfl
   |false=>exact absurd ((ai k).2 ⟨hk,hb⟩) (by simp)
  refine⟨?_,bG ae S⟩
  rw[CF]
  intro j hj
  obtain⟨h1,o,ho,_⟩:=mem_ready.1 hj
  have ab:=(Ad.1 ho).1
  have:=ae j ab
  have h2:=getD_both h1
  rw[this]at h2;cases h2
 |succ N ih=>
  intro U listed a b e h d done todo hU aH ai S
  have bH:∃k,k<ops.size/\listed.getD k false=false:=by
   cases U with
   |nil=>cases hU
   |cons k U=>exact⟨k,(ai k).1 Am⟩
  refine⟨λhr=>?_,λi hi=>?_⟩
  ·exfalso
   obtain⟨k,ax,aQ,bF⟩:=Zy bH
   have:k∈Region.ready .any ops listed:=mem_ready.2 ⟨by rw[<-aQ];simp[S.inv.size,ax],ops[k],AI ax,λx hx hb=>bF _ (zu aM k ops[k] ax (AI ax) x hx hb)⟩
   rw[hr]at this;cases this
  ·obtain⟨bi,o,ho,ae⟩:=mem_ready.1 hi
   have aF:listed.getD i false=false:=getD_both bi
   have ab:i<ops.size:=(Ad.1 ho).1
   obtain⟨hg,bM⟩:=a1 i o ho
   have aI:i<listed.size:=by rw[S.inv.size];exact ab
   have ba:(U.erase i).length=N:=by rw[CH ((ai i).2 ⟨ab,aF⟩),hU];rfl
   have ap:(U.erase i).Nodup:=aH.erase i
   have an:∀k,k∈U.erase i↔k<ops.size/\(listed.setIfInBounds i true).getD k false=false:=λk=>by
    rw[aH.mem_erase_iff,ai k]
    by_cases hk:i=k
    ·subst hk;simp[aI]
    ·rw[getD_set_ne false hk];exact⟨λhx=>hx.2,λhx=>⟨λe=>hk e.symm,hx⟩⟩
   have am:=S.inv.set hi ab
   have ah:∀k,k≠i->(listed.setIfInBounds i true).getD k false=listed.getD k false:=λk hk=>getD_set_ne false (Ne.symm hk)
   have af:(listed.setIfInBounds i true).getD i false=true:=by simp[aI]
   obtain⟨aA,bQ⟩:=qm au i o ab ho
   have a8:∀t∈tmpsOf o.op.operands.toList,zm a t=zm b t:=λt ht=>S.ag t λk ok Z hq hl hd=>by
    have hw:=zz aA k t (Ad.1 Z).1 (by rw[zh Z,hd]) ht
    rw[jm hi hw]at hl;cases hl
   have aV:=yj bM a8
   unfold wpOp
   rw[ho]
   simp only
   have aZ:Bm o (yielded ops a.tmps)=true:=by unfold Bm;rw[hg]
   rw[if_pos aZ]
   left
   unfold Oper.wp
   rw[aV]
   cases hq:ze o with
   |true=>
    have hx:=S.qx i o ho hq h (by
     cases hl:zj o with
     |false=>exact .inl rfl
     |true=>exact .inr (S.kp i o ho hl aF)) B d
    rw[hx,Oper.upon_value]
    have bj:i∉zl 0 ops.toList:=λhm=>by
     obtain⟨_,o',bh,bn⟩:=qo.1 hm
     rw[CU]at bh
     have:o'=o:=by
      have h2:ops[i]?=some o':=ofL bh
      exact Aq (h2.symm.trans ho)
     subst this;rw[hq]at bn;cases bn
    refine ih _ _ _ b e h d done todo ba ap an { S with inv:=am,ag:=λs hs=>?_,sz:=by rw[size_put];exact S.sz,ad:=by rw[zy];exact S.ad,ch:=λj hj=>?_,kp:=λk ok Z hl hk=>?_,sm:=S.sm.trans (Same.put a o.dst _ λt ht=>xo (by
     obtain⟨bC,e2⟩:=Ad.1 ho
     rw[<-e2];simp) t ht) }
    ·by_cases hd:o.dst=some s
     ·obtain⟨hv,ay⟩:=S.qv i o s ho hq hd
      rw[hd,qj (by rw[S.sz];exact ay),hv]
     ·rw[zk hd]
      refine S.ag s λk ok Z aa aS=>?_
      by_cases aj:k=i
      ·subst aj
       have:ok=o:=Aq (Z.symm.trans ho)
       subst this;exact hd
      ·exact hs k ok Z aa (by rw[ah k aj];exact aS)
    ·have:j≠i:=λe=>bj (e ▸ hj)
     rw[ah j this];exact S.ch j hj
    ·by_cases aj:k=i
     ·subst aj;rw[af]at hk;cases hk
     ·rw[ah k aj]at hk;exact S.kp k ok Z hl hk
   |false=>
    have aN:i∈zl 0 ops.toList:=qo.2 ⟨CK _,o,by rw[CU];exact toL ho,hq⟩
    have aL:=yf (l:=ops.toList) (k:=0)
    have az:i∉done:=λhd=>by rw[(S.ch i aN).2 hd]at aF;cases aF
    have ak:∃rest,todo=i::rest:=by
     have a7:i∈todo:=by
      have:=aN
      rw[S.tt,Av]at this
      rcases this with h1|h1
      ·exact absurd (by simpa using h1) az
      ·exact h1
     cases todo with
     |nil=>cases a7
     |cons j rest=>
      rcases Ai.1 a7 with rfl|hr
      ·exact⟨rest,rfl⟩
      ·exfalso
       obtain⟨m,hm,em⟩:=AY hr
       have hp:∃pr,(j::rest)[m]?=some pr:=⟨_,Ak (by simp;omega)⟩
       obtain⟨pr,bg⟩:=hp
       have hw:=Zx aB (done.reverse.length+m) pr i (by rw[S.tt,A6 (by omega),C7];exact bg) (by
        rw[S.tt,A6 (by omega),show done.reverse.length+m+1-done.reverse.length=m+1 by omega,List.getElem?_cons_succ,Ak hm,em])
       have aJ:pr∈j::rest:=Bb bg
       have bq:pr∈zl 0 ops.toList:=by rw[S.tt];exact Au _ aJ
       have hd:=(S.ch pr bq).1 (jm hi hw)
       rw[S.tt,BH]at aL
       exact aL.2.2 pr (by simpa using hd) pr aJ rfl
    obtain⟨rest,rfl⟩:=ak
    have hW:=S.wt
    unfold wT at hW
    rw[ho]at hW
    simp only at hW
    cases hd:qk n [] o.dst with
    |false=>rw[hd]at hW;exact hW.elim
    |true=>
     rw[hd,cond_true]at hW
     refine Q9 (b:=b) S.sb.defers ?_
     refine ze7 hW S.sb (qh _) B d λv d' h' hK=>⟨by rw[zy];exact S.sb.defers,λv2 bz=>?_⟩
     have bO:b.put o.dst v2=b.put o.dst v:=bz.symm
     have aG:∀j,j∈zl 0 ops.toList->((listed.setIfInBounds i true).getD j false=true↔j∈i::done):=λj hj=>by
      by_cases aU:j=i
      ·subst aU;rw[af];simp
      ·rw[ah j aU,S.ch j hj];simp[aU]
     have aY:ze9 ops (i::done) ops.size=false->∀k ok,ops[k]?=some ok->zj ok=true->(listed.setIfInBounds i true).getD k false=true:=λhl k ok Z ar=>by
      obtain⟨j,hj,hw⟩:=wh (Ya hl k ok (Ad.1 Z).1 Z ar)
      have aO:(listed.setIfInBounds i true).getD j false=true:=by
       rcases Ai.1 hj with rfl|hj
       ·exact af
       ·exact getD_set_true ((S.ch j (by rw[S.tt];simp[hj])).2 hj)
      exact qp am aO hw
     have bm:wT P n ops h0 K (i::done) rest (putO e o.dst [] v) h'/\(∀k ok,ops[k]?=some ok->zj ok=true->(listed.setIfInBounds i true).getD k false=false->zth ok (b.put o.dst v).eval h0 h'):=by
      cases hl:ze9 ops (i::done) ops.size with
      |true=>
       rw[hl,cond_true]at hK
       refine⟨hK.2,λk ok Z ar hf=>?_⟩
       have bP:jg ops k (i::done)=false:=by
        cases ha:jg ops k (i::done)with
        |false=>rfl
        |true=>
         exfalso
         obtain⟨j,hj,hw⟩:=wh ha
         have aO:(listed.setIfInBounds i true).getD j false=true:=by
          rcases Ai.1 hj with rfl|hj
          ·exact af
          ·exact getD_set_true ((S.ch j (by rw[S.tt];simp[hj])).2 hj)
         rw[qp am aO hw]at hf;cases hf
       obtain⟨t,x,c,bA,hc,hb⟩:=zio hK.1 k ok (Ad.1 Z).1 Z ar bP
       unfold zth
       rw[bA]
       intro c' a6
       have:=yb (S.sb.putO hd (λ_=>rfl) λhv=>absurd (qh _) hv) (c:=[]) (qh _) hc
       rw[this]at a6
       cases a6;exact hb
      |false=>rw[hl,cond_false]at hK;exact⟨hK,λk ok Z ar hf=>by rw[aY hl k ok Z ar]at hf;cases hf⟩
     have aT:∀k ok t,ops[k]?=some ok->ze ok=true->ok.dst=some t->o.dst≠some t:=λk ok t Z aa aC aE=>by
      have:=ql bJ k i t (Ad.1 Z).1 ab (by rw[zh Z,aC]) (by rw[zh ho,aE])
      subst this
      have:ok=o:=Aq (Z.symm.trans ho)
      subst this;rw[hq]at aa;cases aa
     refine ih _ _ _ (b.put o.dst v) (putO e o.dst [] v) h' d' (i::done) rest ba ap an ⟨am,λs hs=>?_,by rw[size_put];exact S.sz,by rw[zy];exact S.ad,S.sb.putO hd (λ_=>rfl) λhv=>absurd (qh _) hv,λk ok t Z aa aC=>?_,λk ok Z aa bE hh=>?_,by rw[S.tt];simp,aG,bm.1,bm.2,S.sm.trans (Same.put a o.dst _ λt ht=>xo (by
      obtain⟨bC,e2⟩:=Ad.1 ho
      rw[<-e2];simp) t ht)⟩
     ·have bI:∀u,(∀k ok,ops[k]?=some ok->ze ok=true->listed.getD k false=false->ok.dst≠some s)->o.dst≠some s->zm (a.put o.dst u) s=zm (b.put o.dst v) s:=λu h1 h2=>by
       rw[zk h2,zk h2];exact S.ag s h1
      have bu:∀k ok,ops[k]?=some ok->ze ok=true->listed.getD k false=false->ok.dst≠some s:=λk ok Z aa aS=>by
       by_cases aj:k=i
       ·subst aj
        have:ok=o:=Aq (Z.symm.trans ho)
        subst this;rw[hq]at aa;cases aa
       ·exact hs k ok Z aa (by rw[ah k aj];exact aS)
      by_cases aP:o.dst=some s
      ·rw[<-bO,aP]
       have ay:s<n:=by
        rw[aP]at hd
        unfold qk at hd
        simp at hd;exact hd.2
       rw[qj (by rw[S.sz];exact ay),qj (by rw[S.sb.size];exact ay)]
      ·exact bI v2 bu aP
     ·have:=S.qv k ok t Z aa aC
      rw[zk (aT k ok t Z aa aC)];exact this
     ·have aQ:=a1 k ok Z
      have be:∀t∈tmpsOf ok.op.operands.toList,zm (b.put o.dst v) t=zm b t:=λt ht=>by
       refine zk λaE=>?_
       obtain⟨bD,bB⟩:=qm au k ok (Ad.1 Z).1 Z
       have hw:=zz bD i t ab (by rw[zh ho,aE]) ht
       exact bB aa i aN hw t (by rw[zh ho,aE]) ht
      rw[yj (b:=b) aQ.2 be]
      exact S.qx k ok Z aa bE (hh.imp id λr=>zdo (yi be) r)
theorem zfa{K:Env->za->Prop}{Q:Exit->Act->World->Prop}(B:World)(ae:zro ops=true){e:Env}
  (H:wU P n h (λe'=>wT P n ops h K [] (zl 0 ops.toList) e' h) ops.toList e) (hs:Sat n e a)
  (hQ:∀e' a' d' h',Sat n e' a'->Same (yn ops.toList) a a'->K e' h'->Q .normal a' (mk B d' h')) (d:Nat):wpAny P .any ops Q ops.size (Bf ops.size false) a (mk B d h):=by
 obtain⟨aE,ah,ax,ar,ai⟩:=Wb ae
 obtain⟨f,e1,HT,am,hf⟩:=Ql (k:=0) H hs
 have hl:∀(i:Nat) (o:Oper),ops[i]?=some o->ops.toList[i]?=some o:=λi o ho=>toL ho
 have Z:∀i,qg 0 ops.toList f a=qg (0+(ops.toList.take i).length) (ops.toList.drop i) f (qg 0 (ops.toList.take i) f a):=λi=>by
  rw[<-wj,Ce]
 refine znp B ae (f:=f) hQ ops.size (BI ops.size) _ a (qg 0 ops.toList f a) e1 h d [] (zl 0 ops.toList) Dm C8 (λk=>by rw[BL,getD_replicate_false];simp) ⟨⟨by simp,λj oj _ hl=>(by rw[getD_replicate_false]at hl;cases hl),λt ht aC=>by omega⟩,λs au=>?_,hs.size,hs.defers,am,λi o t ho hq hd=>?_,λi o ho hq h' hh=>?_,by simp,λj hj=>by rw[getD_replicate_false];simp,HT,λ_ _ _ _ _=>zxi _ _ _,Same.refl _ _⟩
 ·refine(yc λo ho hq=>?_).symm
  obtain⟨i,hi,e⟩:=AY ho
  exact au i o (ofL (by rw[Ak hi,e])) hq (getD_replicate_false _ _)
 ·obtain⟨h1,h2,h3⟩:=hf i o (hl i o ho) hq
  have ak:t<n:=by
   rw[hd]at h2
   unfold qk at h2
   simp at h2;exact h2.2
  refine⟨?_,ak⟩
  have ab:=(Ad.1 ho).1
  have ap:(ops.toList.take i).length=i:=by simp;omega
  rw[Z i,ap,Az]
  have ay:ops.toList.drop i=o::ops.toList.drop (i+1):=by
   have:=(Aw.1 (hl i o ho))
   rw[Ay this.1,this.2]
  rw[ay]
  unfold qg
  rw[hq,cond_true,yc λo' af aA aj=>?_]
  ·rw[hd,qj (by rw[Zt.1,hs.size];exact ak)]
  ·obtain⟨m,hm,em⟩:=AY af
   have aa:ops[i+1+m]?=some o':=by
    have:ops.toList[i+1+m]?=some o':=by rw[<-AE,Ak hm,em]
    exact ofL this
   have:=ql ax i (i+1+m) t ab (Ad.1 aa).1 (by rw[zh ho,hd]) (by rw[zh aa,aj])
   omega
 ·obtain⟨h1,h2,h3⟩:=hf i o (hl i o ho) hq
  have an:∀t∈tmpsOf o.op.operands.toList,zm (qg 0 ops.toList f a) t=zm (qg 0 (ops.toList.take i) f a) t:=λt ht=>by
   have ab:=(Ad.1 ho).1
   rw[Z i]
   refine yc λo' af aA aj=>?_
   obtain⟨m,hm,em⟩:=AY af
   have aa:ops[i+m]?=some o':=by
    have:ops.toList[i+m]?=some o':=by rw[<-AE,Ak hm,em]
    exact ofL this
   obtain⟨az,_⟩:=qm ai i o ab ho
   have hw:=zz az (i+m) t (Ad.1 aa).1 (by rw[zh aa,aj]) ht
   obtain⟨oj,aB,x,hx,hb,aF⟩:=Region.waitsFor_spec hw
   have:=zu ah i oj ab aB x hx hb
   omega
  have:=h3 h' (hh.imp id λr=>zdo (yi an) r)
  rw[Az]at this
  rw[yj h1 an]
  exact this
end
end Go.X.U
end
section
namespace Go.X
section
abbrev Rec:=LoopState->Option Code->Loop
end
section
def qbi(l:List Int):List Value:=l.map (D4 .i64)
structure LI (h0:za) (M:Fr) (rec:Rec) (sp:Sl) (w x:Tr) (os:List Int) (g:za):Prop where
 keep:Keep h0.size h0 g
 size:h0.size+7<=g.size
 v:∃sk si,Blk g h0.size (Ys w.kind w.text sk si).toArray/\Rd M (.row .str) w.keys [slV sk]/\Rd M (.row .tree) w.items [slV si]
 z:Blk g (h0.size+1) (Ys 0 ⟨#[]⟩ ⟨none,0,0⟩ ⟨none,0,0⟩).toArray
 o:∃so,Blk g (h0.size+2) #[slV so]/\Owns g (h0.size+7) 3 1 so (qbi os)/\so.len=os.length
 c:∃sk si,Blk g (h0.size+3) (Ys x.kind x.text sk si).toArray/\Rd M (.row .str) x.keys [slV sk]/\Rd M (.row .tree) x.items [slV si]
 p:Blk g (h0.size+4) #[slV sp]
 d:g[h0.size+5]?=some (.deferred (some []))
 l:g[h0.size+6]?=some (.loop (rec .ready none))
theorem LI.frame{h0:za}{M:Fr}{rec:Rec}{sp:Sl}{w x:Tr}{os:List Int}{g g':za}(I:LI h0 M rec sp w x os g)(k:Keep g.size g g'):LI h0 M rec sp w x os g':=by
 have hs:=I.size
 have hk:=k.size
 obtain⟨sk,si,v1,v2,v3⟩:=I.v
 obtain⟨so,o1,o2,o3⟩:=I.o
 obtain⟨tk,ti,c1,c2,c3⟩:=I.c
 exact⟨⟨by have:=I.keep.size;omega,λi hi=>(k.get i (by omega)).trans (I.keep.get i hi)⟩,by omega,⟨sk,si,v1.ofKeep k,v2,v3⟩,I.z.ofKeep k,⟨so,o1.ofKeep k,o2.keepN k,o3⟩,⟨tk,ti,c1.ofKeep k,c2,c3⟩,I.p.ofKeep k,by rw[k.get _ (by omega)];exact I.d,by rw[k.get _ (by omega)];exact I.l⟩
end
section
theorem OT.zero(h:za):OT h zT [] (Ys 0 ⟨#[]⟩ ⟨none,0,0⟩ ⟨none,0,0⟩):=
 OT.mk (k:=0) (s:=⟨#[]⟩) (ks:=[]) (xs:=[]) (sk:=⟨none,0,0⟩) (si:=⟨none,0,0⟩) (bk:=[]) (bb:=[]) (b:=0) (cs:=#[]) (bf:=λ_=>[]) ⟨rfl,by simp,by simp,.inl ⟨rfl,rfl,rfl⟩⟩ ⟨rfl,by simp,by simp⟩ (.inl ⟨rfl,rfl,rfl⟩) (λi hi=>absurd hi (by simp)) (by simp)
end
section
theorem z7j:qf Tp 9=true:=by kernel_rfl
theorem z7k:qw Tp 9=1:=by kernel_rfl
theorem z7l:qf Tp 3=true:=by kernel_rfl
theorem z7m:qw Tp 3=1:=by kernel_rfl
def But(bs:List Nat)(h h':za):Prop:=h.size<=h'.size/\∀i,i<h.size->i∉bs->h'[i]?=h[i]?
theorem But.refl(bs:List Nat)(h:za):But bs h h:=⟨Ac _,λ_ _ _=>rfl⟩
theorem But.trans{bs:List Nat}{a b c:za}(x:But bs a b)(y:But bs b c):But bs a c:=⟨DN x.1 y.1,λi hi hn=>(y.2 i (by have:=x.1;omega) hn).trans (x.2 i hi hn)⟩
set_option maxHeartbeats 2000000 in
theorem zzs(n:Nat):∀(v:Tr),tsz v<=n->∀{h:za} {bs:List Nat} {sk si:Sl},OT h v bs (Ys v.kind v.text sk si)->∀{K:Value->za->Prop},(∀h',But bs h h'->K (.tuple #[]) h')->XC Tp 17 #[.agg #[.int .i64 v.kind,.string v.text,slV sk,slV si]] h K:=by
 induction n with
 |zero=>intro v hn;have:=z16 v;omega
 |succ n ih=>
 intro v hn h bs sk si ot K hK
 have ae:=ot
 generalize hq:Ys v.kind v.text sk si=cells at ae
 cases ae with
 | @mk kd s ks xs sk' si' bk bb b cs bf hkk hnn hz hi hd=>
 have:sk'=sk/\si'=si:=by
  simp only[Ys,slV,BP,A9,and_true]at hq
  obtain⟨_,_,⟨a1,a2,a3⟩,a4,a5,a6⟩:=hq
  cases sk;cases si;cases sk';cases si'
  simp only at a1 a2 a3 a4 a5 a6
  subst a1;subst a2;subst a3;subst a4;subst a5;subst a6;exact⟨rfl,rfl⟩
 obtain⟨rfl,rfl⟩:=this
 obtain⟨aJ,aZ,a7,ay⟩:=hkk
 rw[BH]at hd
 obtain⟨aV,aH,aA⟩:=hd
 rw[BH]at aH
 obtain⟨aU,aN,aP⟩:=aH
 have nf:=zgj.1 aN
 have ai:=ot.lt
 apply zat kd s sk' si'
 intro h1
 have z1:h1.size=h.size+1:=Al _
 have k1:Keep h.size h h1:=Keep.push _ _ (Ac _)
 have b1:Blk h1 h.size (Ys kd s sk' si').toArray:=Blk.new _ _ _
 clear_value h1
 refine⟨λi g=>∃k:Nat,i=(k:Int)/\k<=ks.length/\h1.size<=g.size/\(∀x,x<h1.size->x∉bk->g[x]?=h1[x]?)/\(∀bx∈bk,∃c:Array Value,Blk g bx c/\ks.length<=c.size),λi _=>ks.length-i.toNat,⟨0,rfl,by omega,Ac _,λ_ _ _=>rfl,λbx Z=>?_⟩,?_⟩
 ·rcases ay with⟨_,rfl,_⟩|⟨b',cs',rfl,e1,e2,_,e3⟩
  ·cases Z
  ·simp at Z;subst Z
   refine⟨cs',e2.ofKeep k1,?_⟩
   have:=congrArg Cy e3
   unfold cut at this
   simp at this;omega
 rintro i g ⟨k,rfl,hk,zg,fg,blk⟩
 have aS:h.size∉bk:=λhm=>by have:=ai h.size (by simp[hm]);omega
 have bg:Blk g h.size (Ys kd s sk' si').toArray:=b1.keep (fg _ (by omega) aS)
 refine⟨sk',bg.cellAdd (o:=0) (k:=2) rfl,λhc=>?_,λhc=>?_⟩
 ·have aa:k<ks.length:=by rw[aJ]at hc;simp at hc;omega
  rcases ay with⟨h0,_⟩|⟨b',cs',rfl,e1,e2,_,e3⟩
  ·rw[h0]at aa;simp at aa
  obtain⟨c,aL,au⟩:=blk b' (by simp)
  refine⟨sk',bg.cellAdd (o:=0) (k:=2) rfl,⟨b',0,none⟩,⟨e1,by omega,by omega⟩,?_⟩
  rw[zi,Az,Af,Db]
  refine Jv (vs:=[.string (⟨#[115,112,111,105,108,116]⟩:Bt)]) z7j aL rfl z7k (by simp;omega) (by simp[Value.oneCell']) λh9 b9 z9 f9=>?_
  rw[Qg aa (by omega)]
  refine⟨⟨k+1,rfl,by omega,by omega,λx hx hm=>by rw[f9 x (λe=>hm (by simp[e]))];exact fg x hx hm,λbx Z=>?_⟩,by simp only[Af];omega⟩
  simp at Z;subst Z
  exact⟨_,b9,by rw[zcg (by simp;omega)];exact au⟩
 have aj:∀i,i<xs.length->∀x∈bf i,x∉bk/\x∉bb/\x<h.size:=λi ak x hx=>
  ⟨λhm=>aA x hm x (Au _ (zew.2 ⟨i,ak,hx⟩)) rfl,λhm=>aP x hm x (zew.2 ⟨i,ak,hx⟩) rfl,ai x (by simp only[Av];exact .inr (.inr (zew.2 ⟨i,ak,hx⟩)))⟩
 have ah:∀x∈bb,x∉bk/\x<h.size:=λx hx=>⟨λhm=>aA x hm x (Ao _ hx) rfl,ai x (by simp[hx])⟩
 refine⟨λi g'=>∃(k:Nat) (cs':Array Value),i=(k:Int)/\k<=xs.length/\h1.size<=g'.size/\(∀x,x<h1.size->x∉bk++(bb++(BI xs.length).flatMap bf)->g'[x]?=h1[x]?)/\(∀bx∈bb,Blk g' bx cs'/\xs.length*4<=cs'.size)/\(∀i (hx:i<xs.length),k<=i->OT g' xs[i] (bf i) (cut cs' (i*4) 4)),
  λi _=>xs.length-i.toNat,⟨0,cs,rfl,by omega,zg,λx hx hm=>fg x hx (λe=>hm (by simp[e])),λbx Z=>?_,λi hx _=>?_⟩,?_⟩
 ·rcases hz with⟨_,rfl,_⟩|⟨rfl,e1,e2,e3⟩
  ·cases Z
  ·simp at Z;subst Z
   exact⟨(e2.ofKeep k1).keep (fg bx (by have:=(ah bx (by simp)).2;omega) (ah bx (by simp)).1),by have:=hnn.2.2;omega⟩
 ·exact(hi i hx).frame λx af=>by
   obtain⟨q1,q2,q3⟩:=aj i hx x af
   rw[fg x (by omega) q1];exact k1.get x q3
 rintro i g' ⟨j,cs',rfl,hj,be,an,aF,todo⟩
 have aC:h.size∉bk++(bb++(BI xs.length).flatMap bf):=λhm=>by have:=ai h.size hm;omega
 have ar:Blk g' h.size (Ys kd s sk' si').toArray:=b1.keep (an _ (by omega) aC)
 refine⟨si',ar.cellAdd (o:=0) (k:=3) rfl,λhc=>?_,λhc=>?_⟩
 ·have aa:j<xs.length:=by rw[hnn.1]at hc;simp at hc;omega
  rcases hz with⟨h0,_⟩|⟨rfl,e1,e2,e3⟩
  ·rw[h0]at aa;simp at aa
  obtain⟨az,au⟩:=aF b (by simp)
  have ax:=todo j aa (Ac _)
  obtain⟨tk,ti,am⟩:=ax.cells
  rw[am]at ax
  refine⟨si',ar.cellAdd (o:=0) (k:=3) rfl,⟨b,0,none⟩,⟨e1,by omega,by omega⟩,xs[j].kind,xs[j].text,tk,ti,?_,?_⟩
  ·rw[zi,Az,Af]
   exact z6f az (vs:=Ys xs[j].kind xs[j].text tk ti) (o:=j*4) (i:=0) am
  ·have hm:xs[j]∈xs:=AP aa
   have aT:=zjy (v:=.mk kd s ks xs) hm
   refine ih xs[j] (by omega) ax λaB ab=>⟨rfl,?_⟩
   have ba:=ab.1
   have aQ:∀x,x∈bf j->x<h.size:=λx hx=>(aj j aa x hx).2.2
   have aG:Blk aB h.size (Ys kd s sk' si').toArray:=ar.keep (ab.2 _ (by omega) λhm=>by have:=aQ _ hm;omega)
   refine⟨si',aG.cellAdd (o:=0) (k:=3) rfl,⟨b,0,none⟩,⟨e1,by omega,by omega⟩,?_⟩
   have aM:b∉bf j:=λhm=>(aj j aa b hm).2.1 (by simp)
   have aE:Blk aB b cs':=az.keep (ab.2 b (by have:=(ah b (by simp)).2;omega) aM)
   rw[zi,zi,Az,CG,Af]
   refine Jv (vs:=[.int .i64 (-7)]) z7l aE rfl z7m (by show j*4+1<=cs'.size;omega) (by simp[Value.oneCell']) λaY aO a8 aI=>?_
   rw[Qg aa (by omega)]
   refine⟨⟨j+1,upd cs' (j*4) [.int .i64 (-7)],rfl,by omega,by omega,λx hx hm=>?_,λbx Z=>?_,λi hx ak=>?_⟩,by simp only[Af];omega⟩
   ·rw[aI x (λe=>hm (by simp[e])),ab.2 x (by omega) λap=>hm (by simp only[Av];exact .inr (.inr (zew.2 ⟨j,aa,ap⟩)))]
    exact an x hx hm
   ·simp at Z;subst Z
    exact⟨aO,by rw[zcg (by show j*4+1<=cs'.size;omega)];exact au⟩
   ·rw[zih (by show j*4+1<=cs'.size;omega) (by right;show j*4+1<=i*4;omega)]
    have oi:=todo i hx (by omega)
    refine oi.frame λx af=>?_
    rw[aI x (λe=>(aj i hx x af).2.1 (by simp[e])),ab.2 x (oi.lt x af) λap=>nf.2 j i (by omega) hx x ap x af rfl]
 ·refine hK g' ⟨by omega,λx hx hm=>?_⟩
  rw[an x (by omega) hm];exact k1.get x hx
end
end Go.X
end
section
namespace Go.X
open Go Go.X Go.Proofs Go.RowKit
set_option maxRecDepth 100000 in
set_option maxHeartbeats 2000000 in
section
theorem znc{gl:Fr}(hg:GL gl)(aO:PC Tp gl 13 [] [.bool] (λr=>r=true))(s:Bs):PC Tp gl 3 [Arg.mk .str (bl s)] [.bool] (λr=>r=true):=by
 intro h M vs hM ag ha
 match vs,ha with
 |[u1],⟨a1,_⟩=>
  obtain rfl:=xp (s:=bl s) a1
  apply PX.of
  apply Js
  refine aO.go hM ag jq λv h2 M2 r L2 hv hr=>⟨r,zz5 hv,?_⟩
  have hr:r=true:=hr
  subst hr
  have aB:∀h',Keep h.size h h'->∃M' r,Later h M h' M'/\zco M' [.bool] r (.bool true)/\r=true:=λh' k=>⟨M,true,Later.same ag k,zsn.2 (rdBool true),rfl⟩
  refine⟨λ_=>aB h2 L2.keep,λ_=>?_⟩
  refine z3s hg (hM.trans L2.le) L2.ag λh5 b1 k1 i1 K5 ax br=>⟨_,_,k1,i1,_,_,rfl,?_⟩
  intro aj
  have aV:Keep h5.size h5 aj:=Keep.push _ _ (Ac _)
  have bq:aj.size=h5.size+1:=Al _
  have aN:Blk aj h5.size #[.int .i64 0,.string ⟨#[]⟩,.slice none 0 0,.slice none 0 0]:=Blk.new _ _ _
  clear_value aj
  refine Zf aN λab a7 bg a8=>?_
  have ak:Keep h5.size h5 ab:=⟨by omega,λj hj=>(a7 j (by omega)).trans (aV.get j hj)⟩
  have z5:=K5.size
  have z2:=L2.keep.size
  have an:Keep h.size h ab:=⟨by omega,λj hj=>by rw[ak.get j (by omega),K5.get j (by omega),L2.keep.get j hj]⟩
  have aA:=ax.frame (h':=ab) λc hc=>ak.get c (ax.lt c hc)
  have aY:=λc hc=>ax.lt c hc
  refine⟨λi g=>∃n:Nat,i=(n:Int)/\n<=2/\Keep ab.size ab g,λi _=>2-i.toNat,⟨0,rfl,by omega,Keep.refl _ _⟩,?_⟩
  rintro i h17 ⟨n,rfl,hn,ay⟩
  have aP:=ay.size
  have ap:Keep h.size h h17:=an.trans (c:=h17) (m:=h.size) ⟨aP,λj hj=>ay.get j (by omega)⟩ (Ac _)
  have aI:=ag.keep ap
  refine⟨λaH=>?_,λ_=>aB h17 ap⟩
  have aH:n<2:=by have:=of_decide_eq_true aH;omega
  refine z0n hg hM aI λaa b2 k2 i2 aJ au aS=>⟨_,_,k2,i2,_,_,rfl,?_⟩
  have bj:=aJ.size
  intro ah
  have aU:Keep aa.size aa ah:=Keep.push _ _ (Ac _)
  have bi:ah.size=aa.size+1:=Al _
  have be:Blk ah aa.size #[.int .i64 0,.string ⟨#[]⟩,.slice none 0 0,.slice none 0 0]:=Blk.new _ _ _
  clear_value ah
  refine Zf be λae aZ bh aC=>⟨_,_,k2,i2,aC.ld (cs:=[_,_,slV k2,slV i2]),?_⟩
  have af:Keep aa.size aa ae:=⟨by omega,λj hj=>(aZ j (by omega)).trans (aU.get j hj)⟩
  have Z:Keep ab.size ab ae:=⟨by omega,λj hj=>by rw[af.get j (by omega),aJ.get j (by omega),ay.get j hj]⟩
  have aE:Keep h.size h ae:=an.trans (c:=ae) (m:=h.size) ⟨Z.size,λj hj=>Z.get j (by omega)⟩ (Ac _)
  have ar:=ag.keep aE
  have aM:=aA.frame (h':=ae) λc hc=>Z.get c (by have:=aY c hc;omega)
  have am:=au.frame (h':=ae) λc hc=>af.get c (au.lt c hc)
  have V1:=a8.keep (Z.get h5.size (by omega))
  refine⟨_,_,k1,i1,V1.ld (cs:=[_,_,slV k1,slV i1]),?_⟩
  have aF:=MxL.ag ar b1
  have aQ:=MxL.ag aF b2
  have aT:=zch ar b1
  have aL:=zch aF b2
  refine(zv9 (gl:=gl) (Zd s).1 (Zd s).1 (R:=λr=>r=true) λr hr=>hr.2 rfl).go (hM.trans (aT.trans aL)) aQ (yr (a:=Arg.mk .tree _) am.rdv (yr (a:=Arg.mk .tree _) (RdV.mono aL aM.rdv) jq)) λv a6 bm r ai hv hr=>⟨r,zz5 hv,?_⟩
  have hr:r=true:=hr
  subst hr
  have bo:=ai.keep.size
  have ba:=aC.keep (ai.keep.get aa.size (by omega))
  have aG:=am.frame (h':=a6) λc hc=>ai.keep.get c (by have:=au.lt c hc;omega)
  refine⟨_,_,k2,i2,ba.ld (cs:=[_,_,slV k2,slV i2]),?_⟩
  refine zzs _ (Zd s).1 (Ac _) aG λbn az=>⟨rfl,λhc=>?_,λhc=>?_⟩
  ·simp at hc
  ·refine⟨⟨n+1,by rw[w64 (by omega)];omega,by omega,⟨by have:=az.1;omega,λj hj=>?_⟩⟩,?_⟩
   ·rw[az.2 j (by omega) λhm=>by have:=aS j hm;omega,ai.keep.get j (by omega)]
    exact Z.get j hj
   ·show 2-(Aa .i64 ((n:Int)+1)).toNat<2-(n:Int).toNat
    rw[w64 (by omega)];omega
end
end Go.X
end
section
namespace Go.X
open Go Go.X Go.Proofs Go.RowKit
section
theorem z3z:Zd [32,91,49,46,48,44,32,34,92,117,48,48,54,49,34,93,32]=(.mk 5 (bl []) [] [.mk 3 (bl [49]) [] [],.mk 4 (bl [97]) [] []],17,0):=by kernel_rfl
theorem zpj:wv [123,34,97,34,58,91,49,44,50,93,125]=(([123,34,97,34,58,91,49,44,50,93,125],[(6,(0,11),(0,0),[1],[(1,10)]),(5,(5,10),(1,4),[2,3],[(6,7),(8,9)]),(3,(6,7),(0,0),[],[]),(3,(8,9),(0,0),[],[])]),11,0):=by kernel_rfl
end
end Go.X
end
section
namespace Go.X
section
theorem qbj:Ym (zo (Lib.itoa 1)).1=[49]:=by kernel_rfl
theorem zzt{l:List Bt}(h:l.length<=1000000)(h2:∀x∈l,x.size<=1048576):SL l:=⟨h,λx hx=>by rw[zh7];exact h2 x hx⟩
end
section
theorem zba(h:za)(R:Value->za->Prop)
  (H:XC Tp 15 #[.string (⟨#[32,91,49,46,48,44,32,34,92,117,48,48,54,49,34,93,32]⟩:Bt)] h (λb c=>∃d e f g i j,b=.tuple #[.agg #[.int .i64 d,.string e,slV f,slV g],.int .i64 i,.int .i64 j]/\let k:=c.push (.cells #[.int .i64 0,.string (⟨#[]⟩:Bt),.slice none 0 0,.slice none 0 0] 26);XRunU Tp (Aj 26 (.pointer (some ⟨c.size,0,none⟩)) (.agg #[.int .i64 d,.string e,slV f,slV g])) k (λl=>XC Tp 19 #[.string (⟨#[123,34,97,34,58,91,49,44,50,93,125]⟩:Bt)] l (λm n=>∃o p q r,m=.tuple #[.agg #[.string o,slV p],.int .i64 q,.int .i64 r]/\let s:=n.push (.cells #[.string (⟨#[]⟩:Bt),.slice none 0 0] 36);XRunU Tp (Aj 36 (.pointer (some ⟨n.size,0,none⟩)) (.agg #[.string o,slV p])) s (λt=>∃u v,zf t ⟨n.size,0,none⟩ 0 [.string u,slV v]/\let w:=t.push (.cells #[.string (⟨#[97]⟩:Bt),.string (⟨#[49]⟩:Bt)] 9);XC Tp 23 #[.agg #[.string u,slV v],.slice (some ⟨t.size,0,none⟩) 2 2] w (λx y=>∃z A,x=.tuple #[.int .i64 z,.bool A]/\∃B C,zf y ⟨n.size,0,none⟩ 0 [.string B,slV C]/\XC Tp 21 #[.agg #[.string B,slV C],.int .i64 3] y (λD E=>∃F G I J L,D=.tuple #[.agg #[.int .i64 F,.string G,slV I,slV J],.bool L]/\let M:=E.push (.cells #[.int .i64 0,.string (⟨#[]⟩:Bt),.slice none 0 0,.slice none 0 0] 26);XRunU Tp (Aj 26 (.pointer (some ⟨E.size,0,none⟩)) (.agg #[.int .i64 F,.string G,slV I,slV J])) M (λN=>(∃O P Q S,((bif (j==0)then(i==17)else false)=true->zf N ⟨c.size,0,none⟩ 0 [.int .i64 O,.string P,slV Q,slV S])/\∃T:Value->za->Prop,((bif (j==0)then(i==17)else false)=true->XC Tp 58 #[.int .i64 1] N (λU V=>∃W X Y Z,U=.agg #[.int .i64 W,.string X,slV Y,slV Z]/\T (.agg #[.int .i64 W,.string X,slV Y,slV Z]) V))/\((bif (j==0)then(i==17)else false)=false->∃aa ab ac ad,T (.agg #[.int .i64 aa,.string ab,slV ac,slV ad]) N)/\((bif (j==0)then(i==17)else false)=true->∀ae af,T ae af->∃ag ah ai aj,ae=.agg #[.int .i64 ag,.string ah,slV ai,slV aj])/\∀ak:Int,∀al:Bt,∀am an:Sl,∀ao,T (.agg #[.int .i64 ak,.string al,slV am,slV an]) ao->∃ap:Value->za->Prop,((bif (j==0)then(i==17)else false)=true->XC Tp 28 #[.string (⟨#[97]⟩:Bt)] ao (λaq ar=>∃au av aw ax,aq=.agg #[.int .i64 au,.string av,slV aw,slV ax]/\ap (.agg #[.int .i64 au,.string av,slV aw,slV ax]) ar))/\((bif (j==0)then(i==17)else false)=false->∃ay az aA aB,ap (.agg #[.int .i64 ay,.string az,slV aA,slV aB]) ao)/\((bif (j==0)then(i==17)else false)=true->∀aC aD,ap aC aD->∃aE aF aG aH,aC=.agg #[.int .i64 aE,.string aF,slV aG,slV aH])/\∀aI:Int,∀aJ:Bt,∀aL aM:Sl,∀aN,ap (.agg #[.int .i64 aI,.string aJ,slV aL,slV aM]) aN->∃aO:Value->za->Prop,((bif (j==0)then(i==17)else false)=true->let aP:=aN.push (.cells #[.int .i64 ak,.string al,slV am,slV an,.int .i64 aI,.string aJ,slV aL,slV aM] 26);aO (.slice (some ⟨aN.size,0,none⟩) 2 2) aP)/\((bif (j==0)then(i==17)else false)=false->∃aQ,aO (slV aQ) aN)/\((bif (j==0)then(i==17)else false)=true->∀aS aT,aO aS aT->∃aU,aS=slV aU)/\∀aV:Sl,∀aW,aO (slV aV) aW->∃aX:Value->za->Prop,((bif (j==0)then(i==17)else false)=true->XC Tp 29 #[slV aV] aW (λaY aZ=>∃a0 a1 a2 a3,aY=.agg #[.int .i64 a0,.string a1,slV a2,slV a3]/\aX (.agg #[.int .i64 a0,.string a1,slV a2,slV a3]) aZ))/\((bif (j==0)then(i==17)else false)=false->∃a4 a5 a6 a7,aX (.agg #[.int .i64 a4,.string a5,slV a6,slV a7]) aW)/\((bif (j==0)then(i==17)else false)=true->∀a8 a9,aX a8 a9->∃ba bb bc bd,a8=.agg #[.int .i64 ba,.string bb,slV bc,slV bd])/\∀be:Int,∀bf:Bt,∀bg bh:Sl,∀bi,aX (.agg #[.int .i64 be,.string bf,slV bg,slV bh]) bi->∃bj:Value->za->Prop,((bif (j==0)then(i==17)else false)=true->XC Tp 16 #[.agg #[.int .i64 O,.string P,slV Q,slV S],.agg #[.int .i64 be,.string bf,slV bg,slV bh]] bi (λbk bl=>∃bm,bk=.bool bm/\bj (.bool bm) bl))/\((bif (j==0)then(i==17)else false)=false->∃bn,bj (.bool bn) bi)/\((bif (j==0)then(i==17)else false)=true->∀bo bp,bj bo bp->∃bq,bo=.bool bq)/\∀br:Bool,∀bs,bj (.bool br) bs->∃bt,((bif (bif (bif (bif (bif (bif (j==0)then(i==17)else false)then br else false)then(r==0)else false)then(z==3)else false)then A else false)then L else false)=true->zc bs (Ae ⟨E.size,0,none⟩ 1)=some (.string bt))/\R (.bool (bif (bif (bif (bif (bif (bif (bif (j==0)then(i==17)else false)then br else false)then(r==0)else false)then(z==3)else false)then A else false)then L else false)then(bt.toList==(⟨#[50]⟩:Bt).toList)else false)) bs)/\(∃bu:Value->za->Prop,((bif (j==0)then(i==17)else false)=true->XC Tp 58 #[.int .i64 1] N (λbv bw=>∃bx bz bA bB,bv=.agg #[.int .i64 bx,.string bz,slV bA,slV bB]/\bu (.agg #[.int .i64 bx,.string bz,slV bA,slV bB]) bw))/\((bif (j==0)then(i==17)else false)=false->∃bC bD bE bF,bu (.agg #[.int .i64 bC,.string bD,slV bE,slV bF]) N)/\((bif (j==0)then(i==17)else false)=true->∀bG bH,bu bG bH->∃bI bJ bL bM,bG=.agg #[.int .i64 bI,.string bJ,slV bL,slV bM])/\∀bN:Int,∀bO:Bt,∀bP bQ:Sl,∀bS,bu (.agg #[.int .i64 bN,.string bO,slV bP,slV bQ]) bS->(∃bT bU bV bW,((bif (j==0)then(i==17)else false)=true->zf bS ⟨c.size,0,none⟩ 0 [.int .i64 bT,.string bU,slV bV,slV bW])/\∃bX:Value->za->Prop,((bif (j==0)then(i==17)else false)=true->XC Tp 28 #[.string (⟨#[97]⟩:Bt)] bS (λbY bZ=>∃b0 b1 b2 b3,bY=.agg #[.int .i64 b0,.string b1,slV b2,slV b3]/\bX (.agg #[.int .i64 b0,.string b1,slV b2,slV b3]) bZ))/\((bif (j==0)then(i==17)else false)=false->∃b4 b5 b6 b7,bX (.agg #[.int .i64 b4,.string b5,slV b6,slV b7]) bS)/\((bif (j==0)then(i==17)else false)=true->∀b8 b9,bX b8 b9->∃ca cb cc cd,b8=.agg #[.int .i64 ca,.string cb,slV cc,slV cd])/\∀ce:Int,∀cf:Bt,∀cg ch:Sl,∀ci,bX (.agg #[.int .i64 ce,.string cf,slV cg,slV ch]) ci->∃cj:Value->za->Prop,((bif (j==0)then(i==17)else false)=true->let ck:=ci.push (.cells #[.int .i64 bN,.string bO,slV bP,slV bQ,.int .i64 ce,.string cf,slV cg,slV ch] 26);cj (.slice (some ⟨ci.size,0,none⟩) 2 2) ck)/\((bif (j==0)then(i==17)else false)=false->∃cl,cj (slV cl) ci)/\((bif (j==0)then(i==17)else false)=true->∀cm cn,cj cm cn->∃co,cm=slV co)/\∀cp:Sl,∀cq,cj (slV cp) cq->∃cr:Value->za->Prop,((bif (j==0)then(i==17)else false)=true->XC Tp 29 #[slV cp] cq (λcs ct=>∃cu cv cw cx,cs=.agg #[.int .i64 cu,.string cv,slV cw,slV cx]/\cr (.agg #[.int .i64 cu,.string cv,slV cw,slV cx]) ct))/\((bif (j==0)then(i==17)else false)=false->∃cy cz cA cB,cr (.agg #[.int .i64 cy,.string cz,slV cA,slV cB]) cq)/\((bif (j==0)then(i==17)else false)=true->∀cC cD,cr cC cD->∃cE cF cG cH,cC=.agg #[.int .i64 cE,.string cF,slV cG,slV cH])/\∀cI:Int,∀cJ:Bt,∀cL cM:Sl,∀cN,cr (.agg #[.int .i64 cI,.string cJ,slV cL,slV cM]) cN->∃cO:Value->za->Prop,((bif (j==0)then(i==17)else false)=true->XC Tp 16 #[.agg #[.int .i64 bT,.string bU,slV bV,slV bW],.agg #[.int .i64 cI,.string cJ,slV cL,slV cM]] cN (λcP cQ=>∃cS,cP=.bool cS/\cO (.bool cS) cQ))/\((bif (j==0)then(i==17)else false)=false->∃cT,cO (.bool cT) cN)/\((bif (j==0)then(i==17)else false)=true->∀cU cV,cO cU cV->∃cW,cU=.bool cW)/\∀cX:Bool,∀cY,cO (.bool cX) cY->∃cZ,((bif (bif (bif (bif (bif (bif (j==0)then(i==17)else false)then cX else false)then(r==0)else false)then(z==3)else false)then A else false)then L else false)=true->zc cY (Ae ⟨E.size,0,none⟩ 1)=some (.string cZ))/\R (.bool (bif (bif (bif (bif (bif (bif (bif (j==0)then(i==17)else false)then cX else false)then(r==0)else false)then(z==3)else false)then A else false)then L else false)then(cZ.toList==(⟨#[50]⟩:Bt).toList)else false)) cY)/\(∃c0:Value->za->Prop,((bif (j==0)then(i==17)else false)=true->XC Tp 28 #[.string (⟨#[97]⟩:Bt)] bS (λc1 c2=>∃c3 c4 c5 c6,c1=.agg #[.int .i64 c3,.string c4,slV c5,slV c6]/\c0 (.agg #[.int .i64 c3,.string c4,slV c5,slV c6]) c2))/\((bif (j==0)then(i==17)else false)=false->∃c7 c8 c9 da,c0 (.agg #[.int .i64 c7,.string c8,slV c9,slV da]) bS)/\((bif (j==0)then(i==17)else false)=true->∀db dc,c0 db dc->∃dd de df dg,db=.agg #[.int .i64 dd,.string de,slV df,slV dg])/\∀dh:Int,∀di:Bt,∀dj dk:Sl,∀dl,c0 (.agg #[.int .i64 dh,.string di,slV dj,slV dk]) dl->(∃dm dn dp dq,((bif (j==0)then(i==17)else false)=true->zf dl ⟨c.size,0,none⟩ 0 [.int .i64 dm,.string dn,slV dp,slV dq])/\∃dr:Value->za->Prop,((bif (j==0)then(i==17)else false)=true->let ds:=dl.push (.cells #[.int .i64 bN,.string bO,slV bP,slV bQ,.int .i64 dh,.string di,slV dj,slV dk] 26);dr (.slice (some ⟨dl.size,0,none⟩) 2 2) ds)/\((bif (j==0)then(i==17)else false)=false->∃dt,dr (slV dt) dl)/\((bif (j==0)then(i==17)else false)=true->∀du dv,dr du dv->∃dw,du=slV dw)/\∀dx:Sl,∀dy,dr (slV dx) dy->∃dz:Value->za->Prop,((bif (j==0)then(i==17)else false)=true->XC Tp 29 #[slV dx] dy (λdA dB=>∃dC dD dE dF,dA=.agg #[.int .i64 dC,.string dD,slV dE,slV dF]/\dz (.agg #[.int .i64 dC,.string dD,slV dE,slV dF]) dB))/\((bif (j==0)then(i==17)else false)=false->∃dG dH dI dJ,dz (.agg #[.int .i64 dG,.string dH,slV dI,slV dJ]) dy)/\((bif (j==0)then(i==17)else false)=true->∀dL dM,dz dL dM->∃dN dO dP dQ,dL=.agg #[.int .i64 dN,.string dO,slV dP,slV dQ])/\∀dS:Int,∀dT:Bt,∀dU dV:Sl,∀dW,dz (.agg #[.int .i64 dS,.string dT,slV dU,slV dV]) dW->∃dX:Value->za->Prop,((bif (j==0)then(i==17)else false)=true->XC Tp 16 #[.agg #[.int .i64 dm,.string dn,slV dp,slV dq],.agg #[.int .i64 dS,.string dT,slV dU,slV dV]] dW (λdY dZ=>∃d0,dY=.bool d0/\dX (.bool d0) dZ))/\((bif (j==0)then(i==17)else false)=false->∃d1,dX (.bool d1) dW)/\((bif (j==0)then(i==17)else false)=true->∀d2 d3,dX d2 d3->∃d4,d2=.bool d4)/\∀d5:Bool,∀d6,dX (.bool d5) d6->∃d7,((bif (bif (bif (bif (bif (bif (j==0)then(i==17)else false)then d5 else false)then(r==0)else false)then(z==3)else false)then A else false)then L else false)=true->zc d6 (Ae ⟨E.size,0,none⟩ 1)=some (.string d7))/\R (.bool (bif (bif (bif (bif (bif (bif (bif (j==0)then(i==17)else false)then d5 else false)then(r==0)else false)then(z==3)else false)then A else false)then L else false)then(d7.toList==(⟨#[50]⟩:Bt).toList)else false)) d6)/\(∃d8:Value->za->Prop,((bif (j==0)then(i==17)else false)=true->let d9:=dl.push (.cells #[.int .i64 bN,.string bO,slV bP,slV bQ,.int .i64 dh,.string di,slV dj,slV dk] 26);d8 (.slice (some ⟨dl.size,0,none⟩) 2 2) d9)/\((bif (j==0)then(i==17)else false)=false->∃ea,d8 (slV ea) dl)/\((bif (j==0)then(i==17)else false)=true->∀eb ec,d8 eb ec->∃ed,eb=slV ed)/\∀ee:Sl,∀ef,d8 (slV ee) ef->(∃eg eh ei ej,((bif (j==0)then(i==17)else false)=true->zf ef ⟨c.size,0,none⟩ 0 [.int .i64 eg,.string eh,slV ei,slV ej])/\∃ek:Value->za->Prop,((bif (j==0)then(i==17)else false)=true->XC Tp 29 #[slV ee] ef (λel em=>∃en eo ep eq,el=.agg #[.int .i64 en,.string eo,slV ep,slV eq]/\ek (.agg #[.int .i64 en,.string eo,slV ep,slV eq]) em))/\((bif (j==0)then(i==17)else false)=false->∃er es et eu,ek (.agg #[.int .i64 er,.string es,slV et,slV eu]) ef)/\((bif (j==0)then(i==17)else false)=true->∀ev ew,ek ev ew->∃ex ey ez eA,ev=.agg #[.int .i64 ex,.string ey,slV ez,slV eA])/\∀eB:Int,∀eC:Bt,∀eD eE:Sl,∀eF,ek (.agg #[.int .i64 eB,.string eC,slV eD,slV eE]) eF->∃eG:Value->za->Prop,((bif (j==0)then(i==17)else false)=true->XC Tp 16 #[.agg #[.int .i64 eg,.string eh,slV ei,slV ej],.agg #[.int .i64 eB,.string eC,slV eD,slV eE]] eF (λeH eI=>∃eJ,eH=.bool eJ/\eG (.bool eJ) eI))/\((bif (j==0)then(i==17)else false)=false->∃eL,eG (.bool eL) eF)/\((bif (j==0)then(i==17)else false)=true->∀eM eN,eG eM eN->∃eO,eM=.bool eO)/\∀eP:Bool,∀eQ,eG (.bool eP) eQ->∃eS,((bif (bif (bif (bif (bif (bif (j==0)then(i==17)else false)then eP else false)then(r==0)else false)then(z==3)else false)then A else false)then L else false)=true->zc eQ (Ae ⟨E.size,0,none⟩ 1)=some (.string eS))/\R (.bool (bif (bif (bif (bif (bif (bif (bif (j==0)then(i==17)else false)then eP else false)then(r==0)else false)then(z==3)else false)then A else false)then L else false)then(eS.toList==(⟨#[50]⟩:Bt).toList)else false)) eQ)/\(∃eT:Value->za->Prop,((bif (j==0)then(i==17)else false)=true->XC Tp 29 #[slV ee] ef (λeU eV=>∃eW eX eY eZ,eU=.agg #[.int .i64 eW,.string eX,slV eY,slV eZ]/\eT (.agg #[.int .i64 eW,.string eX,slV eY,slV eZ]) eV))/\((bif (j==0)then(i==17)else false)=false->∃e0 e1 e2 e3,eT (.agg #[.int .i64 e0,.string e1,slV e2,slV e3]) ef)/\((bif (j==0)then(i==17)else false)=true->∀e4 e5,eT e4 e5->∃e6 e7 e8 e9,e4=.agg #[.int .i64 e6,.string e7,slV e8,slV e9])/\∀fa:Int,∀fb:Bt,∀fc fd:Sl,∀fe,eT (.agg #[.int .i64 fa,.string fb,slV fc,slV fd]) fe->∃ff fg fh fi,((bif (j==0)then(i==17)else false)=true->zf fe ⟨c.size,0,none⟩ 0 [.int .i64 ff,.string fg,slV fh,slV fi])/\∃fj:Value->za->Prop,((bif (j==0)then(i==17)else false)=true->XC Tp 16 #[.agg #[.int .i64 ff,.string fg,slV fh,slV fi],.agg #[.int .i64 fa,.string fb,slV fc,slV fd]] fe (λfk fl=>∃fm,fk=.bool fm/\fj (.bool fm) fl))/\((bif (j==0)then(i==17)else false)=false->∃fn,fj (.bool fn) fe)/\((bif (j==0)then(i==17)else false)=true->∀fo fp,fj fo fp->∃fq,fo=.bool fq)/\∀fr:Bool,∀fs,fj (.bool fr) fs->∃ft,((bif (bif (bif (bif (bif (bif (j==0)then(i==17)else false)then fr else false)then(r==0)else false)then(z==3)else false)then A else false)then L else false)=true->zc fs (Ae ⟨E.size,0,none⟩ 1)=some (.string ft))/\R (.bool (bif (bif (bif (bif (bif (bif (bif (j==0)then(i==17)else false)then fr else false)then(r==0)else false)then(z==3)else false)then A else false)then L else false)then(ft.toList==(⟨#[50]⟩:Bt).toList)else false)) fs)))))))))))):
  XC Tp 13 #[] h R:=
 XF ⟨[(5,8000)],[],[]⟩ [.tmp 0] 65 Tryz.func13 H
end
section
theorem zpk(gl:Fr)(Z:Bt)(R:Tr->Prop)
  (H:R (Tr.mk 4 Z [] [])):
  PC Tp gl 28 [Arg.mk .str Z] [.tree] R:=
 PF ⟨[],[],[],[]⟩ [.cell 2 26] 5 Tryz.func28 H
end
end Go.X
end
section
namespace Go.X
open Go Go.X Go.Proofs Go.RowKit
section
variable {k k':Int} {s s':Bt} {a b a' b':Sl} {f:FuncId} {args:Array Value} {h:za} {g:Bool} {M:Fr}
def trV(k:Int)(s:Bt)(a b:Sl):Value:=.agg #[.int .i64 k,.string s,slV a,slV b]
theorem z4a(h:trV k s a b=trV k' s' a' b'):k=k'/\s=s'/\a=a'/\b=b':=by
 unfold trV slV at h
 injection h with h
 simp only[Array.mk.injEq,BP,and_true]at h
 obtain⟨h1,h2,h3,h4⟩:=h
 injection h1 with _ h1
 injection h2 with h2
 injection h3 with e1 e2 e3
 injection h4 with f1 f2 f3
 refine⟨h1,h2,?_,?_⟩
 ·cases a;cases a';simp_all
 ·cases b;cases b';simp_all
theorem Xz(hg:g=true){Kt:Int->Bt->Sl->Sl->za->Prop}(E:XC Tp f args h λv h'=>∃k s a b,v=trV k s a b/\Kt k s a b h'):
  ∃J:Value->za->Prop,(g=true->XC Tp f args h λv h'=>∃k:Int,∃s:Bt,∃a:Sl,∃b:Sl,v=trV k s a b/\J (trV k s a b) h')/\(g=false->∃k:Int,∃s:Bt,∃a:Sl,∃b:Sl,J (trV k s a b) h) /\
   (g=true->∀v h',J v h'->∃k:Int,∃s:Bt,∃a:Sl,∃b:Sl,v=trV k s a b)/\∀k:Int,∀s:Bt,∀a:Sl,∀b:Sl,∀h',J (trV k s a b) h'->Kt k s a b h':=by
 refine⟨λv h'=>∃k s a b,v=trV k s a b/\Kt k s a b h',λ_=>XC.mono E λv h' ⟨k,s,a,b,e,H⟩=>⟨k,s,a,b,e,k,s,a,b,rfl,H⟩,λhx=>(by rw[hg]at hx;cases hx),λ_ v h' ⟨k,s,a,b,e,_⟩=>⟨k,s,a,b,e⟩,λk s a b h' ⟨k',s',a',b',e,H⟩=>?_⟩
 obtain⟨rfl,rfl,rfl,rfl⟩:=z4a e
 exact H
theorem znd(hg:g=true){Kt:Bool->za->Prop}(E:XC Tp f args h λv h'=>∃r,v=.bool r/\Kt r h'):
  ∃J:Value->za->Prop,(g=true->XC Tp f args h λv h'=>∃r:Bool,v=.bool r/\J (.bool r) h')/\(g=false->∃r:Bool,J (.bool r) h)/\(g=true->∀v h',J v h'->∃r:Bool,v=.bool r)/\∀r:Bool,∀h',J (.bool r) h'->Kt r h':=by
 refine⟨λv h'=>∃r,v=.bool r/\Kt r h',λ_=>XC.mono E λv h' ⟨r,e,H⟩=>⟨r,e,r,rfl,H⟩,λhx=>(by rw[hg]at hx;cases hx),λ_ v h' ⟨r,e,_⟩=>⟨r,e⟩,λr h' ⟨r',e,H⟩=>?_⟩
 injection e with e
 subst e;exact H
theorem zzu{h h1:za}{s:Sl}(hg:g=true){Kt:Sl->za->Prop}(E:Kt s h1):
  ∃J:Value->za->Prop,(g=true->J (slV s) h1)/\(g=false->∃x:Sl,J (slV x) h)/\(g=true->∀v h',J v h'->∃x:Sl,v=slV x)/\∀x:Sl,∀h',J (slV x) h'->Kt x h':=by
 refine⟨λv h'=>∃x,v=slV x/\Kt x h',λ_=>⟨s,rfl,E⟩,λhx=>(by rw[hg]at hx;cases hx),λ_ v h' ⟨x,e,_⟩=>⟨x,e⟩,λx h' ⟨x',e,H⟩=>?_⟩
 have:x=x':=by
  unfold slV at e
  injection e with e1 e2 e3
  cases x;cases x';simp_all
 subst this;exact H
theorem qai{b:Nat}(hb:M b=none){t1 t2:Tr}{w1 w2:List Value}(h1:Rd M .tree t1 w1)(h2:Rd M .tree t2 w2)(l1:w1.length=4)(l2:w2.length=4):Rd (Mx M b (w1++w2).toArray) (.row .tree) [t1,t2] [slV ⟨some ⟨b,0,none⟩,2,2⟩]:=by
 have le:Fr.le M (Mx M b (w1++w2).toArray):=λc cs e=>by
  unfold Mx
  by_cases hc:c=b
  ·subst hc;rw[hb]at e;cases e
  ·rw[if_neg hc];exact e
 refine⟨_,rfl,_,_,rfl,by simp,.inr ⟨b,0,_,rfl,by unfold Mx;rw[if_pos rfl],λi hi=>?_⟩⟩
 have hi:i<2:=hi
 rcases(by omega:i=0\/i=1)with rfl|rfl
 ·have:cut (w1++w2).toArray (0+0*sz .tree) (sz .tree)=w1:=by
   show List.take 4 (List.drop 0 (w1++w2))=w1
   rw[BB,<-l1,Dq]
  rw[this];exact Rd.mono le h1
 ·have:cut (w1++w2).toArray (0+1*sz .tree) (sz .tree)=w2:=by
   show List.take 4 (List.drop 4 (w1++w2))=w2
   rw[List.drop_left' l1,<-l2,BD]
  rw[this];exact Rd.mono le h2
theorem qaj{b:Nat}{s1 s2:Bt}:Rd (Mx M b #[.string s1,.string s2]) (.row .str) [s1,s2] [slV ⟨some ⟨b,0,none⟩,2,2⟩]:=by
 refine⟨_,rfl,_,_,rfl,by simp,.inr ⟨b,0,_,rfl,by unfold Mx;rw[if_pos rfl],λi hi=>?_⟩⟩
 have hi:i<2:=hi
 rcases(by omega:i=0\/i=1)with rfl|rfl <;> rfl
theorem zxj{b:Bool}{w:Value}(h:RdV M .bool b w):w=.bool b:=by
 rw[ztk rfl]at h;simpa[Rd]using h
theorem zxk{T:Tr}(h:RdV M .tree T (trV k s a b)):Rd M .tree T [.int .i64 k,.string s,slV a,slV b]:=by
 unfold RdV at h
 simp only[zlj,if_true]at h
 obtain⟨cs,e,hr⟩:=h
 unfold trV at e
 injection e with e
 have:cs=[.int .i64 k,.string s,slV a,slV b]:=by have:=congrArg Array.toList e;simpa using this.symm
 rw[<-this];exact hr
def smA:Tr:=.mk 5 (bl []) [] [.mk 3 (bl [49]) [] [],.mk 4 (bl [97]) [] []]
structure Cx (gl:Fr) (b2 b29:Nat) (k2 k29:Int) (s2:Bt) (a2 c2 a29 c29:Sl) (h:za) (M:Fr):Prop where
 hM:Fr.le gl M
 ag:AgM M h
 V:Blk h b2 #[.int .i64 k2,.string s2,slV a2,slV c2]
 rv:RdV M .tree smA (trV k2 s2 a2 c2)
 X:Blk h b29 #[.int .i64 k29,.string (bl [50]),slV a29,slV c29]
section
variable {gl : Fr} {b2 b29 : Nat} {k2 k29 : Int} {s2 : Bt} {a2 c2 a29 c29 : Sl} {h : za} {M : Fr}
theorem Cx.later(c:Cx gl b2 b29 k2 k29 s2 a2 c2 a29 c29 h M){h':za}{M':Fr}(L:Later h M h' M'):Cx gl b2 b29 k2 k29 s2 a2 c2 a29 c29 h' M':=
 ⟨c.hM.trans L.le,L.ag,c.V.keep (L.keep.get b2 c.V.lt),RdV.mono L.le c.rv,c.X.keep (L.keep.get b29 c.X.lt)⟩
theorem Cx.num(c:Cx gl b2 b29 k2 k29 s2 a2 c2 a29 c29 h M)(hg:GL gl){K:Int->Bt->Sl->Sl->za->Prop}(hK:∀k s a b h' M',Later h M h' M'->RdV M' .tree (.mk 3 (bl [49]) [] []) (trV k s a b)->K k s a b h'):XC Tp 58 #[.int .i64 1] h λv h'=>∃k s a b,v=trV k s a b/\K k s a b h':=by
 refine(z6h hg (n:=1) (by decide) (by decide) (R:=λr=>r=.mk 3 (bl [49]) [] []) (by rw[qbj])).go c.hM c.ag (yr (a:=Arg.mk (.int .i64) 1) (Wm _ _) jq) λv h' M' r L hv hr=>?_
 subst hr
 have rv:=zsn.1 hv
 obtain⟨a,b,rfl,_⟩:=zlz rv
 exact⟨_,_,a,b,rfl,hK _ _ _ _ _ _ L rv⟩
theorem Cx.of(c:Cx gl b2 b29 k2 k29 s2 a2 c2 a29 c29 h M){K:Int->Bt->Sl->Sl->za->Prop}(hK:∀k s a b h' M',Later h M h' M'->RdV M' .tree (.mk 4 (bl [97]) [] []) (trV k s a b)->K k s a b h'):XC Tp 28 #[.string ⟨#[97]⟩] h λv h'=>∃k s a b,v=trV k s a b/\K k s a b h':=by
 refine(show PC Tp gl 28 [Arg.mk .str ⟨#[97]⟩] [.tree] (λr=>r=.mk 4 (bl [97]) [] [])from by apply zpk;rfl).go c.hM c.ag (yr (a:=Arg.mk .str _) (rdStr _) jq) λv h' M' r L hv hr=>?_
 subst hr
 have rv:=zsn.1 hv
 obtain⟨a,b,rfl,_⟩:=zlz rv
 exact⟨_,_,a,b,rfl,hK _ _ _ _ _ _ L rv⟩
theorem Cx.row(c:Cx gl b2 b29 k2 k29 s2 a2 c2 a29 c29 h M){x:Sl}(hx:Rd M (.row .tree) [.mk 3 (bl [49]) [] [],.mk 4 (bl [97]) [] []] [slV x]){K:Int->Bt->Sl->Sl->za->Prop}(hK:∀k s a b h' M',Later h M h' M'->RdV M' .tree smA (trV k s a b)->K k s a b h'):XC Tp 29 #[slV x] h λv h'=>∃k s a b,v=trV k s a b/\K k s a b h':=by
 refine(z6g (gl:=gl) (l:=[.mk 3 (bl [49]) [] [],.mk 4 (bl [97]) [] []]) (R:=λr=>r=smA) rfl).go c.hM c.ag (yr (a:=Arg.mk (.row .tree) _) ((ztk rfl).2 hx) jq) λv h' M' r L hv hr=>?_
 subst hr
 have rv:=zsn.1 hv
 obtain⟨a,b,rfl,_⟩:=zlz rv
 exact⟨_,_,a,b,rfl,hK _ _ _ _ _ _ L rv⟩
theorem Cx.eq(c:Cx gl b2 b29 k2 k29 s2 a2 c2 a29 c29 h M)(hx:RdV M .tree smA (trV k s a b)){K:Bool->za->Prop}(hK:∀h' M',Later h M h' M'->K true h'):XC Tp 16 #[trV k2 s2 a2 c2,trV k s a b] h λv h'=>∃r,v=.bool r/\K r h':=by
 refine(zv9 (gl:=gl) smA smA (R:=λr=>r=true) λr hr=>hr.2 rfl).go c.hM c.ag (yr (a:=Arg.mk .tree _) c.rv (yr (a:=Arg.mk .tree _) hx jq)) λv h' M' r L hv hr=>?_
 have hr:r=true:=hr
 subst hr
 exact⟨true,zz5 hv,hK _ _ L⟩
theorem Cx.lit(c:Cx gl b2 b29 k2 k29 s2 a2 c2 a29 c29 h M){T:TypeId}(h1:RdV M .tree (.mk 3 (bl [49]) [] []) (trV k s a b))(h2:RdV M .tree (.mk 4 (bl [97]) [] []) (trV k' s' a' b')):
  ∃M',Later h M (h.push (.cells #[.int .i64 k,.string s,slV a,slV b,.int .i64 k',.string s',slV a',slV b'] T)) M'/\Rd M' (.row .tree) [.mk 3 (bl [49]) [] [],.mk 4 (bl [97]) [] []] [slV ⟨some ⟨h.size,0,none⟩,2,2⟩]:=by
 refine⟨_,Later.frz c.ag _ T,qai (w1:=[_,_,_,_]) (w2:=[_,_,_,_]) ?_ (zxk h1) (zxk h2) rfl rfl⟩
 cases e:M h.size with
 |none=>rfl
 |some cs=>have:=c.ag.lt e;omega
end
def tb9:Bs:=[123,34,97,34,58,91,49,44,50,93,125]
def ns9:List Nd:=[(6,(0,11),(0,0),[1],[(1,10)]),(5,(5,10),(1,4),[2,3],[(6,7),(8,9)]),(3,(6,7),(0,0),[],[]),(3,(8,9),(0,0),[],[])]
theorem at9:atR tb9 ns9 [⟨#[97]⟩,⟨#[49]⟩]=(3,true):=by kernel_rfl
theorem nd9:z3t tb9 ns9 3=(.mk 3 (bl [50]) [] [],true):=by kernel_rfl
theorem qak{t:Bs}{nodes:List Nd}{sl:Sl}(h:Rd M (.row tNd) nodes [slV sl]):RdV M zng (bl t,nodes) (.agg #[.string (bl t),slV sl]):=⟨[.string (bl t),slV sl],rfl,[_],[_],rfl,rfl,h⟩
set_option maxRecDepth 100000 in
set_option maxHeartbeats 4000000 in
theorem zxl{gl:Fr}(hg:GL gl):PC Tp gl 13 [] [.bool] (λr=>r=true):=by
 intro h M vs hM ag ha
 match vs,ha with
 |[],_=>
 apply PX.of
 apply zba
 refine(z3v hg (s:=[32,91,49,46,48,44,32,34,92,117,48,48,54,49,34,93,32]) (R:=λr=>r=(smA,17,0)) z3z).go hM ag (yr (a:=Arg.mk .str _) (rdStr _) jq) λv1 h2 M2 r L2 hv hr=>?_
 subst hr
 obtain⟨_,⟨u1,_,rfl,hx,u2,_,rfl,hy,u3,rfl,hz⟩,rfl⟩:=hv
 obtain⟨sk,si,rfl,_⟩:=zlz hx
 obtain rfl:=qs hy
 obtain rfl:=qs hz
 refine⟨_,_,sk,si,_,_,rfl,?_⟩
 have aY:=hM.trans L2.le
 intro h9
 have k9:Keep h2.size h2 h9:=Keep.push _ _ (Ac _)
 have z9:h9.size=h2.size+1:=Al _
 have V9:Blk h9 h2.size #[.int .i64 0,.string ⟨#[]⟩,.slice none 0 0,.slice none 0 0]:=Blk.new _ _ _
 clear_value h9
 refine Zf V9 λbn bV dv bI=>?_
 have cc:Keep h2.size h2 bn:=⟨by omega,λj hj=>(bV j (by omega)).trans (k9.get j hj)⟩
 have ak:=Later.same L2.ag cc
 refine(zm6 hg (s:=tb9) (R:=λr=>r=((bl tb9,ns9),11,0)) (by rw[show wv tb9=_ from zpj];rfl)).go aY ak.ag (yr (a:=Arg.mk .str _) (rdStr _) jq) λv ab am r aa hv hr=>?_
 subst hr
 obtain⟨sl,rfl,rd⟩:=z3r (x:=(tb9,ns9)) hv
 refine⟨_,sl,_,_,rfl,?_⟩
 have dt:=aa.keep.size
 have bm:=bI.keep (aa.keep.get h2.size (by omega))
 have aB:=aY.trans aa.le
 intro ap
 have cb:Keep ab.size ab ap:=Keep.push _ _ (Ac _)
 have cm:ap.size=ab.size+1:=Al _
 have bH:Blk ap ab.size #[.string ⟨#[]⟩,.slice none 0 0]:=Blk.new _ _ _
 clear_value ap
 refine Zr (u:=bl tb9) (v:=sl) bH λay bT du bg=>?_
 have aJ:Keep ab.size ab ay:=⟨by omega,λj hj=>(bT j (by omega)).trans (cb.get j hj)⟩
 have bz:=bm.keep (aJ.get h2.size (by omega))
 refine⟨_,sl,bg.ld (cs:=[.string _,slV sl]),?_⟩
 intro au
 have Z:Later ay am au (Mx am ay.size #[.string ⟨#[97]⟩,.string ⟨#[49]⟩]):=Later.frz (aa.ag.keep aJ) _ _
 have cV:au.size=ay.size+1:=Al _
 clear_value au
 have bP:=bg.keep (Z.keep.get ab.size (by omega))
 have br:=bz.keep (Z.keep.get h2.size (by omega))
 have he:(wv tb9).2.2=0:=by rw[show wv tb9=_ from zpj]
 obtain⟨lvs,G,_,_,_,_⟩:=zgf he
 have bM:(wv tb9).1.2=ns9:=by rw[show wv tb9=_ from zpj];rfl
 rw[bM]at G
 have aN:∀x∈ns9,x.2.2.2.1.length<=200000:=by decide
 have a8:∀{M':Fr},Fr.le am M'->RdV M' zng (bl tb9,ns9) (.agg #[.string (bl tb9),slV sl]):=λle=>qak (rd.mono le)
 refine(qah hg (t:=tb9) (by decide) G (λ_=>rfl) aN (p:=[⟨#[97]⟩,⟨#[49]⟩]) (zzt (by decide) (by decide)) (R:=λr=>r=(3,true)) at9).go (aB.trans Z.le) Z.ag (yr (a:=Arg.mk zng _) (a8 Z.le) (yr (a:=Arg.mk (.row .str) _) ((ztk rfl).2 qaj) jq)) λv cn co r ae hv hr=>?_
 subst hr
 obtain⟨_,⟨u1,_,rfl,aG,u2,rfl,aF⟩,rfl⟩:=hv
 obtain rfl:=qs aG
 obtain rfl:=zxj aF
 refine⟨_,_,rfl,?_⟩
 have cJ:=ae.keep.size
 have bB:=bP.keep (ae.keep.get ab.size (by omega))
 have bA:=br.keep (ae.keep.get h2.size (by omega))
 have aA:=(aB.trans Z.le).trans ae.le
 refine⟨_,sl,bB.ld (cs:=[.string _,slV sl]),?_⟩
 refine(z3u hg (t:=tb9) (by decide) G aN (k:=3) (R:=λr=>r=(.mk 3 (bl [50]) [] [],true)) nd9).go aA ae.ag (yr (a:=Arg.mk zng _) (a8 (Z.le.trans ae.le)) (yr (a:=Arg.mk (.int .i64) 3) (Wm _ _) jq)) λv af aH r ah hv hr=>?_
 subst hr
 obtain⟨_,⟨u1,_,rfl,aG,u2,rfl,aF⟩,rfl⟩:=hv
 obtain⟨xk,xi,rfl,_⟩:=zlz aG
 obtain rfl:=zxj aF
 refine⟨_,_,xk,xi,_,rfl,?_⟩
 have dx:=ah.keep.size
 have bD:=bA.keep (ah.keep.get h2.size (by omega))
 have be:=aA.trans ah.le
 intro ax
 have bQ:Keep af.size af ax:=Keep.push _ _ (Ac _)
 have cP:ax.size=af.size+1:=Al _
 have bq:Blk ax af.size #[.int .i64 0,.string ⟨#[]⟩,.slice none 0 0,.slice none 0 0]:=Blk.new _ _ _
 clear_value ax
 refine Zf bq λar ca cQ b8=>?_
 have ba:Keep af.size af ar:=⟨by omega,λj hj=>(ca j (by omega)).trans (bQ.get j hj)⟩
 have bU:=bD.keep (ba.get h2.size (by omega))
 have aV:Later h M ab am:=L2.trans (ak.trans aa)
 have aC:Later h M ar aH:=aV.trans ((Later.same aa.ag aJ).trans (Z.trans (ae.trans (ah.trans (Later.same ah.ag ba)))))
 have c:Cx gl h2.size af.size _ _ _ sk si xk xi ar aH:=⟨be,aC.ag,bU,RdV.mono (aa.le.trans (Z.le.trans (ae.le.trans ah.le))) hx,b8⟩
 have hR:∀{h':za} {M':Fr},Later ar aH h' M'->∃M' r,Later h M h' M'/\zco M' [.bool] r (.bool true)/\r=true:=λL=>⟨_,true,aC.trans L,zsn.2 (rdBool true),rfl⟩
 refine⟨?_,?_⟩
 ·refine⟨_,_,_,_,λ_=>c.V.ld (cs:=[_,_,slV _,slV _]),?_⟩
  refine Xz rfl (c.num hg λk2 s2 a2 b2 h2 M2 L2 q2=>?_)
  have c2:=c.later L2
  refine Xz rfl (c2.of λk3 s3 a3 b3 h3 M3 L3 q3=>?_)
  have c3:=c2.later L3
  have bY:=RdV.mono L3.le q2
  obtain⟨M4,L4,q4⟩:=c3.lit (T:=26) bY q3
  have c4:=c3.later L4
  refine zzu (s:=⟨some ⟨_,0,none⟩,2,2⟩) rfl ?_
  refine Xz rfl (c4.row q4 λk5 s5 a5 b5 h5 M5 L5 q5=>?_)
  have c5:=c4.later L5
  refine znd rfl (c5.eq q5 λh6 M6 L6=>?_)
  have c6:=c5.later L6
  refine⟨⟨#[50]⟩,λ_=>c6.X.cell (o:=1) rfl,?_⟩
  simp only[beq_self_eq_true,cond_true]
  exact hR (L2.trans (L3.trans (L4.trans (L5.trans (L6)))))
 ·refine Xz rfl (c.num hg λk7 s7 a7 b7 h7 M7 L7 q7=>?_)
  have c7:=c.later L7
  refine⟨?_,?_⟩
  ·refine⟨_,_,_,_,λ_=>c7.V.ld (cs:=[_,_,slV _,slV _]),?_⟩
   refine Xz rfl (c7.of λk9 s9 a9 b9 h9 M9 L9 q9=>?_)
   have c9:=c7.later L9
   have bC:=RdV.mono L9.le q7
   obtain⟨cO,ak,bO⟩:=c9.lit (T:=26) bC q9
   have aM:=c9.later ak
   refine zzu (s:=⟨some ⟨_,0,none⟩,2,2⟩) rfl ?_
   refine Xz rfl (aM.row bO λcA cB ck cy dA cd aS bJ=>?_)
   have aZ:=aM.later aS
   refine znd rfl (aZ.eq bJ λab am aa=>?_)
   have bS:=aZ.later aa
   refine⟨⟨#[50]⟩,λ_=>bS.X.cell (o:=1) rfl,?_⟩
   simp only[beq_self_eq_true,cond_true]
   exact hR (L7.trans (L9.trans (ak.trans (aS.trans (aa)))))
  ·refine Xz rfl (c7.of λdq cj cG cq dh dy an aO=>?_)
   have aj:=c7.later an
   have az:=RdV.mono an.le q7
   refine⟨?_,?_⟩
   ·refine⟨_,_,_,_,λ_=>aj.V.ld (cs:=[_,_,slV _,slV _]),?_⟩
    obtain⟨da,bh,bE⟩:=aj.lit (T:=26) az aO
    have bi:=aj.later bh
    refine zzu (s:=⟨some ⟨_,0,none⟩,2,2⟩) rfl ?_
    refine Xz rfl (bi.row bE λcu cp c8 de dl df aQ bu=>?_)
    have aP:=bi.later aQ
    refine znd rfl (aP.eq bu λap cF aL=>?_)
    have bL:=aP.later aL
    refine⟨⟨#[50]⟩,λ_=>bL.X.cell (o:=1) rfl,?_⟩
    simp only[beq_self_eq_true,cond_true]
    exact hR (L7.trans (an.trans (bh.trans (aQ.trans (aL)))))
   ·obtain⟨cT,aI,a1⟩:=aj.lit (T:=26) az aO
    have ai:=aj.later aI
    refine zzu (s:=⟨some ⟨_,0,none⟩,2,2⟩) rfl ?_
    refine⟨?_,?_⟩
    ·refine⟨_,_,_,_,λ_=>ai.V.ld (cs:=[_,_,slV _,slV _]),?_⟩
     refine Xz rfl (ai.row a1 λcL cE cZ cz cY dz aU bF=>?_)
     have bj:=ai.later aU
     refine znd rfl (bj.eq bF λau cH Z=>?_)
     have bG:=bj.later Z
     refine⟨⟨#[50]⟩,λ_=>bG.X.cell (o:=1) rfl,?_⟩
     simp only[beq_self_eq_true,cond_true]
     exact hR (L7.trans (an.trans (aI.trans (aU.trans (Z)))))
    ·refine Xz rfl (ai.row a1 λdb cC dr cM di dm aT bZ=>?_)
     have aE:=ai.later aT
     refine⟨_,_,_,_,λ_=>aE.V.ld (cs:=[_,_,slV _,slV _]),?_⟩
     refine znd rfl (aE.eq bZ λcg dw a6=>?_)
     have bo:=aE.later a6
     refine⟨⟨#[50]⟩,λ_=>bo.X.cell (o:=1) rfl,?_⟩
     simp only[beq_self_eq_true,cond_true]
     exact hR (L7.trans (an.trans (aI.trans (aT.trans (a6)))))
end
section
theorem zxm{gl:Fr}(hg:GL gl){s:Bt}{R:Bool->Prop}(hR:R true):PC Tp gl 3 [Arg.mk .str s] [.bool] R:=by
 have:=(znc hg (zxl hg) (lb s)).mono (R':=R) λr hr=>(show r=true from hr) ▸ hR
 rw[zof]at this;exact this
end
end Go.X
end
