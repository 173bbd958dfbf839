/- A part of the proof: nothing is stated here for its own sake. -/
import Derived.Test.YtjohlemfgcmaoaaGreatDoorPuD
import Derived.Sort.KeysCollected
import Derived.Sort.OwnSorted
open _root_.Go.Addr renaming add->Ad
open _root_.Array renaming getElem?_eq_getElem->Bo,getElem?_eq_some_iff->An,getElem?_push->BV,getElem?_setIfInBounds_ne->AB,getElem?_toList->Ca,push->Cn,size->AZ,size_push->Aj,size_setIfInBounds->A0
open _root_.Bool renaming and_eq_false_iff->Cp,and_eq_true->Ao,eq_iff_iff->AM,false_or->Dw,or_eq_true->BK,true_and->Cc
open _root_.Go.Builtin renaming append_->Au,len_->CG
open _root_.Go.Instr renaming entry->Dk,keyThatStays->CY,mapUpdate->Ce,next->CW,range->Dx,storeAt->Af
open _root_.Int renaming toNat_natCast->Ag
open _root_.Go.IntKind renaming wrap->Aa
open _root_.List renaming all_eq_true->Av,all_map->DK,append_assoc->AH,append_nil->AR,cons_append->AD,drop_drop->BM,drop_eq_getElem_cons->Bw,drop_eq_nil_of_le->Br,drop_left->Dl,drop_zero->BQ,eq_nil_of_length_eq_zero->AO,exists_cons_of_ne_nil->Bq,ext_getElem?->Bu,filter_cons->BP,getElem?_eq_getElem->Ak,getElem?_eq_none->BH,getElem?_eq_some_iff->A1,getElem?_map->Bf,getElem?_modify->BF,getElem?_take->AK,getElem_map->CF,getElem_mem->AE,length->Cd,length_append->Ah,length_cons->Aq,length_drop->AI,length_eq_zero_iff->Bl,length_map->Ap,length_nil->A4,length_pos_iff->Bv,length_replicate->Co,length_singleton->Cq,length_take->AN,map_append->Bh,map_congr_left->Cy,map_cons->As,map_fst_zip->Dt,map_id->DY,map_map->A7,map_nil->Cb,mem_append->Aw,mem_cons->Ai,mem_cons_of_mem->Ae,mem_cons_self->Am,mem_flatMap->Cg,mem_map->AJ,mem_range->AU,mem_singleton->AY,nil_append->A8,nodup_append->Cw,nodup_cons->Ba,nodup_nil->C0,range->Bj,take_append_drop->B8,take_append_of_le_length->CH,take_left->Cu,take_length->A5,take_of_length_le->BE,take_succ_eq_append_getElem->Ay,take_take->DF,zip_cons_cons->BR
open _root_.List.cons renaming injEq->BN
open _root_.Nat renaming add_assoc->CP,add_mul->BZ,add_sub_cancel_left->CI,add_zero->CO,le_of_lt->Da,le_refl->Ab,le_trans->BX,lt_of_lt_of_le->CV,lt_or_ge->AX,min_eq_left->Cj,one_mul->Dn,strongRecOn->Dc,sub_self->Dr,succ_mul->CN,zero_add->AL,zero_le->AW
open _root_.Go.Next renaming value->C5
open _root_.Option renaming map_some->DU
open _root_.Option.some renaming inj->Az
open _root_.Go.Proofs.Tryz renaming prog->AF
open _root_.UInt8 renaming ofNat->Bb
open _root_.Go.Value renaming int->Bn,string->A3
open _root_.Go.Value.slice renaming injEq->AP
set_option linter.unusedVariables false
set_option maxRecDepth 100000
namespace Go.X
end Go.X
namespace Go.Proofs
end Go.Proofs
open Go Go.X Go.Proofs
open _root_.Bool renaming true->Ta,false->Tc
open _root_.Option renaming some->Td,none->Te
section
namespace Go.X
open Go Go.X Go.Proofs Go.RowKit
section
variable {M:Fr} {s:Bs} {g g':zb} {k a e lf:Int} {O:Nat -> Prop} {lo bp b c:Nat} {rs:Sl} {cs:Array Value}
theorem qgy{t:Ty}{x:El t}{xs:List (El t)}{s:Sl}(h:Rd M (.row t) (x::xs) [slV s]):Rd M (.row t) xs [slV ⟨ze7 s.a (sz t) 1 s.cap,s.len-1,s.cap-1⟩]:=by
 obtain⟨h1,r,p⟩:=rowLen h;rw[Aq]at h1 r p;refine⟨_,rfl,ze7 s.a (sz t) 1 s.cap,s.cap-1,?_,⟨by omega,by omega⟩,?_⟩;show slV _=_;unfold slV;rw[h1];rfl;by_cases n:xs=[];exact .inl n;have u:=Bv.2 n;obtain⟨b,o,cs,l,m,k⟩:∃b o cs,s.a=Td ⟨b,o,Te⟩/\M b=Td cs/\∀i (hi:i<(x::xs).length),Rd M t (x::xs)[i] (cut cs (o+i*sz t) (sz t)):=by obtain⟨w,e,a,c,q,y,f⟩:=h;simp only[BN,and_true]at e;subst e;simp only[slV,AP]at q;rcases f with f|⟨b,o,cs,l,m,k⟩;cases f;exact⟨b,o,cs,by rw[q.1,l],m,k⟩
 refine .inr ⟨b,o+sz t,cs,?_,m,λi hi=>?_⟩;unfold ze7;rw[if_neg (by omega),l,DU,qd,Dn];have:=k (i+1) (by simp;omega);rw[List.getElem_cons_succ]at this;rw[show o+sz t+i*sz t=o+(i+1)*sz t by rw[CN];omega];exact this
theorem qhk(ag:AgM M g){xs:List Tk}{s:Sl}(H:Rd M (.row tTk) xs [slV s]){k:Nat}(p:k<xs.length):∃b o,s.a=Td ⟨b,o,Te⟩/\zc g ⟨b,o+k*3,Te⟩=Td (.int .i64 xs[k].1)/\zc g ⟨b,o+k*3+1,Te⟩=Td (.int .i64 xs[k].2.1)/\zc g ⟨b,o+k*3+2,Te⟩=Td (.int .i64 xs[k].2.2):=by obtain⟨b,o,cs,q,r,n⟩:=Go.X.rowAt H p;refine⟨b,o,q,?_⟩;obtain⟨c1,c2,e,h1,c3,t,u,f,c⟩:=n;have h1:c1=[.int .i64 xs[k].1]:=h1;have f:c3=[.int .i64 xs[k].2.1]:=f;have c:t=[.int .i64 xs[k].2.2]:=c;subst h1 f c u;have e:cut cs (o+k*3) 3=ztf xs[k].1 xs[k].2.1 xs[k].2.2:=e;have L:=z4n (vs:=ztf xs[k].1 xs[k].2.1 xs[k].2.2) (o:=o+k*3) (i:=0) ag r (by rw[CO];exact e);obtain⟨l,h,m,_⟩:=L;rw[qd]at l h m;exact⟨l,h,m⟩
def ppC(s:Bs)(rs:Sl)(lf last:Int)(sl:Sl)(a e:Int):List Value:=[.string (bl s),slV rs,.int .i64 lf,.int .i64 last,slV sl,.int .i64 a,.int .i64 e]
def ppO(bp:Nat)(na:NA)(sl:Sl)(b c:Nat):Prop:=c=bp\/nsO na sl b c
structure PW (lo:Nat) (g:zb) (M:Fr) (bp:Nat) (s:Bs) (rest:List Tk) (last a e:Int) (rs:Sl) (lf:Int) (na:NA) (sl:Sl) (b:Nat) (cs:Array Value):Prop where
 blk:Blk g bp (ppC s rs lf last sl a e).toArray
 rd:Rd M (.row tTk) rest [slV rs]
 ns:NS lo g M na sl b cs
 ag:AgM M g
 bl:lo<=bp/\M bp=Te
 nb:¬nsO na sl b bp
def PaS(lo:Nat)(g:zb)(M:Fr)(bp:Nat)(s:Bs)(st:PSt)(a e:Int)(O:Nat->Prop):Prop:=
 ∃(rs:Sl) (lf:Int) (na:NA) (sl:Sl) (b:Nat) (cs:Array Value),PW lo g M bp s st.rest st.last a e rs lf na sl b cs/\na.map (·.1)=st.nodes/\O=ppO bp na sl b
structure Stp (g:zb) (O:Nat->Prop) (g':zb) (O':Nat->Prop):Prop where
 le:g.size<=g'.size
 sub:∀c,O' c->O c\/g.size<=c
 fr:∀j,j<g.size->¬O j->g'[j]?=g[j]?
theorem Stp.refl(g:zb)(O:Nat->Prop):Stp g O g O:=⟨Ab _,λc h=>.inl h,λj _ _=>rfl⟩
theorem Stp.trans{g g' e:zb}{O O' f:Nat->Prop}(a:Stp g O g' O')(b:Stp g' O' e f):Stp g O e f:=by have:=a.le;have:=b.le;refine⟨by omega,λc h=>?_,λj k i=>?_⟩;rcases b.sub c h with h|h;exact a.sub c h;exact .inr (by omega);rw[b.fr j (by omega) (λh=>?_)];exact a.fr j k i;rcases a.sub j h with h|h;exact i h;omega
theorem Stp.keep(k:Keep g.size g g'):Stp g O g' O:=⟨k.size,λc h=>.inl h,λj b _=>k.get j b⟩
theorem PW.own{rest:List Tk}{last a e:Int}{na:NA}{sl:Sl}(H:PW lo g M bp s rest last a e rs lf na sl b cs)(h:ppO bp na sl b c):lo<=c/\c<g.size/\M c=Te:=by rcases h with rfl|h;exact⟨H.bl.1,H.blk.lt,H.bl.2⟩;exact H.ns.own h
theorem PaS.own{st:PSt}(H:PaS lo g M bp s st a e O)(h:O c):lo<=c/\c<g.size/\M c=Te:=by obtain⟨rs,lf,na,sl,b,cs,W,_,rfl⟩:=H;exact W.own h
theorem z7t(ag:AgM M g)(f:∀j,j<g.size->M j≠Te->g'[j]?=g[j]?):AgM M g':=λb c e=>by obtain⟨T,m,e'⟩:=ag b c e;exact⟨T,m,by rw[f b (ag.lt e) (by rw[e];simp)];exact e'⟩
theorem PaS.frame{st:PSt}(H:PaS lo g M bp s st a e O)(i:g.size<=g'.size)(f:∀c,c<g.size->(O c\/M c≠Te)->g'[c]?=g[c]?):PaS lo g' M bp s st a e O:=by obtain⟨rs,lf,na,sl,b,cs,W,h1,rfl⟩:=H;refine⟨rs,lf,na,sl,b,cs,⟨W.blk.keep (f bp W.blk.lt (.inl (.inl rfl))),W.rd,W.ns.frame i λc h=>f c (W.ns.own h).2.1 (.inl (.inr h)),z7t W.ag λj k l=>f j k (.inr l),W.bl,W.nb⟩,h1,rfl⟩
theorem PaS.keep{st:PSt}(H:PaS lo g M bp s st a e O)(k:Keep g.size g g'):PaS lo g' M bp s st a e O:=H.frame k.size λc b _=>k.get c b
theorem PaS.ag{st:PSt}(H:PaS lo g M bp s st a e O):AgM M g:=by obtain⟨rs,lf,na,sl,b,cs,W,_,_⟩:=H;exact W.ag
theorem PW.put{rest rest':List Tk}{last last' a a' e e':Int}{rs rs':Sl}{lf lf':Int}{na:NA}{sl:Sl}(H:PW lo g M bp s rest last a e rs lf na sl b cs)(B:Blk g' bp (ppC s rs' lf' last' sl a' e').toArray)(r:Rd M (.row tTk) rest' [slV rs'])(l:g'.size=g.size)(f:∀j,j≠bp->g'[j]?=g[j]?):PW lo g' M bp s rest' last' a' e' rs' lf' na sl b cs:= ⟨B,r,H.ns.frame (by omega) λc i=>f c λh=>H.nb (h ▸ i),z7t H.ag λj _ k=>f j λh=>k (h ▸ H.bl.2),H.bl,H.nb⟩
section
variable {lo : Nat} {g : zb} {M : Fr} {bp : Nat} {s : Bs} {st : PSt} {a e : Int} {O : Nat -> Prop} {K : Value -> zb -> Prop}
theorem zpz(H:PaS lo g M bp s st a e O)(c:K (.int .i64 st.kind) g):XC Tp 115 #[.pointer (Td ⟨bp,0,Te⟩)] g K:=by
 obtain⟨rs,lf,na,sl,b,cs,W,h1,rfl⟩:=H;apply zcv;have h:=(rowLen W.rd).1;refine⟨_,rfl,rs,by rw[qd];exact W.blk.cell rfl,λf=>?_,λf=>⟨_,rfl,rs,by rw[qd];exact W.blk.cell rfl,?_⟩⟩;have f:rs.len=0:=by simpa using f
 have:st.rest=[]:=Bl.1 (by omega);unfold PSt.kind at c;rw[this]at c;exact c;have f:rs.len≠0:=by simpa using f
 cases hr:st.rest with
 |nil=>rw[hr]at h;exact absurd h f
 |cons t r=>have rd:=W.rd;rw[hr]at rd;obtain⟨p,o,i,l,m,n⟩:=qhk W.ag rd (k:=0) (by simp);refine⟨_,⟨i,by omega,by omega⟩,t.1,?_,?_⟩;rw[qd,qd];exact l;unfold PSt.kind at c;rw[hr]at c;exact c
theorem z7u(H:PaS lo g M bp s st a e O)(c:K (.int .i64 (st.here s.length)) g):XC Tp 121 #[.pointer (Td ⟨bp,0,Te⟩)] g K:=by
 obtain⟨rs,lf,na,sl,b,cs,W,h1,rfl⟩:=H;apply zcz;have h:=(rowLen W.rd).1;refine⟨_,rfl,rs,by rw[qd];exact W.blk.cell rfl,λf=>?_,λf=>⟨_,rfl,rs,by rw[qd];exact W.blk.cell rfl,?_⟩⟩;have f:rs.len=0:=by simpa using f
 have:st.rest=[]:=Bl.1 (by omega);unfold PSt.here at c;rw[this]at c;refine⟨_,rfl,bl s,by rw[qd];exact W.blk.cell rfl,?_⟩;rw[zf];exact c;have f:rs.len≠0:=by simpa using f
 cases hr:st.rest with
 |nil=>rw[hr]at h;exact absurd h f
 |cons t r=>have rd:=W.rd;rw[hr]at rd;obtain⟨n,o,l,p,i,m⟩:=qhk W.ag rd (k:=0) (by simp);refine⟨_,⟨l,by omega,by omega⟩,t.2.1,?_,?_⟩;rw[qd,qd,qd];exact i;unfold PSt.here at c;rw[hr]at c;exact c
theorem ztl:qc Tp 3=Ta:=by kernel_rfl
theorem qd2:qi Tp 3=1:=by kernel_rfl
theorem qmh:qc Tp 27=Ta:=by kernel_rfl
theorem qmi:qi Tp 27=1:=by kernel_rfl
theorem qjt:qc Tp 58=Ta:=by kernel_rfl
theorem qju:qi Tp 58=2:=by kernel_rfl
theorem qjv:qc Tp 83=Ta:=by kernel_rfl
theorem qjw:qi Tp 83=1:=by kernel_rfl
theorem Stp.same(l:g'.size=g.size)(b:O bp)(f:∀j,j≠bp->g'[j]?=g[j]?):Stp g O g' O:=⟨by omega,λc h=>.inl h,λj k i=>f j λe=>i (e ▸ b)⟩
theorem W9(H:PaS lo g M bp s st a e O){x:Int}(n:∀g',PaS lo g' M bp s st (st.here s.length) x O->Stp g O g' O->K (.bool Tc) g'):XC Tp 62 #[.pointer (Td ⟨bp,0,Te⟩),.int .i64 x] g K:=by apply zcu;refine z7u H ⟨_,rfl,_,rfl,?_⟩;obtain⟨rs,lf,na,sl,b,cs,W,h1,rfl⟩:=H;rw[qd];refine yg ztl qd2 W.blk (by show 5<7;omega) rfl λo m p k=>⟨_,rfl,?_⟩;rw[qd];refine yg qmh qmi m (by show 6<7;omega) rfl λh l q i=>?_;have f:∀j,j≠bp->h[j]?=g[j]?:=λj c=>(i j c).trans (k j c);exact n h ⟨rs,lf,na,sl,b,cs,W.put (rest':=st.rest) (last':=st.last) (a':=st.here s.length) (e':=x) (rs':=rs) (lf':=lf) l W.rd (by omega) f,h1,rfl⟩ (Stp.same (by omega) (.inl rfl) f)
theorem zwh(H:PaS lo g M bp s st a e O)(x:st.rest≠[])(n:∀g',PaS lo g' M bp s st.skip a e O->Stp g O g' O->K (.tuple #[]) g'):XC Tp 116 #[.pointer (Td ⟨bp,0,Te⟩)] g K:=by
 apply zcw;obtain⟨rs,lf,na,sl,b,cs,W,h1,rfl⟩:=H;obtain⟨w,_,m⟩:=rowLen W.rd;obtain⟨t,r,l⟩:=Bq x;have rd:=W.rd;rw[l]at rd w m;rw[Aq]at w m;obtain⟨I,o,D,F,z,y⟩:=qhk W.ag rd (k:=0) (by simp);refine⟨_,rfl,rs,by rw[qd];exact W.blk.cell rfl,_,⟨D,by omega,by omega⟩,t.2.1,t.2.2,?_,_,rfl,rs,by rw[qd];exact W.blk.cell rfl,.inl rfl,⟨by omega,by omega,by omega,by omega⟩,_,rfl,?_⟩;rw[qd,qd];exact⟨by rw[qd];exact z,by rw[qd];exact y,trivial⟩;rw[qd];refine zek (vs:=[.int .i64 t.2.1,.int .i64 t.2.2]) qjt W.blk rfl qju (by show 2+2<=7;omega) (λu q=>?_) λJ C G B=>⟨_,rfl,?_⟩;simp at q;rcases q with rfl|rfl <;> rfl;rw[qd];refine yg qjv qjw C (by rw[zx7 (by show 2+2<=7;omega)];show 1<7;omega) rfl λi c L A=>?_
 have f:∀j,j≠bp->i[j]?=g[j]?:=λj p=>(A j p).trans (B j p);have h:=qgy rd;rw[Ag,Ag]at c;have c:Blk i bp (ppC s ⟨ze7 rs.a (sz tTk) 1 rs.cap,rs.len-1,rs.cap-1⟩ t.2.1 t.2.2 sl a e).toArray:=c;have E:st.skip=⟨r,t.2.2,st.nodes⟩:=by unfold PSt.skip;rw[l]
 rw[E]at n;exact n i ⟨_,t.2.1,na,sl,b,cs,W.put c h (by omega) f,h1,rfl⟩ (Stp.same (by omega) (.inl rfl) f)
theorem PSt.ne_of_kind{st:PSt}(h:st.kind=k)(b:k≠0):st.rest≠[]:=λe=>by unfold PSt.kind at h;rw[e]at h;exact b h.symm
theorem zii(H:PaS lo g M bp s st a e O)(h:k≠0)(f:st.kind=k->∀g',PaS lo g' M bp s st.skip a e O->Stp g O g' O->K (.bool Ta) g')(c:st.kind≠k->K (.bool Tc) g):XC Tp 199 #[.pointer (Td ⟨bp,0,Te⟩),.int .i64 k] g K:=by
 apply zbo;refine zpz H ⟨_,rfl,λb=>c (by simpa using b),λb=>?_⟩;have b:st.kind=k:=by simpa using b
 exact zwh H (PSt.ne_of_kind b h) λg' p q=>⟨rfl,f b g' p q⟩
end
end
section
variable {M:Fr} {g:zb} {s:Sl} {k b f:Nat} {t:Bs}
theorem zp0(ag:AgM M g){xs:List Int}(H:Rd M (.row (.int .i64)) xs [slV s])(e:k<xs.length):∃b o,s.a=Td ⟨b,o,Te⟩/\zc g ⟨b,o+k*1,Te⟩=Td (.int .i64 xs[k]):=by obtain⟨b,o,cs,c,f,h⟩:=Go.X.rowAt H e;exact⟨b,o,c,zjq ag f h⟩
theorem qnm(ag:AgM M g){xs:List Nd}(H:Rd M (.row tNd) xs [slV s])(u:k<xs.length):∃(b o:Nat) (ks ps:Sl),s.a=Td ⟨b,o,Te⟩/\zd g ⟨b,o+k*7,Te⟩ 0 [.int .i64 xs[k].1,.int .i64 xs[k].2.1.1,.int .i64 xs[k].2.1.2,.int .i64 xs[k].2.2.1.1,.int .i64 xs[k].2.2.1.2,slV ks,slV ps]/\Rd M (.row (.int .i64)) xs[k].2.2.2.1 [slV ks]:=by
 obtain⟨b,o,cs,F,A,t⟩:=Go.X.rowAt H u;obtain⟨c1,O,D,h,c2,N,p,⟨y,d2,x,a2,l⟩,c3,L,G,⟨E,z,C,f,m⟩,B,J,I,n,r⟩:=t;have h:c1=[.int .i64 xs[k].1]:=h;have a2:y=[.int .i64 xs[k].2.1.1]:=a2;have l:d2=[.int .i64 xs[k].2.1.2]:=l;have f:E=[.int .i64 xs[k].2.2.1.1]:=f;have m:z=[.int .i64 xs[k].2.2.1.2]:=m;obtain⟨ks,rfl⟩:∃ks:Sl,B=[slV ks]:=by obtain⟨w,e,a,c,q,_⟩:=n;exact⟨⟨a,_,c⟩,by rw[e,q];rfl⟩
 obtain⟨ps,rfl⟩:∃ps:Sl,J=[slV ps]:=by obtain⟨w,e,a,c,q,_⟩:=r;exact⟨⟨a,_,c⟩,by rw[e,q];rfl⟩
 subst h a2 l f m x C I G p;refine⟨b,o,ks,ps,F,?_,n⟩;exact z4n (o:=o+k*7) (i:=0) ag A (by rw[CO];exact D)
theorem qnn:qc Tp 62=Ta:=by kernel_rfl
theorem qno:qi Tp 62=7:=by kernel_rfl
theorem qmj:qc Tp 26=Ta:=by kernel_rfl
theorem qmk:qi Tp 26=4:=by kernel_rfl
theorem j4{x y z w:Value}(B:Blk g b #[x,y,z,w]){k:Int}{s:Bt}{sk si:Sl}{K:zb->Prop}(i:∀g',(∀j,j≠b->g'[j]?=g[j]?)->g'.size=g.size->Blk g' b #[.int .i64 k,.string s,slV sk,slV si]->K g'):
  XRunU Tp (Af 26 (.pointer (Td ⟨b,0,Te⟩)) (.agg #[.int .i64 k,.string s,slV sk,slV si])) g K:=by
 refine zek (vs:=[.int .i64 k,.string s,slV sk,slV si]) qmj B rfl qmk (Ab _) (λu c=>?_) λg' f e h=>i g' h e f;simp at c;rcases c with rfl|rfl|rfl|rfl <;> rfl
def Xy(t:Bs)(nodes:List Nd)(f:Nat)(x:Nd)(n:Nat):Tr:=.mk x.1 (bl (Yk x.1 (qp t x.2.1))) (if x.1=6 then(x.2.2.2.1.take n).map λc=>bl (zs5 t nodes c)else []) ((x.2.2.2.1.take n).map λc=>Q9 t nodes f c.toNat)
theorem z7v{nodes:List Nd}{x:Nd}(b:nodes[k]?=Td x):Xy t nodes f x x.2.2.2.1.length=Q9 t nodes (f+1) k:=by unfold Xy;rw[Q9,b,A5]
theorem z1h{nodes:List Nd}{x:Nd}{n:Nat}(c:n<x.2.2.2.1.length):Xy t nodes f x (n+1)=.mk x.1 (bl (Yk x.1 (qp t x.2.1))) (if x.1=6 then(Xy t nodes f x n).keys++[bl (zs5 t nodes x.2.2.2.1[n])]else(Xy t nodes f x n).keys) ((Xy t nodes f x n).items++[Q9 t nodes f x.2.2.2.1[n].toNat]):=by unfold Xy;rw[Ay c,Bh,Bh];by_cases b:x.1=6;simp only[b,if_true];rfl;simp only[b,if_false];rfl
section
variable {t : Bs} {nodes : List Nd} {lvs : List Nat} {gl : Fr}
theorem qgz{u v:Value}(B:Blk g b #[u,v]):zd g ⟨b,0,Te⟩ 0 [u,v]:=B.ld (cs:=[u,v])
def qnp(F:FuncId)(t:Bs)(nodes:List Nd)(gl:Fr)(k:Nat)(c:List Value)(v:Tr):Prop:=
 ∀(h:zb) (M:Fr) (e:Sl),Fr.le gl M->AgM M h->Rd M (.row tNd) nodes [slV e]->∀(K:Value->zb->Prop),(∀(h':zb) (bs:List Nat) (sk si:Sl),Keep h.size h h'->OT h' v bs (Z2 v sk si)->(∀b∈bs,h.size<=b)->K (.agg #[.int .i64 v.kind,.string v.text,slV sk,slV si]) h') ->
  XC Tp F ([Value.agg #[.string (bl t),slV e],Bn .i64 (k:Int)]++c).toArray h K
set_option maxRecDepth 100000 in
set_option maxHeartbeats 4000000 in
theorem qd3(hg:GL gl)(ht:t.length<=65536)(G:GoodN lvs nodes)(br:∀x∈nodes,x.2.2.2.1.length<=200000):∀(f k l:Nat) (L:Int),lvs[k]?=Td l->33-l<=f->1<=L->L<=(l:Int)->qnp 59 t nodes gl k [.int .i64 L] (Q9 t nodes f k)
 |0,k,l,L,hl,hf,_,_=>by have:=G.lv k l hl;omega
 |f+1,k,l,L,hl,hf,hL1,hL2=>by
  intro h M O hM ag rd K hK;have aL:k<nodes.length:=by have:=(A1.1 hl).1;have:=G.len;omega
  have hx:nodes[k]?=Td nodes[k]:=Ak aL;have cz:=G.lv k l hl;have ab:=G.kid k l nodes[k] hx hl;have bN:=br _ (AE aL);generalize bQ:nodes[k]=x at hx ab bN;have cA:=(rowLen rd).1;show XC Tp _ #[.agg #[.string (bl t),slV O],.int .i64 (k:Int),.int .i64 L] h K;apply zso;intro h1 u;have k1:Keep h.size h h1:=Keep.push _ _ (Ab _);have k2:Keep h1.size h1 u:=Keep.push _ _ (Ab _);have z1:h1.size=h.size+1:=Aj _;have z2:u.size=h1.size+1:=Aj _;have D1:Blk h1 h.size #[.string (bl t),slV O]:=Blk.new _ _ _;have R2:Blk u h1.size #[.int .i64 0,.string ⟨#[]⟩,.slice Te 0 0,.slice Te 0 0]:=Blk.new _ _ _;clear_value h1 u;have a7:Keep h.size h u:=k1.trans (c:=u) (m:=h.size) ⟨k2.size,λj q=>k2.get j (by omega)⟩ (Ab _);have D2:=D1.keep (k2.get h.size (by omega));have bU:=ag.keep a7;obtain⟨nb,no,ks,ps,e1,e2,e3⟩:=qnm bU rd aL;rw[bQ]at e2 e3;have b8:=(rowLen e3).1;refine⟨O,by rw[qd];exact D2.cell rfl,_,⟨e1,by omega,by omega⟩,x.1,x.2.1.1,x.2.1.2,x.2.2.1.1,x.2.2.1.2,ks,ps,?_,?_⟩;rw[qd,Ag];exact e2;intro az;have bL:Keep u.size u az:=Keep.push _ _ (Ab _);have cn:az.size=u.size+1:=Aj _;have bM:Blk az u.size #[.int .i64 0,.int .i64 0,.int .i64 0,.int .i64 0,.int .i64 0,.slice Te 0 0,.slice Te 0 0]:=Blk.new _ _ _;clear_value az;refine zek (vs:=ndC (x,⟨ks,[],ps,[]⟩)) qnn bM rfl qno (Ab _) (z7l _) λb A co bY=>?_;have A:Blk b u.size #[.int .i64 x.1,.int .i64 x.2.1.1,.int .i64 x.2.1.2,.int .i64 x.2.2.1.1,.int .i64 x.2.2.1.2,slV ks,slV ps]:=A;have P:Keep u.size u b:=⟨by omega,λj q=>(bY j (by omega)).trans (bL.get j q)⟩;have ae:Keep h.size h b:=a7.trans (c:=b) (m:=h.size) ⟨P.size,λj q=>P.get j (by omega)⟩ (Ab _);have aH:=D2.keep (P.get h.size (by omega));have bS:=R2.keep (P.get h1.size (by omega));intro bz bC;have aT:∀(S:Nat) (af:zb),b.size<=S->Keep b.size b af->Blk af S #[.int .i64 x.1,.string (bl (Yk x.1 (qp t x.2.1))),.slice Te 0 0,.slice Te 0 0]->bz ⟨S,0,Te⟩ af:=by
   intro S af bZ aS a6;refine bC ⟨S,0,Te⟩ af ?_;have bF:=A.keep (aS.get u.size (by omega));have b6:=a6.lt;refine⟨ks,by rw[qd];exact bF.cell rfl,λi s=>∃(n:Nat) (sk si:Sl),i=(n:Int)/\n<=x.2.2.2.1.length/\Own b.size s.size s S (Xy t nodes f x n) sk si/\Keep b.size b s,λi _=>x.2.2.2.1.length-i.toNat,⟨0,⟨Te,0,0⟩,⟨Te,0,0⟩,rfl,by omega,?_,aS⟩,?_⟩;have e0:Xy t nodes f x 0=.mk x.1 (bl (Yk x.1 (qp t x.2.1))) [] []:=by unfold Xy;simp
   rw[e0];exact Own.new a6 bZ (Ab _);rintro i s ⟨n,sk,si,rfl,hn,F,B⟩;have aV:=A.keep (B.get u.size (by omega));have a1:=aH.keep (B.get h.size (by omega));have b7:=bS.keep (B.get h1.size (by omega));have aE:Keep h.size h s:=ae.trans (c:=s) (m:=h.size) ⟨B.size,λj q=>B.get j (by omega)⟩ (Ab _);have aC:=ag.keep aE;have cb:=B.size;refine⟨λan=>?_,λbT=>?_⟩;have an:n<x.2.2.2.1.length:=by have:=of_decide_eq_true an;omega
   obtain⟨j,ej,cc,aP⟩:=ab _ (AE an);have q:j<nodes.length:=by have:=(A1.1 aP).1;have:=G.len;omega
   have cp:=G.lv j (l+1) aP;obtain⟨ib,io,f1,f2⟩:=zp0 aC e3 an;rw[ej]at f2;refine⟨ks,by rw[qd];exact aV.cell rfl,_,⟨f1,by omega,by omega⟩,(j:Int),by rw[qd,Ag];exact f2,O,λ_=>by rw[qd];exact a1.cell rfl,?_⟩;have hc:(bif (bif (decide ((j:Int)<0))then Ta else(decide ((j:Int)>=((O.len:Nat):Int))))then Ta else(decide (L>32)))=Tc:=by rw[decide_eq_false (by omega),cond_false,decide_eq_false (by omega),cond_false,decide_eq_false (by omega)]
   rw[hc];refine⟨λh=>(by cases h),λ_=>?_⟩;intro bI bn;have aQ:nodes[j]?=Td nodes[j]:=Ak q;have ba:zs5 t nodes x.2.2.2.1[n]=qdq t nodes[j]:=by unfold zs5;rw[ej,Ag,aQ]
   have am:=z1h (t:=t) (nodes:=nodes) (f:=f) an;rw[ba,ej,Ag]at am;have body:∀(e:zb) (aF:List Bt) (aG:Sl),aF=(if x.1=6 then(Xy t nodes f x n).keys++[bl (qdq t nodes[j])]else(Xy t nodes f x n).keys)->Own b.size e.size e S (.mk x.1 (bl (Yk x.1 (qp t x.2.1))) aF (Xy t nodes f x n).items) aG si->Keep b.size b e->bI e:=by
    intro e aF aG bP aI ah;refine bn e ?_;have cm:=ah.size;have bO:=aH.keep (ah.get h.size (by omega));have bj:Keep h.size h e:=ae.trans (c:=e) (m:=h.size) ⟨ah.size,λj q=>ah.get j (by omega)⟩ (Ab _);have ai:=aI.box.lt;refine⟨si,by rw[qd];exact aI.box.cell rfl,bl t,O,qgz bO,?_⟩;rw[w64 (by omega)];refine qd3 hg ht G br f j (l+1) (L+1) aP (by omega) (by omega) (by omega) e M O hM (ag.keep bj) rd _ λar bw wk wi au ow aJ=>⟨_,_,_,_,rfl,?_⟩;have ck:=au.size;refine⟨by rw[qd];exact au.get S ai,?_⟩;intro z;have aA:Keep ar.size ar z:=Keep.push _ _ (Ab _);have cu:z.size=ar.size+1:=Aj _;have bH:Blk z ar.size (Z2 (Q9 t nodes f j) wk wi).toArray:=Blk.new _ _ _;clear_value z;refine⟨by rw[qd];exact(aA.get S (by omega)).trans (au.get S ai),?_⟩;have E:Keep e.size e z:=au.trans (c:=z) (m:=e.size) ⟨aA.size,λj q=>aA.get j (by omega)⟩ (Ab _);have aU:Keep b.size b z:=ah.trans (c:=z) (m:=b.size) ⟨E.size,λj q=>E.get j (by omega)⟩ (Ab _);have aZ:(Xy t nodes f x n).items.length<=1000000:=by unfold Xy;simp;omega
    rw[qd];refine Own.item (aI.keep E) (by omega) aZ bH (ow.frame λc hc=>aA.get c (ow.lt c hc)) (λhm=>by have:=ow.lt _ hm;omega) (λc hc=>⟨by have:=aJ c hc;omega,by have:=aJ c hc;omega,aJ c hc⟩) λg' s2 O' k' z'=>⟨⟨n+1,aG,s2,by rw[w64 (by omega)];omega,by omega,?_,aU.trans (c:=g') (m:=b.size) k' (Ab _)⟩,?_⟩;rw[am,<-bP];exact O';show x.2.2.2.1.length-(Aa .i64 ((n:Int)+1)).toNat<x.2.2.2.1.length-(n:Int).toNat;rw[w64 (by omega)];omega
   refine⟨x.1,by rw[qd];exact aV.cell rfl,λh6=>?_,λh6=>?_⟩;have h6:x.1=6:=by simpa using h6
   have ak:=F.box.lt;refine⟨sk,by rw[qd];exact F.box.cell rfl,bl t,O,qgz a1,?_⟩;refine(qgo hg ht (nodes:=nodes) (k:=j) aQ (R:=λr=>r=bl (qdq t nodes[j])) rfl).go hM aC (qb (a:=Arg.mk qkx _) ⟨[.string (bl t),slV O],rfl,[.string (bl t)],[slV O],rfl,rfl,rd⟩ (qb (a:=Arg.mk (.int .i64) _) (Jn _ _) qq)) λv aB M' r Lt hv hr=>⟨r,qil hv,?_⟩;subst hr;have ay:=Lt.keep;have cy:=ay.size;refine⟨by rw[qd];exact ay.get S ak,?_⟩;intro C;have aM:Keep aB.size aB C:=Keep.push _ _ (Ab _);have b9:C.size=aB.size+1:=Aj _;have bE:Blk C aB.size #[.string (bl (qdq t nodes[j]))]:=Blk.new _ _ _;clear_value C;refine⟨by rw[qd];exact(aM.get S (by omega)).trans (ay.get S ak),?_⟩;have H:Keep s.size s C:=ay.trans (c:=C) (m:=s.size) ⟨aM.size,λj q=>aM.get j (by omega)⟩ (Ab _);have bg:Keep b.size b C:=B.trans (c:=C) (m:=b.size) ⟨H.size,λj q=>H.get j (by omega)⟩ (Ab _);have be:(Xy t nodes f x n).keys.length<=1048576:=by unfold Xy;simp[h6];omega
   rw[qd];refine Own.key (F.keep H) (by omega) be bE λg' s2 O' k' z'=>body g' _ s2 (by rw[if_pos h6]) O' (bg.trans (c:=g') (m:=b.size) k' (Ab _));have h6:¬x.1=6:=by simpa using h6
   exact body s (Xy t nodes f x n).keys sk (by rw[if_neg h6]) F B;have bD:n=x.2.2.2.1.length:=by have:=of_decide_eq_false bT;omega
   subst bD;have eN:=z7v (t:=t) (f:=f) hx;rw[eN]at F;refine⟨_,_,sk,si,F.box.ld (cs:=Z2 _ sk si),?_⟩;refine j4 b7 λg2 f2 z2 B2=>⟨_,_,sk,si,B2.ld (cs:=[_,_,slV sk,slV si]),?_⟩;obtain⟨bs,ot,aY⟩:=F.ot;refine hK g2 bs sk si (aE.trans (c:=g2) (m:=h.size) ⟨by omega,λj q=>f2 j (by omega)⟩ (Ab _)) (ot.frame λc hc=>f2 c (by have:=(aY c hc).1;omega)) λc hc=>by have:=(aY c hc).1;omega
  have cd:=zf1 t x.2.1;have bq:∀{g:zb} {Q:Value->zb->Prop},AgM M g->(∀g',Keep g.size g g'->Q (.string (bl (qp t x.2.1))) g')->XC Tp 31 #[.agg #[.string (bl t),slV O],.agg #[.int .i64 x.2.1.1,.int .i64 x.2.1.2]] g Q:=λ {g Q} agg hQ=>by refine(zyp (gl:=gl) (t:=t) (nodes:=nodes) (p:=x.2.1) (R:=λr=>r=bl (qp t x.2.1)) rfl).go hM agg (qb (a:=Arg.mk qkx _) ⟨[.string (bl t),slV O],rfl,[.string (bl t)],[slV O],rfl,rfl,rd⟩ (qb (a:=Arg.mk tSp _) ⟨[.int .i64 x.2.1.1,.int .i64 x.2.1.2],rfl,_,_,rfl,rfl,rfl⟩ qq)) λv g' M' r L hv hr=>?_;subst hr;rw[qil hv];exact hQ g' L.keep
  have aO:∀{g:zb} {Q:Value->zb->Prop},AgM M g->(∀g',Keep g.size g g'->Q (.string (bl (Yk x.1 (qp t x.2.1)))) g')->XC Tp 111 #[.int .i64 x.1,.string (bl (qp t x.2.1))] g Q:=λ {g Q} agg hQ=>by refine(qb5 hg (k:=x.1) (t:=qp t x.2.1) (by omega) (R:=λr=>r=bl (Yk x.1 (qp t x.2.1))) rfl).go hM agg (qb (a:=Arg.mk (.int .i64) _) (Jn _ _) (qb (a:=Arg.mk .str _) (rdStr _) qq)) λv g' M' r L hv hr=>?_;subst hr;rw[qil hv];exact hQ g' L.keep
  have D:=ag.keep ae;have y:∀(hh hA:zb),Keep b.size b hh->Keep hh.size hh hA->Blk hA hh.size #[.int .i64 0,.string ⟨#[]⟩,.slice Te 0 0,.slice Te 0 0]->XRunU Tp (Af 26 (.pointer (Td ⟨hh.size,0,Te⟩)) (.agg #[.int .i64 x.1,.string (bl (Yk x.1 (qp t x.2.1))),.slice Te 0 0,.slice Te 0 0])) hA (λg=>bz ⟨hh.size,0,Te⟩ g):=λhh hA kh kA BA=>
   j4 (sk:=⟨Te,0,0⟩) (si:=⟨Te,0,0⟩) BA λg2 f2 z2 B2=>aT hh.size g2 kh.size (kh.trans (c:=g2) (m:=b.size) ⟨by have:=kh.size;have:=kA.size;omega,λj q=>by have:=kh.size;rw[f2 j (by omega)];exact kA.get j (by omega)⟩ (Ab _)) B2
  have V:∀{g:zb},Keep b.size b g->g[u.size]?=b[u.size]?:=λk=>k.get u.size (by omega);refine⟨x.1,by rw[qd];exact A.cell rfl,x.1,by rw[qd];exact A.cell rfl,bl t,O,qgz aH,x.2.1.1,x.2.1.2,?_,bq D λaj o=>⟨_,rfl,by rw[qd];exact V o,by rw[qd];exact V o,aO (D.keep o) λw Y=>⟨_,rfl,?_,?_,?_⟩,?_⟩,?_⟩;rw[qd];exact⟨by rw[qd];exact A.cell rfl,by rw[qd];exact A.cell rfl,trivial⟩;rw[qd];exact V (o.trans (c:=w) (m:=b.size) ⟨Y.size,λj q=>Y.get j (by have:=o.size;omega)⟩ (Ab _));intro bV;have kk:Keep b.size b w:=o.trans (c:=w) (m:=b.size) ⟨Y.size,λj q=>Y.get j (by have:=o.size;omega)⟩ (Ab _);exact y w bV kk (Keep.push _ _ (Ab _)) (Blk.new _ _ _);intro a8;have kk:Keep b.size b w:=o.trans (c:=w) (m:=b.size) ⟨Y.size,λj q=>Y.get j (by have:=o.size;omega)⟩ (Ab _);have bm:Keep w.size w a8:=Keep.push _ _ (Ab _);refine⟨by rw[qd];exact(bm.get u.size (by have:=kk.size;omega)).trans (V kk),?_⟩;exact y w a8 kk bm (Blk.new _ _ _);intro U;have aN:Keep aj.size aj U:=Keep.push _ _ (Ab _);have cj:U.size=aj.size+1:=Aj _;have bJ:Blk U aj.size #[.int .i64 0,.string ⟨#[]⟩,.slice Te 0 0,.slice Te 0 0]:=Blk.new _ _ _;clear_value U;have ca:=o.size;have J:Keep b.size b U:=o.trans (c:=U) (m:=b.size) ⟨aN.size,λj q=>aN.get j (by omega)⟩ (Ab _);refine⟨by rw[qd];exact V J,by rw[qd];exact V J,aO (D.keep J) λbA aa=>⟨_,rfl,?_,?_⟩⟩;rw[qd];exact V (J.trans (c:=bA) (m:=b.size) ⟨aa.size,λj q=>aa.get j (by omega)⟩ (Ab _));exact y aj bA o ⟨by have:=aa.size;omega,λj q=>by rw[aa.get j (by omega)];exact aN.get j q⟩ (bJ.keep (aa.get _ (by omega)));intro ax;have I:Keep b.size b ax:=Keep.push _ _ (Ab _);have cg:ax.size=b.size+1:=Aj _;have bG:Blk ax b.size #[.int .i64 0,.string ⟨#[]⟩,.slice Te 0 0,.slice Te 0 0]:=Blk.new _ _ _;clear_value ax;refine⟨by rw[qd];exact V I,I.get h.size (by omega),by rw[qd];exact V I,by rw[qd];exact V I,bq (D.keep I) λbB ap=>⟨_,rfl,?_⟩⟩;have cq:=ap.size;have N:Keep b.size b bB:=I.trans (c:=bB) (m:=b.size) ⟨ap.size,λj q=>ap.get j (by omega)⟩ (Ab _);refine⟨by rw[qd];exact V N,by rw[qd];exact V N,aO (D.keep N) λbu Z=>⟨_,rfl,?_,?_⟩⟩;rw[qd];exact V (N.trans (c:=bu) (m:=b.size) ⟨Z.size,λj q=>Z.get j (by omega)⟩ (Ab _));exact y b bu (Keep.refl _ _) ⟨by have:=Z.size;omega,λj q=>by rw[Z.get j (by omega),ap.get j (by omega)];exact I.get j q⟩ ((bG.keep (ap.get _ (by omega))).keep (Z.get _ (by omega)))
end
end
section
variable {n bv cv:Nat} {t el ty:TypeId} {zv:Value} {ks:Sl} {K:Value -> zb -> Prop}
theorem NS.cell{lo:Nat}{g:zb}{M:Fr}{na:NA}{sl:Sl}{b:Nat}{cs:Array Value}(H:NS lo g M na sl b cs)(c:n<na.length):sl.a=Td ⟨b,0,Te⟩/\Blk g b cs/\sl.cap≠0/\n*7+7<=cs.size/\∀(q:Nat) (v:Value),q<7->(ndC na[n])[q]?=Td v->zc g ⟨b,n*7+q,Te⟩=Td v:=by
 have e:na.map ndC≠[]:=λh=>by rw[List.map_eq_nil_iff]at h;rw[h]at c;simp at c
 obtain⟨h1,f⟩:=H.cr.blk e;obtain⟨m,i⟩:=H.cr.el n (ndC na[n]) (by rw[Bf,Ak c];rfl);refine⟨h1,f,by have:=H.len;have:=H.cr.ro.le;omega,by omega,λq v k l=>f.cell ?_⟩;have:=zte i k;rw[l]at this;rw[<-this,Ca]
def axK(k:Int)(c:Sl)(b:List Nat)(p:Nd×Ax):Nd×Ax:=((p.1.1,p.1.2.1,p.1.2.2.1,p.1.2.2.2.1++[k],p.1.2.2.2.2),⟨c,b,p.2.ps,p.2.pb⟩)
def axP(k:Sp)(c:Sl)(b:List Nat)(p:Nd×Ax):Nd×Ax:=((p.1.1,p.1.2.1,p.1.2.2.1,p.1.2.2.2.1,p.1.2.2.2.2++[k]),⟨p.2.ks,p.2.kb,c,b⟩)
def axT(t:Int)(p:Nd×Ax):Nd×Ax:=(qf7 t p.1,p.2)
theorem zda{f:Nd×Ax->Nd×Ax}{f':Nd->Nd}(h:∀p,(f p).1=f' p.1)(na:NA)(n:Nat):(na.modify n f).map (·.1)=(na.map (·.1)).modify n f':=by
 apply Bu;intro i;rw[Bf,BF,BF,Bf];cases na[i]? with
 |none=>rfl
 |some p=>by_cases e:n=i <;> simp[e,h]
structure NSt (lo:Nat) (g:zb) (M:Fr) (na:NA) (sl:Sl) (b:Nat) (g':zb) (na':NA) (cs':Array Value):Prop where
 ns:NS lo g' M na' sl b cs'
 le:g.size<=g'.size
 sub:∀c,nsO na' sl b c->nsO na sl b c\/g.size<=c
 fr:∀j,j<g.size->¬nsO na sl b j->g'[j]?=g[j]?
section
variable {lo : Nat} {g : zb} {M : Fr} {na : NA} {sl : Sl} {b : Nat} {cs : Array Value}
theorem NS.addK{bytes:Nat}(E:ElemT Tp t el zv (sz (.int .i64)) bytes)(A:bytes<=1000)(ag:AgM M g)(D:lo<=g.size)(H:NS lo g M na sl b cs)(F:n<na.length){k:Int}(Y:Blk g bv #[.int .i64 k])(Z:na[n].1.2.2.2.1.length<=1000000)(C:na[n].2.ks=ks) (U:∀(m:Sl) (p:zb) (l:List Nat),Blk p b cs->g.size<=p.size->(∀j,j<g.size->¬nsO na sl b j->p[j]?=g[j]?)->(∀r:zb,Blk r b (cs.setIfInBounds (n*7+5) (slV m))->r.size=p.size->(∀j,j≠b->r[j]?=p[j]?)->NSt lo g M na sl b r (na.modify n (axK k m l)) (cs.setIfInBounds (n*7+5) (slV m)))->K (.slice m.a m.len m.cap) p):
  XRun Tp (Au #[t,t] ty #[.slice ks.a ks.len ks.cap,.slice (Td ⟨bv,0,Te⟩) 1 cv]) g K:=by
 subst C;obtain⟨h1,B,P,h4,h5⟩:=H.cell F;have y:=AE F;have I:=H.nd _ y;have G:=(H.lb P).2.1;refine ORow.app E A ag I.kk D Y rfl Z λm p l O S c1 z=>?_;have s:b∉na[n].2.kb:=λh=>H.nb _ y (.inl h);have w:b∉l:=λh=>by rcases c1 b h with h|h;exact s h;omega
 refine U m p l (B.keep (z b G s)) S (λj x o=>z j x λh=>o (.inr ⟨_,y,.inl h⟩)) λr B2 z2 J=>?_;have u:∀j,j<g.size->j≠b->¬axO na[n] j->r[j]?=g[j]?:=λj x h1 B=>by rw[J j h1,z j x λh=>B (.inl h)]
 have q1:NdI lo r M (axK k m l na[n]):=by refine⟨?_,?_,?_⟩;exact O.frame (λc i=>J c λe=>w (e ▸ i)) (Fr.le.refl _) λc i=>(O.own c i).2.2;exact I.pp.frame (λc i=>by have:=(I.pp.own c i).2.1;rw[J c λe=>H.nb _ y (.inr (e ▸ i))];exact z c this λh=>I.dd c h i) (Fr.le.refl _) λc i=>(I.pp.own c i).2.2;intro c i L;rcases c1 c i with h|h;exact I.dd c h L;have:=(I.pp.own c L).2.1;omega
 have Q:∀c,axO (axK k m l na[n]) c->axO na[n] c\/g.size<=c:=by intro c i;rcases i with i|i;rcases c1 c i with h|h;exact .inl (.inl h);exact .inr h;exact .inl (.inr i)
 obtain⟨N,V⟩:=H.upd F (f:=axK k m l) (q:=5) (v:=slV m) (by omega) B2 (by omega) rfl q1 Q u;exact⟨N,by omega,V,λj x o=>u j x (λe=>o (.inl ⟨P,e⟩)) λh=>o (.inr ⟨_,y,h⟩)⟩
theorem NS.addP{bytes:Nat}(E:ElemT Tp t el zv (sz tSp) bytes)(A:bytes<=1000)(ag:AgM M g)(D:lo<=g.size)(H:NS lo g M na sl b cs)(F:n<na.length){k:Sp}(Y:Blk g bv #[.int .i64 k.1,.int .i64 k.2])(Z:na[n].1.2.2.2.2.length<=1000000)(C:na[n].2.ps=ks) (U:∀(m:Sl) (p:zb) (l:List Nat),Blk p b cs->g.size<=p.size->(∀j,j<g.size->¬nsO na sl b j->p[j]?=g[j]?)->(∀r:zb,Blk r b (cs.setIfInBounds (n*7+6) (slV m))->r.size=p.size->(∀j,j≠b->r[j]?=p[j]?)->NSt lo g M na sl b r (na.modify n (axP k m l)) (cs.setIfInBounds (n*7+6) (slV m)))->K (.slice m.a m.len m.cap) p):
  XRun Tp (Au #[t,t] ty #[.slice ks.a ks.len ks.cap,.slice (Td ⟨bv,0,Te⟩) 1 cv]) g K:=by
 subst C;obtain⟨h1,B,P,h4,h5⟩:=H.cell F;have y:=AE F;have I:=H.nd _ y;have G:=(H.lb P).2.1;refine ORow.app E A ag I.pp D Y ⟨_,_,rfl,rfl,rfl⟩ Z λm p l O S c1 z=>?_;have s:b∉na[n].2.pb:=λh=>H.nb _ y (.inr h);have w:b∉l:=λh=>by rcases c1 b h with h|h;exact s h;omega
 refine U m p l (B.keep (z b G s)) S (λj x o=>z j x λh=>o (.inr ⟨_,y,.inr h⟩)) λr B2 z2 J=>?_;have u:∀j,j<g.size->j≠b->¬axO na[n] j->r[j]?=g[j]?:=λj x h1 B=>by rw[J j h1,z j x λh=>B (.inr h)]
 have q1:NdI lo r M (axP k m l na[n]):=by refine⟨?_,?_,?_⟩;exact I.kk.frame (λc i=>by have:=(I.kk.own c i).2.1;rw[J c λe=>H.nb _ y (.inl (e ▸ i))];exact z c this λh=>I.dd c i h) (Fr.le.refl _) λc i=>(I.kk.own c i).2.2;exact O.frame (λc i=>J c λe=>w (e ▸ i)) (Fr.le.refl _) λc i=>(O.own c i).2.2;intro c L i;rcases c1 c i with h|h;exact I.dd c L h;have:=(I.kk.own c L).2.1;omega
 have Q:∀c,axO (axP k m l na[n]) c->axO na[n] c\/g.size<=c:=by intro c i;rcases i with i|i;exact .inl (.inl i);rcases c1 c i with h|h;exact .inl (.inr h);exact .inr h
 obtain⟨N,V⟩:=H.upd F (f:=axP k m l) (q:=6) (v:=slV m) (by omega) B2 (by omega) rfl q1 Q u;exact⟨N,by omega,V,λj x o=>u j x (λe=>o (.inl ⟨P,e⟩)) λh=>o (.inr ⟨_,y,h⟩)⟩
theorem NS.toB(H:NS lo g M na sl b cs)(l:n<na.length){x:Int}{i:zb}(t:Blk i b (cs.setIfInBounds (n*7+2) (.int .i64 x)))(z2:i.size=g.size)(k:∀j,j≠b->i[j]?=g[j]?):NSt lo g M na sl b i (na.modify n (axT x)) (cs.setIfInBounds (n*7+2) (.int .i64 x)):=by
 obtain⟨h1,s,w,y,z⟩:=H.cell l;have m:=AE l;have I:=H.nd _ m;have r:NdI lo i M (axT x na[n]):=by refine⟨?_,?_,I.dd⟩;exact I.kk.frame (λc h=>k c λe=>H.nb _ m (.inl (e ▸ h))) (Fr.le.refl _) λc h=>(I.kk.own c h).2.2;exact I.pp.frame (λc h=>k c λe=>H.nb _ m (.inr (e ▸ h))) (Fr.le.refl _) λc h=>(I.pp.own c h).2.2
 obtain⟨N,u⟩:=H.upd l (f:=axT x) (q:=2) (v:=.int .i64 x) (by omega) t (by omega) rfl r (λc h=>.inl h) λj p h1 s=>k j h1;exact⟨N,by omega,u,λj p o=>k j λe=>o (.inl ⟨w,e⟩)⟩
end
end
section
variable {J O O':Nat -> Prop} {g g':zb} {lo bp:Nat} {M:Fr} {s:Bs} {a e:Int}
structure StJ (J:Nat->Prop) (g:zb) (O:Nat->Prop) (g':zb) (O':Nat->Prop):Prop where
 le:g.size<=g'.size
 sub:∀c,O' c->O c\/g.size<=c
 fr:∀j,j<g.size->¬O j->¬J j->g'[j]?=g[j]?
theorem Stp.j{J:Nat->Prop}{g g':zb}{O O':Nat->Prop}(S:Stp g O g' O'):StJ J g O g' O':=⟨S.le,S.sub,λj h1 b _=>S.fr j h1 b⟩
theorem StJ.trans{g g' e:zb}{O O' f:Nat->Prop}(a:StJ J g O g' O')(b:StJ J g' O' e f):StJ J g O e f:=by have:=a.le;have:=b.le;refine⟨by omega,λc h=>?_,λj l k i=>?_⟩;rcases b.sub c h with h|h;exact a.sub c h;exact .inr (by omega);rw[b.fr j (by omega) (λh=>?_) i];exact a.fr j l k i;rcases a.sub j h with h|h;exact k h;omega
def Apt(J:Nat->Prop)(g:zb)(O:Nat->Prop):Prop:=∀j,J j->j<g.size/\¬O j
theorem Apt.step{J D:Nat->Prop}(h:Apt D g O)(S:StJ J g O g' O'):Apt D g' O':=λj b=>by obtain⟨h1,e⟩:=h j b;have:=S.le;refine⟨by omega,λc=>?_⟩;rcases S.sub j c with h|h;exact e h;omega
def Ans(r:PR PSt)(b:Bool)(st':PSt)(a e:Int):Prop:=match r with
 |.inl t=>b=Ta/\st'=t
 |.inr x=>b=Tc/\x=(a,e)
def qm8(r:PR (List Bs×PSt))(b:Bool)(σ:List Bs)(st':PSt)(a e:Int):Prop:=match r with
 |.inl t=>b=Ta/\t=(σ,st')
 |.inr x=>b=Tc/\x=(a,e)
def qjx(g:zb)(bp:Nat):Nat:=match zc g ⟨bp,1,Te⟩with
 |some (.slice _ n _)=>n
 |_=>0
theorem PaS.restLen{st:PSt}(H:PaS lo g M bp s st a e O):qjx g bp=st.rest.length:=by obtain⟨rs,lf,na,sl,b,cs,W,h1,rfl⟩:=H;unfold qjx;rw[W.blk.cell (o:=1) (v:=slV rs) rfl];exact(rowLen W.rd).1
theorem PW.nst{rest:List Tk}{last a e:Int}{rs:Sl}{lf:Int}{na na':NA}{sl:Sl}{b:Nat}{cs cs':Array Value}(W:PW lo g M bp s rest last a e rs lf na sl b cs)(N:NSt lo g M na sl b g' na' cs'):PW lo g' M bp s rest last a e rs lf na' sl b cs'/\Stp g (ppO bp na sl b) g' (ppO bp na' sl b):=by refine⟨⟨W.blk.keep (N.fr bp W.blk.lt W.nb),W.rd,N.ns,z7t W.ag λj f k=>N.fr j f λh=>k (W.ns.own h).2.2,W.bl,λh=>?_⟩,N.le,λc h=>?_,λj f i=>N.fr j f λh=>i (.inr h)⟩;rcases N.sub bp h with h|h;exact W.nb h;have:=W.blk.lt;omega;rcases h with h|h;exact .inl (.inl h);rcases N.sub c h with h|h;exact .inl (.inr h);exact .inr h
theorem z1i:ElemT Tp 59 3 (.int .i64 0) (sz (.int .i64)) 8:=⟨by kernel_rfl,⟨Tryz.t3,by kernel_rfl,by kernel_rfl,by kernel_rfl,by kernel_rfl⟩,rfl,by decide⟩
theorem qml:ElemT Tp 60 58 (.agg #[.int .i64 0,.int .i64 0]) (sz tSp) 16:=⟨by kernel_rfl,⟨Tryz.t58,by kernel_rfl,by kernel_rfl,by kernel_rfl,by kernel_rfl⟩,rfl,by decide⟩
theorem qnq:qc Tp 59=Ta:=by kernel_rfl
theorem qnr:qi Tp 59=1:=by kernel_rfl
theorem qns:qc Tp 60=Ta:=by kernel_rfl
theorem qnt:qi Tp 60=1:=by kernel_rfl
def qm9(lo:Nat)(M:Fr)(bp:Nat)(s:Bs)(F:FuncId)(A C:Array Value)(lv:Int)(kid:znf)(HI:List Bs->zb->Prop)(J D:Nat->Prop):Prop:=
 ∀(σ:List Bs) (g:zb) (st:PSt) (a e:Int) (O:Nat->Prop),PaS lo g M bp s st a e O->HI σ g->Apt D g O->st.nodes.length<=4096->st.T<=200000->(∀t∈st.rest,TkW s t) ->
  ∀K:Value->zb->Prop,(∀b g' st' a' e' O' c,PaS lo g' M bp s st' a' e' O'->StJ J g O g' O'->st.nodes.length<=st'.nodes.length->(b=Ta->HI c g')->qm8 (kid σ st) b c st' a' e'->K (.bool b) g')->XC Tp F (A++#[.int .i64 lv]++C) g K
section
variable {lo : Nat} {g : zb} {M : Fr} {bp : Nat} {s : Bs} {st : PSt} {a e : Int} {O J D : Nat -> Prop} {K : Value -> zb -> Prop} {HI : List Bs -> zb -> Prop} {kid : znf} {F : FuncId} {A C : Array Value}
set_option maxRecDepth 100000 in
set_option maxHeartbeats 4000000 in
theorem z7w(ar:∀σ g g',HI σ g->(∀j,D j->g'[j]?=g[j]?)->HI σ g'){B lv:Int}(aS:Aa .i64 (B+1)=lv)(hk:qm9 lo M bp s F A C lv kid HI J D)(ax:z07 kid)(hF:zh Tp F=Ta) {closing:Int} (hc:closing≠0) (H:PaS lo g M bp s st a e O) (h0:HI [] g) (hJ:Apt D g O) (h4:st.nodes.length<=4096) (hT:st.T<=200000) (hw:∀t∈st.rest,TkW s t) {n:Nat} (hn:n<st.nodes.length) (hK:∀b g' st' a' e' O',PaS lo g' M bp s st' a' e' O'->StJ J g O g' O'->st.nodes.length<=st'.nodes.length->Ans (Xv s n closing kid st) b st' a' e'->K (.bool b) g'):
  XC Tp 117 #[.pointer (Td ⟨bp,0,Te⟩),.int .i64 (n:Int),.int .i64 B,.int .i64 closing,.func (.func F) A C] g K:=by
 apply zcx;refine zii H hc (λhy g1 P1 S1=>⟨Ta,rfl,λ_=>?_,λh=>(by cases h)⟩) (λaI=>⟨Tc,rfl,λh=>(by cases h),λ_=>?_⟩);refine hK Ta g1 st.skip a e O P1 S1.j (by rw[qu];exact Ab _) ?_;unfold Xv;rw[if_pos hy];exact⟨rfl,rfl⟩;refine⟨λg'=>∃(f:Nat) (σ:List Bs) (st':PSt) (a' e':Int) (O':Nat->Prop),PaS lo g' M bp s st' a' e' O'/\HI σ g'/\Apt D g' O'/\StJ J g O g' O'/\Okk st st' 0/\st'.rest.length<f/\Xv s n closing kid st=Ju s n closing kid f σ st',λg'=>qjx g' bp,⟨st.rest.length+1,[],st,a,e,O,H,h0,hJ,(Stp.refl g O).j,Okk.refl st,by omega,by unfold Xv;rw[if_neg aI]⟩,?_⟩;rintro h6 ⟨f,σ,l,a1,e1,O1,P1,I1,J1,S1,q,hf,Q⟩;obtain⟨f,rfl⟩:∃f',f=f'+1:=⟨f-1,by omega⟩;have bu:n<l.nodes.length:=by have:=q.n;omega
 have aQ:l.nodes.length<=4096:=q.m h4;have aJ:l.T<=200000:=by have:=q.t;omega
 have aC:=P1.restLen;have a6:=P1;obtain⟨bB,bn,bE,an,b1,bz,W1,aH,_⟩:=a6;have l1:an.len=l.nodes.length:=by rw[W1.ns.len,<-aH,Ap]
 refine⟨_,rfl,l.last,by rw[qd,qd];exact W1.blk.cell rfl,_,rfl,an,by rw[qd];exact W1.blk.cell rfl,hF,?_⟩;rw[aS,l1];refine hk σ h6 l a1 e1 O1 P1 I1 J1 aQ aJ (λt ht=>hw t (q.w t ht)) _ λb g2 st2 a2 e2 O2 σ2 P2 S2 n2 I2 A2=>⟨b,rfl,λhb=>?_,λhb=>?_⟩;have hb:b=Tc:=by simpa using hb
 subst hb;refine hK Tc g2 st2 a2 e2 O2 P2 (S1.trans S2) (by have:=q.n;omega) ?_;rw[Q,Ju];cases Y:kid σ l with
 |inl t=>rw[Y]at A2;exact absurd A2.1 (by simp)
 |inr x=>rw[Y]at A2;exact⟨rfl,A2.2⟩
 have hb:b=Ta:=by simpa using hb
 subst hb;have Y:kid σ l=.inl (σ2,st2):=by
  cases Y:kid σ l with
  |inl t=>rw[Y]at A2;rw[A2.2]
  |inr x=>rw[Y]at A2;exact absurd A2.1 (by simp)
 have ap:=ax _ _ _ _ Y;have I2:=I2 rfl;have J2:=J1.step S2;rw[Ju,Y]at Q;dsimp only at Q;have aN:=P2;obtain⟨rs,lf,na,sl,b,cs,W,h1,rfl⟩:=aN;have bF:na.length=st2.nodes.length:=by rw[<-h1,Ap]
 have Z:n<na.length:=by omega
 obtain⟨q1,q2,q3,q4,q5⟩:=W.ns.cell Z;have aL:ndW na[n].1<=200000:=by
  have h:na[n].1∈st2.nodes:=by rw[<-h1];exact List.mem_map_of_mem (AE Z)
  have:=qf8 h;have:=ap.t;omega
 unfold ndW at aL;refine⟨_,rfl,sl,by rw[qd];exact W.blk.cell rfl,⟨b,0,Te⟩,⟨q1,by omega,by have:=W.ns.len;omega⟩,⟨b,n*7,Te⟩,by rw[qd,Ag,AL],na[n].2.ks,?_,?_⟩;rw[qd];exact q5 5 _ (by omega) rfl;intro y;have U:Keep g2.size g2 y:=Keep.push _ _ (Ab _);have bC:y.size=g2.size+1:=Aj _;have aF:Blk y g2.size #[.int .i64 (l.nodes.length:Int)]:=Blk.new _ _ _;clear_value y;have ba:NSt lo g2 M na sl b y na cs:=⟨W.ns.frame U.size λc hc=>U.get c (W.ns.own hc).2.1,U.size,λc h=>.inl h,λj hj _=>U.get j hj⟩;obtain⟨aa,aG⟩:=W.nst ba;have au:lo<=y.size:=by have:=(aa.own (.inl rfl));omega
 refine NS.addK z1i (by omega) aa.ag au aa.ns Z aF (by omega) rfl λs' bm G aE br bD aV=>⟨s',rfl,⟨b,n*7,Te⟩,by rw[qd,Ag,AL],?_⟩;rw[qd];refine yg qnq qnr aE (by omega) rfl λo u1 u2 u3=>?_;obtain⟨u,aP⟩:=aa.nst (aV o u1 u2 u3);have ae:n<(na.modify n (axK (l.nodes.length:Int) s' G)).length:=by rw[List.length_modify];exact Z
 have ai:(na.modify n (axK (l.nodes.length:Int) s' G))[n]=axK (l.nodes.length:Int) s' G na[n]:=by rw[List.getElem_modify,if_pos rfl]
 obtain⟨r1,r2,r3,r4,r5⟩:=u.ns.cell ae;rw[ai]at r5;refine⟨⟨b,n*7,Te⟩,by rw[qd,Ag,AL],na[n].2.ps,?_,?_⟩;rw[qd];exact r5 6 _ (by omega) rfl;have be:PaS lo o M bp s ⟨st2.rest,st2.last,(na.modify n (axK (l.nodes.length:Int) s' G)).map (·.1)⟩ a2 e2 _:=⟨_,_,_,_,_,_,u,rfl,rfl⟩;refine z7u be ⟨_,rfl,rfl,rfl,?_⟩;intro z;have L:Keep o.size o z:=Keep.push _ _ (Ab _);have bq:z.size=o.size+1:=Aj _;have aO:Blk z o.size #[.int .i64 l.last,.int .i64 (st2.here s.length)]:=Blk.new _ _ _;clear_value z;have a8:=(u.ns.own (.inl ⟨r3,rfl⟩)).2.1;refine⟨by rw[qd];exact L.get b a8,?_⟩;have bg:NSt lo o M _ sl b z _ _:=⟨u.ns.frame L.size λc hc=>L.get c (u.ns.own hc).2.1,L.size,λc h=>.inl h,λj hj _=>L.get j hj⟩;obtain⟨S,aY⟩:=u.nst bg;have az:lo<=z.size:=by have:=(S.own (.inl rfl));omega
 refine NS.addP qml (by omega) S.ag az S.ns ae (k:=(l.last,st2.here s.length)) aO (by rw[ai];show na[n].1.2.2.2.2.length<=_;omega) (by rw[ai];rfl) λs2 bA aZ aT bG bj ay=>⟨s2,rfl,⟨b,n*7,Te⟩,by rw[qd,Ag,AL],?_⟩;rw[qd];refine yg qns qnt aT (by omega) rfl λI v1 v2 v3=>?_;obtain⟨aU,aB⟩:=S.nst (ay I v1 v2 v3);have V:((na.modify n (axK (l.nodes.length:Int) s' G)).modify n (axP (l.last,st2.here s.length) s2 aZ)).map (·.1)=(st2.addKid n (l.nodes.length:Int) (l.last,st2.here s.length)).nodes:=by
  rw[zda (f':=λx=>(x.1,x.2.1,x.2.2.1,x.2.2.2.1,x.2.2.2.2++[(l.last,st2.here s.length)])) (λp=>rfl),zda (f':=λx=>(x.1,x.2.1,x.2.2.1,x.2.2.2.1++[(l.nodes.length:Int)],x.2.2.2.2)) (λp=>rfl),h1];unfold PSt.addKid;apply Bu;intro i;rw[BF,BF,BF];cases st2.nodes[i]? with
  |none=>rfl
  |some x=>by_cases e:n=i <;> simp[e,z6q]
 have am:PaS lo I M bp s (st2.addKid n (l.nodes.length:Int) (l.last,st2.here s.length)) a2 e2 _:=⟨_,_,_,_,_,_,aU,V,rfl⟩;have E:=((aG.trans aP).trans aY).trans aB;have a7:HI σ2 I:=ar σ2 g2 I I2 λj hj=>E.fr j (J2 j hj).1 (J2 j hj).2;have ak:=J2.step (E.j (J:=J));have aA:=Jv st2 n (l.nodes.length:Int) (l.last,st2.here s.length);have P:(st2.addKid n (l.nodes.length:Int) (l.last,st2.here s.length)).kind=st2.kind:=rfl;have aM:(st2.addKid n (l.nodes.length:Int) (l.last,st2.here s.length)).here s.length=st2.here s.length:=rfl;have N:=(S1.trans S2).trans E.j;have ah:st.nodes.length<=(st2.addKid n (l.nodes.length:Int) (l.last,st2.here s.length)).nodes.length:=by have:=q.n;have:=ap.n;omega
 refine zii am hc (λhy g' P' S'=>⟨Ta,rfl,λ_=>?_,λh=>(by cases h)⟩) (λaf=>⟨Tc,rfl,λh=>(by cases h),λ_=>?_⟩);refine hK Ta g' _ _ _ _ P' (N.trans S'.j) (by rw[qu];exact ah) ?_;rw[P]at hy;rw[Q,if_pos hy];exact⟨rfl,rfl⟩;rw[P]at af;rw[if_neg af]at Q;refine zii am (by omega) (λhy g' P' S'=>⟨Ta,rfl,λh=>(by simp at h),λ_=>?_⟩) (λab=>⟨Tc,rfl,λ_=>?_,λh=>(by simp at h)⟩);rw[P]at hy;rw[if_pos hy]at Q;have aj:=zf0 ax Y (n:=n) (k:=(l.nodes.length:Int)) (p:=(l.last,st2.here s.length)) (PSt.ne_kind hy (by omega));refine⟨⟨f,σ2,_,_,_,_,P',ar σ2 I g' a7 (λj hj=>S'.fr j (ak j hj).1 (ak j hj).2),ak.step (S'.j (J:=J)),N.trans S'.j,(q.trans aj).le (by omega),?_,Q⟩,?_⟩;have:=aj.r;omega;have e1:=P'.restLen;have:=aj.r;show qjx g' bp<qjx h6 bp;rw[e1,aC];omega;rw[P]at ab;rw[if_neg ab]at Q;refine W9 am λg' P' S'=>⟨Tc,rfl,hK Tc g' _ _ _ _ P' (N.trans S'.j) ah ?_⟩;rw[Q];exact⟨rfl,by rw[aM]⟩
end
end
section
variable {gl:Fr}
theorem ztm{k:Int}{R:Int->Prop}(h:R (zu k)):PC Tp gl 114 [Arg.mk (.int .i64) k] [.int .i64] R:=by
 apply zl4;unfold zu at h;refine⟨λf=>?_,λf K n=>?_⟩;rw[if_pos (by simpa using f)]at h;exact h;have f:¬k=12:=by simpa using f
 rw[if_neg f]at h;have key:∀b:Bool,b=decide (k=10\/k=11)->K b:=λb i=>n b ⟨λh1=>by
   rw[h1]at i;rw[if_pos (of_decide_eq_true i.symm)]at h;exact h,λh1=>by
   rw[h1]at i;rw[if_neg (of_decide_eq_false i.symm)]at h;refine⟨λc=>?_,λc=>⟨λe=>?_,λe=>⟨λl=>?_,λl=>⟨λm=>?_,λm=>?_⟩⟩⟩⟩;rw[if_pos (by simpa using c)]at h;exact h;rw[if_neg (by simpa using c),if_pos (by simpa using e)]at h;exact h;rw[if_neg (by simpa using c),if_neg (by simpa using e),if_pos (by simpa using l)]at h;exact h;rw[if_neg (by simpa using c),if_neg (by simpa using e),if_neg (by simpa using l),if_pos (by simpa using m)]at h;exact h;rw[if_neg (by simpa using c),if_neg (by simpa using e),if_neg (by simpa using l),if_neg (by simpa using m)]at h;exact h⟩
 refine⟨λh1=>key _ ?_,λh1=>key _ ?_⟩;have:k=10:=by simpa using h1
 rw[h1,this];rfl;have:¬k=10:=by simpa using h1
 rw[AM,beq_iff_eq,decide_eq_true_eq];omega
def qmm(lo:Nat)(M:Fr)(bp:Nat)(s:Bs)(lv:Int)(val:zs2):Prop:=
 ∀(key:Sp) (g:zb) (st:PSt) (a e:Int) (O:Nat->Prop),PaS lo g M bp s st a e O->st.nodes.length<=4096->st.T<=200000->(∀t∈st.rest,TkW s t) ->
  ∀K:Value->zb->Prop,(∀b g' st' a' e' O',PaS lo g' M bp s st' a' e' O'->Stp g O g' O'->st.nodes.length<=st'.nodes.length->Ans (val key st) b st' a' e'->K (.bool b) g')->XC Tp 61 #[.pointer (Td ⟨bp,0,Te⟩),.int .i64 lv,.agg #[.int .i64 key.1,.int .i64 key.2]] g K
section
variable {lo : Nat} {g : zb} {M : Fr} {bp : Nat} {s : Bs} {lv : Int} {val : zs2}
theorem qg0(o:qmm lo M bp s lv val):qm9 lo M bp s 118 #[.pointer (Td ⟨bp,0,Te⟩)] #[] lv (zep val) (λ_ _=>True) (λ_=>False) (λ_=>False):=by
 intro σ g st a e O P I J h i k K n;show XC Tp _ #[.pointer (Td ⟨bp,0,Te⟩),.int .i64 lv] g K;apply zcy;refine o (0,0) g st a e O P h i k _ λb g' st' a' e' O' f l m c=>⟨b,rfl,n b g' st' a' e' O' σ f l.j m (λ_=>trivial) ?_⟩;unfold zep;cases hr:val (0,0) st with
 |inl t=>rw[hr]at c;exact⟨c.1,by rw[c.2]⟩
 |inr x=>rw[hr]at c;exact c
theorem qd4:MapT Tp 154 9 4 (.bool Tc):=⟨by kernel_rfl,by kernel_rfl,⟨Tryz.t4,by kernel_rfl,by kernel_rfl⟩⟩
def qk1(m:Nat)(σ:List Bs)(g:zb):Prop:=∃l,MapAt g m l/\∀k:Bs,zdg l (bl k)=if k∈σ then Td (.bool Ta)else Te
theorem z1j{M:Fr}{r:Bt×Int×Int}{v:Value}(h:Y3 M [.str,.int .i64,.int .i64] r v):v=.tuple #[.string r.1,.int .i64 r.2.1,.int .i64 r.2.2]:=by obtain⟨vs,⟨i,rest,rfl,f,l,b,rfl,c,k,rfl,e⟩,rfl⟩:=h;rw[Wv f,j8 c,j8 e];rfl
set_option maxRecDepth 100000 in
set_option maxHeartbeats 2000000 in
theorem qjy(hg:GL gl)(hM:Fr.le gl M)(hs:s.length<=65536)(hv:qmm lo M bp s lv val){m:Nat}{J:Nat->Prop}(hm:J m){σ:List Bs}{st:PSt}{a e:Int}{O:Nat->Prop}(P:PaS lo g M bp s st a e O)(I:qk1 m σ g)(hJ:Apt J g O)(h4:st.nodes.length<=4096)(hT:st.T<=200000)(hw:∀t∈st.rest,TkW s t)(aC:∀j,J j->M j=Te){K:Value->zb->Prop} (hK:∀b g' st' a' e' O' σ',PaS lo g' M bp s st' a' e' O'->StJ (λj=>j=m) g O g' O'->st.nodes.length<=st'.nodes.length->(b=Ta->qk1 m σ' g')->qm8 (zs3 s val σ st) b σ' st' a' e'->K (.bool b) g'):
  XC Tp 120 #[.pointer (Td ⟨bp,0,Te⟩),.int .i64 lv,.map (Td m)] g K:=by
 have z:=hJ m hm;apply zal;refine zpz P ⟨_,rfl,λq=>?_,λq=>?_⟩;have q:¬st.kind=8:=by simpa using q
 refine W9 P λg' N H=>⟨Tc,rfl,hK Tc g' st _ _ O σ N H.j (Ab _) (λh=>(by cases h)) ?_⟩;unfold zs3;cases V:st.rest with
 |nil=>exact⟨rfl,rfl⟩
 |cons t r=>
  have:¬t.1=8:=by unfold PSt.kind at q;rw[V]at q;exact q
  dsimp only;rw[if_neg this];exact⟨rfl,rfl⟩
 have q:st.kind=8:=by simpa using q
 have F:=PSt.ne_kind q (by omega);obtain⟨t,r,er⟩:=Bq F;have ar:t.1=8:=by unfold PSt.kind at q;rw[er]at q;exact q
 obtain⟨w1,w2,w3,_⟩:=hw t (by rw[er];simp);have ax:=zar F;have P0:=P;obtain⟨rs,lf,na,sl,b,cs,W,h1,eO⟩:=P0;have rd:=W.rd;have hl:=(rowLen W.rd).1;rw[er]at rd hl;rw[Aq]at hl;obtain⟨tb,o,e1,e2,e3,e4⟩:=qhk W.ag rd (k:=0) (by simp);refine⟨_,rfl,rs,by rw[qd];exact W.blk.cell rfl,_,⟨e1,by omega,by omega⟩,t.2.1,t.2.2,?_,?_⟩;rw[qd,qd];exact⟨by rw[qd];exact e3,by rw[qd];exact e4,trivial⟩;intro B;have an:Keep g.size g B:=Keep.push _ _ (Ab _);have aF:B.size=g.size+1:=Aj _;have aE:Blk B g.size #[.int .i64 0,.int .i64 0]:=Blk.new _ _ _;clear_value B;refine zek (vs:=[.int .i64 t.2.1,.int .i64 t.2.2]) qjt aE rfl qju (Ab _) (λu hu=>?_) λae A aH aj=>⟨_,rfl,?_⟩;simp at hu;rcases hu with rfl|rfl <;> rfl;have A:Blk ae g.size #[.int .i64 t.2.1,.int .i64 t.2.2]:=A;have y:Keep g.size g ae:=⟨by omega,λj hj=>(aj j (by omega)).trans (an.get j hj)⟩;have ap:=P.keep y;have ai:=W.blk.keep (y.get bp W.blk.lt);refine⟨bl s,by rw[qd];exact ai.cell rfl,t.2.1,by rw[qd];exact A.cell rfl,t.2.2,by rw[qd];exact A.cell rfl,⟨w1,by omega,by rw[zf];exact w3⟩,?_⟩;have ex:(bl s).extract t.2.1.toNat t.2.2.toNat=bl (J4 s t.2):=by rw[wm];rfl
 rw[ex];have aI:(J4 s t.2).length<=65536:=by unfold J4;rw[AN,AI];omega
 refine(zf5 hg (t:=J4 s t.2) (by omega) (R:=λr=>r=(bl (Xn (J4 s t.2)).1,((Xn (J4 s t.2)).2.1:Int),(Xn (J4 s t.2)).2.2)) rfl).go hM ap.ag (qb (a:=Arg.mk .str _) (rdStr _) qq) λv aa M' rr L ak V=>?_;subst V;rw[z1j ak];refine⟨_,_,_,rfl,?_⟩;have f:Keep g.size g aa:=y.trans L.keep y.size;have Y:=P.keep f;obtain⟨l,ml,mk⟩:=I;have E:MapAt aa m l:=ml.keep (f.get m z.1);have i:=We qd4 E (bl (Xn (J4 s t.2)).1) Tc;rw[if_neg (by simp)]at i;have az:zw9 l (bl (Xn (J4 s t.2)).1) (.bool Tc)=.bool (decide ((Xn (J4 s t.2)).1∈σ)):=by unfold zw9;rw[mk];by_cases C:(Xn (J4 s t.2)).1∈σ;rw[if_pos C];simp[C];rw[if_neg C];simp[C]
 rw[az]at i;have U:zs3 s val σ st=if(Xn (J4 s t.2)).1∈σ then st.err s 7
   else if st.skip.kind=7 then match val t.2 st.skip.skip with
    |.inl st'=>.inl (σ++[(Xn (J4 s t.2)).1],st')
    |.inr e=>.inr e
   else st.skip.err s 2:=by
  unfold zs3;rw[er];dsimp only;rw[if_pos ar];rfl
 refine⟨_,i,λQ=>?_,λQ=>?_⟩;have Q:=of_decide_eq_true Q;refine W9 Y λg' N H=>⟨Tc,rfl,hK Tc g' st _ _ O σ N ((Stp.keep (O:=O) f).trans H).j (Ab _) (λh=>(by cases h)) ?_⟩;rw[U,if_pos Q];exact⟨rfl,rfl⟩;have Q:=of_decide_eq_false Q;rw[if_neg Q]at U;refine zrd qd4 E (bl (Xn (J4 s t.2)).1) (.bool Ta) λD aA aJ S=>?_;have au:PaS lo D M bp s st a e O:=Y.frame (by omega) λc hc ho=>S c λh=>by subst h;rcases ho with ho|ho;exact z.2 ho;exact ho (aC _ hm)
 have ah:StJ (λj=>j=m) g O D O:=⟨by have:=f.size;omega,λc h=>.inl h,λj hj hn hJ=>(S j hJ).trans (f.get j hj)⟩;have G:∀g',g'[m]?=D[m]?->qk1 m (σ++[(Xn (J4 s t.2)).1]) g':=λg' aB=>by
  refine⟨_,aA.keep aB,λk=>?_⟩;rw[zrc,mk];by_cases hk:(Xn (J4 s t.2)).1=k;subst hk;simp;have am:¬bl (Xn (J4 s t.2)).1=bl k:=λh=>hk (zsg.1 h);rw[if_neg am];have:(k∈σ++[(Xn (J4 s t.2)).1])↔k∈σ:=by simp;intro h;exact absurd h.symm hk
  simp only[this]
 have Z:m<D.size:=by have:=z.1;have:=f.size;omega
 refine zwh au F λg3 P3 S3=>⟨rfl,?_⟩;refine zii P3 (by omega) (λh7 g4 P4 S4=>⟨Ta,rfl,λh=>(by simp at h),λ_=>?_⟩) (λh7=>⟨Tc,rfl,λ_=>?_,λh=>(by simp at h)⟩);rw[if_pos h7]at U;have ay:=zar (PSt.ne_kind h7 (by omega));have p:=ax.trans ay;have af:¬O g.size:=λh=>by have:=(P.own h).2.1;omega
 have B4:Blk g4 g.size #[.int .i64 t.2.1,.int .i64 t.2.2]:=by refine A.keep ?_;have aG:=y.size;rw[S4.fr _ (by have:=S3.le;have:=f.size;have:=L.keep.size;omega) af,S3.fr _ (by have:=f.size;have:=L.keep.size;omega) af,S _ (by have:=z.1;omega)];exact L.keep.get _ (by omega)
 refine⟨t.2.1,t.2.2,B4.ld (cs:=[.int .i64 t.2.1,.int .i64 t.2.2]),?_⟩;refine hv t.2 g4 st.skip.skip a e O P4 (by have:=p.m h4;exact this) (by have:=p.t;omega) (λx q=>hw x (p.w x q)) _ λb g' st' a' e' O' N H n' A'=>⟨b,rfl,?_⟩;have ab:=(S3.trans S4).trans H;refine hK b g' st' a' e' O' _ N (ah.trans ab.j) (by have:=p.n;omega) (λ_=>G g' (ab.fr m Z λh=>z.2 h)) ?_;rw[U];cases V:val t.2 st.skip.skip with
 |inl x=>rw[V]at A';exact⟨A'.1,by rw[A'.2]⟩
 |inr x=>rw[V]at A';exact A'
 rw[if_neg h7]at U;refine W9 P3 λg' N H=>⟨Tc,rfl,hK Tc g' _ _ _ O σ N (ah.trans (S3.trans H).j) (by rw[qu];exact Ab _) (λh=>(by cases h)) ?_⟩;rw[U];exact⟨rfl,rfl⟩
end
end
section
theorem qjz:ElemT Tp 23 9 (.string ⟨#[]⟩) (sz .str) 16:=⟨by kernel_rfl,⟨Tryz.t9,by kernel_rfl,by kernel_rfl,by kernel_rfl,by kernel_rfl⟩,rfl,by decide⟩
section
variable {lo : Nat} {g : zb} {M gl : Fr} {bp : Nat} {s : Bs} {l : List Tk} {st : PSt} {a e : Int} {O : Nat -> Prop} {K : Value -> zb -> Prop} {val : zs2}
end
end
section
theorem qmn:ElemT Tp 34 62 (.agg #[.int .i64 0,.int .i64 0,.int .i64 0,.int .i64 0,.int .i64 0,.slice Te 0 0,.slice Te 0 0]) 7 88:=⟨by kernel_rfl,⟨Tryz.t62,by kernel_rfl,by kernel_rfl,by kernel_rfl,by kernel_rfl⟩,rfl,by decide⟩
theorem qnu:qc Tp 34=Ta:=by kernel_rfl
theorem qnv:qi Tp 34=1:=by kernel_rfl
theorem qnw:qc Tp 154=Ta:=by kernel_rfl
theorem qnx:qi Tp 154=1:=by kernel_rfl
section
variable {lo : Nat} {M gl : Fr} {bp : Nat} {s : Bs}
set_option maxRecDepth 100000 in
set_option maxHeartbeats 4000000 in
theorem qcc(hg:GL gl)(hM:Fr.le gl M)(hs:s.length<=65536):∀d:Nat,d<=32->qmm lo M bp s (33-(d:Int)) (J5 s d):=by
 intro d;induction d with
 |zero=>intro hd key g st a e O P h4 hT hw K hK;apply Qe;intro h1 h2;have k1:Keep g.size g h1:=Keep.push _ _ (Ab _);have k2:Keep h1.size h1 h2:=Keep.push _ _ (Ab _);have z1:h1.size=g.size+1:=Aj _;have B1:Blk h1 g.size #[.pointer (Td ⟨bp,0,Te⟩)]:=Blk.new _ _ _;clear_value h1 h2;have q:Keep g.size g h2:=k1.trans k2 (by omega);have B2:=B1.keep (k2.get g.size (by omega));refine⟨_,B2.cell rfl,zpz (P.keep q) ⟨_,rfl,?_⟩⟩;refine(ztm (k:=st.kind) (R:=λr=>r=zu st.kind) rfl).go hM (P.keep q).ag (qb (a:=Arg.mk (.int .i64) _) (Jn _ _) qq) λv N M' r L hv hr=>⟨r,qlt hv,?_⟩;subst hr;have C:=L.keep;have k8:Keep g.size g N:=q.trans C q.size;have Q:=B2.keep (C.get g.size (by have:=q.size;have:=k2.size;omega));refine⟨λu=>⟨_,Q.cell rfl,?_⟩,λu=>⟨λhy=>⟨_,Q.cell rfl,?_⟩,λhy=>?_⟩⟩;refine W9 (P.keep k8) λg' E n=>⟨Tc,rfl,hK Tc g' st _ _ O E ((Stp.keep (O:=O) k8).trans n) (Ab _) ?_⟩;rw[J5,if_pos (by simpa using u)];exact⟨rfl,rfl⟩;refine W9 (P.keep k8) λg' E n=>⟨Tc,rfl,hK Tc g' st _ _ O E ((Stp.keep (O:=O) k8).trans n) (Ab _) ?_⟩;rw[J5,if_neg (by simpa using u)];exact⟨rfl,rfl⟩;exact absurd (of_decide_eq_false hy) (by omega)
 |succ d ih=>
  intro hd key g st a e O P h4 hT hw K hK;have ih:=ih (by omega);have aH:=zs4 s d;apply Qe;intro h1 h2;have k1:Keep g.size g h1:=Keep.push _ _ (Ab _);have k2:Keep h1.size h1 h2:=Keep.push _ _ (Ab _);have z1:h1.size=g.size+1:=Aj _;have z2:h2.size=h1.size+1:=Aj _;have B1:Blk h1 g.size #[.pointer (Td ⟨bp,0,Te⟩)]:=Blk.new _ _ _;have Bk2:Blk h2 h1.size #[.int .i64 key.1,.int .i64 key.2]:=Blk.new _ _ _;clear_value h1 h2;have q:Keep g.size g h2:=k1.trans k2 (by omega);have B2:=B1.keep (k2.get g.size (by omega));refine⟨_,B2.cell rfl,zpz (P.keep q) ⟨_,rfl,?_⟩⟩;refine(ztm (k:=st.kind) (R:=λr=>r=zu st.kind) rfl).go hM (P.keep q).ag (qb (a:=Arg.mk (.int .i64) _) (Jn _ _) qq) λv N M' r L hv hr=>⟨r,qlt hv,?_⟩;subst hr;have C:=L.keep;have k8:Keep g.size g N:=q.trans C q.size;have z8:h2.size<=N.size:=C.size;have Q:=B2.keep (C.get g.size (by omega));have bg:=Bk2.keep (C.get h1.size (by omega));have P8:=P.keep k8;have S8:Stp g O N O:=Stp.keep k8;refine⟨λu=>⟨_,Q.cell rfl,?_⟩,λu=>⟨λhy=>?_,λhy=>?_⟩⟩;refine W9 P8 λg' E n=>⟨Tc,rfl,hK Tc g' st _ _ O E (S8.trans n) (Ab _) ?_⟩;rw[J5,if_pos (by simpa using u)];exact⟨rfl,rfl⟩;have:=of_decide_eq_true hy;omega;have u:¬zu st.kind=0:=by simpa using u
  have ae:=zif u;obtain⟨t,r,er⟩:=Bq ae;have aY:=P8;obtain⟨rs,lf,na,sl,b,cs,W,am,eO⟩:=aY;have bA:na.length=st.nodes.length:=by rw[<-am,Ap]
  have af:sl.len=st.nodes.length:=by rw[W.ns.len,bA]
  refine⟨_,Q.cell rfl,_,rfl,sl,by rw[qd];exact W.blk.cell rfl,?_⟩;rw[af];refine⟨λhz=>⟨_,Q.cell rfl,?_⟩,λhz=>?_⟩;refine W9 P8 λg' E n=>⟨Tc,rfl,hK Tc g' st _ _ O E (S8.trans n) (Ab _) ?_⟩;have hz:st.nodes.length=4096:=by have:=of_decide_eq_true hz;omega
  rw[J5,if_neg u,if_pos hz];exact⟨rfl,rfl⟩;have hz:¬st.nodes.length=4096:=λh=>by have:=of_decide_eq_false hz;omega
  have eV:J5 s (d+1) key st=match zup s (J5 s d) st.nodes.length (zu st.kind) (st.open key)with
   |.inl st'=>.inl (st'.setTo st.nodes.length)
   |.inr e=>.inr e:=by rw[J5,if_neg u,if_neg hz];rfl
  have rd:=W.rd;have hl:=(rowLen W.rd).1;rw[er]at rd hl;rw[Aq]at hl;obtain⟨tb,o,e1,e2,e3,e4⟩:=qhk W.ag rd (k:=0) (by simp);have aZ:st.kind=t.1:=by unfold PSt.kind;rw[er]
  have bq:bp<N.size:=W.blk.lt;have aC:∀c,O c->c<g.size:=λc h=>(P.own h).2.1;refine⟨_,Q.cell rfl,_,rfl,sl,by rw[qd];exact W.blk.cell rfl,_,Q.cell rfl,_,Q.cell rfl,_,rfl,sl,by rw[qd];exact W.blk.cell rfl,_,Q.cell rfl,_,rfl,rs,by rw[qd];exact W.blk.cell rfl,_,⟨e1,by omega,by omega⟩,t.2.1,t.2.2,?_,key.1,key.2,bg.ld (cs:=[.int .i64 key.1,.int .i64 key.2]),rfl,rfl,rfl,?_⟩;rw[qd,qd];exact⟨by rw[qd];exact e3,by rw[qd];exact e4,trivial⟩;intro F;have A:Keep N.size N F:=Keep.push _ _ (Ab _);have bN:F.size=N.size+1:=Aj _;have a6:Blk F N.size (ndC ((zu st.kind,t.2,key,[],[]),ax0)).toArray:=Blk.new _ _ _;clear_value F;refine⟨by rw[qd];exact A.get bp bq,A.get g.size (by omega),A.get g.size (by omega),?_⟩;have aJ:NSt lo N M na sl b F na cs:=⟨W.ns.frame A.size λc hc=>A.get c (W.ns.own hc).2.1,A.size,λc h=>.inl h,λj B _=>A.get j B⟩;obtain⟨G,br⟩:=W.nst aJ;have au:lo<=F.size:=by have:=(G.own (.inl rfl));omega
  refine NS.push qmn (by omega) G.ag au G.ns (x:=(zu st.kind,t.2,key,[],[])) rfl rfl a6 (by omega) λs' bO b' cs' bm bE az ai=>⟨s',rfl,_,rfl,?_⟩;have bC:¬nsO na sl b g.size:=λh=>by have:=aC g.size (by rw[eO];exact .inr h);omega
  refine⟨(ai g.size (by omega) bC).trans (A.get g.size (by omega)),?_⟩;rw[qd];have ak:¬nsO (na++[((zu st.kind,t.2,key,[],[]),ax0)]) s' b' bp:=λh=>by rcases az bp h with h|h;exact W.nb h;omega
  have aE:=G.blk.keep (ai bp (by omega) G.nb);refine yg qnu qnv aE (by show 4<7;omega) rfl λab u1 u2 u3=>?_;have aV:PW lo ab M bp s st.rest st.last a e rs lf (na++[((zu st.kind,t.2,key,[],[]),ax0)]) s' b' cs':=by refine⟨u1,W.rd,bm.frame (by omega) λc hc=>u3 c λh=>ak (h ▸ hc),z7t G.ag λj B hm=>?_,W.bl,ak⟩;rw[u3 j λh=>hm (h ▸ W.bl.2)];exact ai j B λh=>hm (G.ns.own h).2.2
  have be:Stp F (ppO bp na sl b) ab (ppO bp (na++[((zu st.kind,t.2,key,[],[]),ax0)]) s' b'):=by refine⟨by omega,λc h=>?_,λj B hn=>?_⟩;rcases h with h|h;exact .inl (.inl h);rcases az c h with h|h;exact .inl (.inr h);exact .inr h;rw[u3 j λh=>hn (.inl h)];exact ai j B λh=>hn (.inr h)
  have aA:PaS lo ab M bp s ⟨st.rest,st.last,st.nodes++[(zu st.kind,t.2,key,[],[])]⟩ a e (ppO bp (na++[((zu st.kind,t.2,key,[],[]),ax0)]) s' b'):=⟨rs,lf,_,_,_,_,aV,by rw[Bh,am];rfl,rfl⟩;have H:Stp N O ab (ppO bp (na++[((zu st.kind,t.2,key,[],[]),ax0)]) s' b'):=by rw[eO];exact br.trans be
  generalize ppO bp (na++[((zu st.kind,t.2,key,[],[]),ax0)]) s' b'=O45 at aA H;have aa:¬O g.size:=λh=>by have:=aC _ h;omega
  have bn:=Q.keep (H.fr g.size (by omega) aa);refine⟨_,bn.cell rfl,zwh aA ae λf Y aT=>⟨rfl,?_⟩⟩;have aI:(⟨st.rest,st.last,st.nodes++[(zu st.kind,t.2,key,[],[])]⟩:PSt).skip=st.open key:=by unfold PSt.skip PSt.open;rw[aZ];dsimp only;rw[er]
  rw[aI]at Y;have z:=H.trans aT;have bz:=z.le;have V:∀c,c<N.size->¬O c->¬O45 c:=λc hc hn h=>by rcases H.sub c h with h|h;exact hn h;omega
  have ah:=Q.keep (z.fr g.size (by omega) aa);have Z:=z6t (key:=key) ae hz;have aU:(st.open key).nodes.length=st.nodes.length+1:=zpo ae;intro ba ap;have fin:∀(bb:Bool) (g':zb) (st':PSt) (a' e':Int) (O':Nat->Prop),PaS lo g' M bp s st' a' e' O'->Stp g O g' O'->(st.open key).nodes.length<=st'.nodes.length->g'[g.size]?=f[g.size]?->Ans (zup s (J5 s d) st.nodes.length (zu st.kind) (st.open key)) bb st' a' e'->ba bb g':=by
   intro bb g' st' a' e' O' E n n' aP I;refine ap bb g' ?_;have B':=ah.keep aP;obtain⟨bL,bI,aB,aM,b1,bJ,W1,U,a8⟩:=E;have ax:st.nodes.length<aB.length:=by
    have:aB.length=st'.nodes.length:=by rw[<-U,Ap]
    omega
   obtain⟨q1,q2,q3,q4,q5⟩:=W1.ns.cell ax;refine⟨_,B'.cell rfl,_,rfl,aM,by rw[qd];exact W1.blk.cell rfl,_,B'.cell rfl,_,rfl,st'.last,by rw[qd,qd];exact W1.blk.cell rfl,⟨b1,0,Te⟩,⟨q1,by omega,by have:=W1.ns.len;omega⟩,?_⟩;rw[qd,qd,qd,Ag,AL,af];refine yg ztl qd2 q2 (by omega) rfl λg2 u1 u2 u3=>?_;obtain⟨W2,S2⟩:=W1.nst (W1.ns.toB ax u1 u2 u3);refine hK bb g2 (st'.setTo st.nodes.length) a' e' _ ⟨_,_,_,_,_,_,W2,?_,rfl⟩ (n.trans (by rw[a8];exact S2)) (by rw[zeq];omega) ?_;rw[zda (f':=qf7 st'.last) (λp=>rfl),U];rfl;rw[eV];cases hr:zup s (J5 s d) st.nodes.length (zu st.kind) (st.open key)with
   |inl x=>rw[hr]at I;exact⟨I.1,by rw[I.2]⟩
   |inr x=>rw[hr]at I;exact I
  have aG:Aa .i64 (33-((d+1:Nat):Int)+1)=33-(d:Int):=by rw[w64 (by omega)];omega
  have bF:=Z.t;refine⟨λh5=>⟨_,ah.cell rfl,_,ah.cell rfl,?_⟩,λh5=>⟨λh6=>?_,λh6=>?_⟩⟩;have h5:zu st.kind=5:=by simpa using h5
  refine z7w (J:=λ_=>False) (D:=λ_=>False) (HI:=λ_ _=>True) (kid:=zep (J5 s d)) (λ_ _ _ _ _=>trivial) aG (qg0 ih) (z6s aH) (by kernel_rfl) (by omega) Y trivial (λj B=>B.elim) (Z.m h4) (by omega) (λx u=>hw x (Z.w x u)) (by omega) λbb g' st' a' e' O' E n n' I=>⟨bb,rfl,fin bb g' st' a' e' O' E ?_ n' ?_ ?_⟩;exact(S8.trans z).trans ⟨n.le,n.sub,λj B hn=>n.fr j B hn (λh=>h)⟩;exact n.fr g.size (by omega) (V _ (by omega) aa) (λh=>h);rw[af]at I;unfold zup;rw[if_pos h5];exact I;have h5:¬zu st.kind=5:=by simpa using h5
  have h6:zu st.kind=6:=by simpa using h6
  intro i aj;have aS:Keep f.size f i:=Keep.push _ _ (Ab _);have aF:Keep i.size i aj:=Keep.push _ _ (Ab _);have z65:i.size=f.size+1:=Aj _;have bH:aj.size=i.size+1:=Aj _;have aN:MapAt i f.size []:=MapAt.new _;have aL:Blk aj i.size #[.map Te]:=Blk.new _ _ _;clear_value i aj;refine yg qnw qnx aL (by show 0<1;omega) rfl λan u1 u2 u3=>?_;have S:Keep f.size f an:=⟨by omega,λj B=>by rw[u3 j (by omega),aF.get j (by omega),aS.get j B]⟩;have aQ:MapAt an f.size []:=(aN.keep (aF.get _ (by omega))).keep (u3 _ (by omega));have aO:=Y.keep S;have ay:=ah.keep (S.get g.size (by omega));have bG:Stp f O45 an O45:=Stp.keep S;have ar:∀c,O45 c->c<f.size:=λc h=>(Y.own h).2.1;have bj:∀c,g.size<=c->M c=Te:=λc hc=>by
   cases e:M c with
   |none=>rfl
   |some x=>have:=P.ag.lt e;omega
  refine⟨_,ay.cell rfl,?_⟩;refine z7w (J:=λj=>j=f.size) (D:=λj=>j=g.size\/j=i.size\/j=f.size) (HI:=λσ g'=>Blk g' g.size #[.pointer (Td ⟨bp,0,Te⟩)]/\Blk g' i.size #[.map (Td f.size)]/\qk1 f.size σ g') (kid:=zs3 s (J5 s d)) (λσ x y u hf=>⟨u.1.keep (hf _ (.inl rfl)),u.2.1.keep (hf _ (.inr (.inl rfl))),?_⟩) aG ?_ (qdp aH) (by kernel_rfl) (by omega) aO ⟨ay,u1,[],aQ,λk=>rfl⟩ (λj B=>?_) (Z.m h4) (by omega) (λx u=>hw x (Z.w x u)) (by omega) λbb g' st' a' e' O' E n n' I=>⟨bb,rfl,fin bb g' st' a' e' O' E ?_ n' ?_ ?_⟩;obtain⟨l,ml,mk⟩:=u.2.2;exact⟨l,ml.keep (hf _ (.inr (.inr rfl))),mk⟩;intro σ x bM a1 e1 O1 P1 I1 J1 bu a7 bB K1 bD;show XC Tp _ #[.int .i64 (33-(d:Int)),.pointer (Td ⟨g.size,0,Te⟩),.pointer (Td ⟨i.size,0,Te⟩)] x K1;apply Xr;refine⟨_,I1.1.cell rfl,_,I1.2.1.cell rfl,?_⟩;refine qjy hg hM hs ih (J:=λj=>j=g.size\/j=i.size\/j=f.size) (.inr (.inr rfl)) P1 I1.2.2 J1 bu a7 bB (λj B=>bj j (by omega)) λbb g' st' a' e' O' σ' E n n' H' I=>⟨bb,rfl,bD bb g' st' a' e' O' σ' E n n' (λhb=>⟨I1.1.keep ?_,I1.2.1.keep ?_,H' hb⟩) I⟩;have:=J1 g.size (.inl rfl);exact n.fr _ this.1 this.2 (by omega);have:=J1 i.size (.inr (.inl rfl));exact n.fr _ this.1 this.2 (by omega);refine⟨by omega,λh=>?_⟩;have:=ar j h;rcases B with rfl|rfl|rfl;exact V _ (by omega) aa h;omega;omega;refine(S8.trans z).trans ⟨by have:=n.le;omega,λc h=>?_,λj B hn=>?_⟩;rcases n.sub c h with h|h;exact .inl h;exact .inr (by omega);rw[n.fr j (by omega) hn (by omega)];exact S.get j B;rw[n.fr g.size (by omega) (V _ (by omega) aa) (by omega)];exact S.get _ (by omega);rw[af]at I;unfold zup;rw[if_neg h5,if_pos h6];exact I;have h5:¬zu st.kind=5:=by simpa using h5
  have h6:¬zu st.kind=6:=by simpa using h6
  refine fin Ta f (st.open key) a e O45 Y (S8.trans z) (Ab _) rfl ?_;unfold zup;rw[if_neg h5,if_neg h6];exact⟨rfl,rfl⟩
end
end
section
variable {s:Bs} {f a t:Nat} {k:Int}
theorem TkS.frame{h:zb}{M:Fr}{b2 b3 b4 b5 bc D l:Nat}{rec:zq0}{out:List Tk}{sl:Sl}{bs:List Nat}{g g':zb}(S:TkS h M b2 b3 b4 b5 bc D l rec s out sl bs g)(A:Apart h b2 b3 b4 b5 bc D l)(k:g.size<=g'.size)(f:∀j,j<g.size->g'[j]?=g[j]?):TkS h M b2 b3 b4 b5 bc D l rec s out sl bs g':=by have i:=lt_of_some S.rc;have:=A.lo;have:=A.a3;have:=A.a4;have:=A.a5;have:=A.ac;have:=A.aD;have:=A.al;have m:=S.keep.size;exact⟨⟨by omega,λj e=>(f j (by omega)).trans (S.keep.get j e)⟩,S.c.keep (f _ (by omega)),(f _ (by omega)).trans S.d,(f _ i).trans S.rc,S.r2.keep (f _ (by omega)),S.r3.keep (f _ (by omega)),S.r4.keep (f _ (by omega)),S.r5.keep (f _ (by omega)),S.o.frame (λc b=>f c (S.o.own c b).2.1) (Fr.le.refl _) λc b=>(S.o.own c b).2.2⟩
theorem qcd{o:List Tk}(b:a<s.length)(h:Z5 s a=(k,t,0)):Q8 (f+1) s a o=Q8 f s t (o++[(k,((a:Int),(t:Int)))]):=by rw[Q8,if_pos b,h];rfl
theorem qce{k e:Int}{o:List Tk}(c:a<s.length)(h:Z5 s a=(k,t,e))(b:¬e=0):Q8 (f+1) s a o=([],t,e):=by rw[Q8,if_pos c,h];simp only;rw[if_neg b]
theorem z7x{o:List Tk}(b:¬a<s.length):Q8 f s a o=(o,a,0):=by
 cases f with
 |zero=>rfl
 |succ f=>rw[Q8,if_neg b]
section
variable {h : zb} {M gl : Fr} {b2 b3 b4 b5 bc D l : Nat} {rec : zq0} {s : Bs} {sl : Sl} {bs : List Nat} {g : zb}
abbrev qmo(b2 b3 b4 b5:Nat)(x9 x8 x0:Value):Env:=[(9,[],x9),(8,[],x8),(5,[],.pointer (Td ⟨b5,0,Te⟩)),(4,[],.pointer (Td ⟨b4,0,Te⟩)),(3,[],.pointer (Td ⟨b3,0,Te⟩)),(2,[],.pointer (Td ⟨b2,0,Te⟩)),(0,[],x0)]
set_option maxRecDepth 100000 in
set_option maxHeartbeats 4000000 in
theorem qmp(A:Apart h b2 b3 b4 b5 bc D l)(hg:GL gl)(hM:Fr.le gl M)(ag:AgM M h)(S:TkS h M b2 b3 b4 b5 bc D l rec s [] sl bs g){x9 x8 x0:Value} (r:∀{v1 v2:Value} {P:zb} {K:Value->zb->Prop},P[l]?=Td (.loop (rec .ready Te))->zax Tp 25 (rfA (codeOf Tryz.f60)) (rfB (codeOf Tryz.f60)) rec l K (putO (putO (qmo b2 b3 b4 b5 x9 x8 x0) (Td 10) [] v1) (Td 11) [] v2) P->YX Tp l #[v1,v2] P K) {Q:zb->Prop} (hN:∀g out sl bs,TkS h M b2 b3 b4 b5 bc D l rec s out sl bs g->yr s=(out,s.length,0)->out.length<=100000->Q g) (hE:∀(g:zb) (t:Nat) (e:Int),¬e=0->yr s=([],t,e)->Keep h.size h g->g[D]?=Td (.deferred (Td []))->g[l]?=Td (.loop (rec .done (Td .ret)))->Blk g b2 #[.slice Te 0 0]->Blk g b3 #[.int .i64 (t:Int)]->Blk g b4 #[.int .i64 e]->Q g):
  XCI Tp 197 #[.func (.yield l) #[] #[],.pointer (Td ⟨bc,0,Te⟩)] g (λ_ g'=>Q g'):=by
 have:=A.lo;have:=A.a3;have:=A.a4;have:=A.a5;have:=A.ac;have:=A.aD;have:=A.al;apply ztk;refine⟨bl s,S.c.cell rfl,λq=>?_,λB=>?_⟩;have u:65536<s.length:=by rw[zf]at q;simp at q;omega
 refine r S.rc (TkS.err A S (by omega) λg' E H w q4 q5 q6=>⟨Tc,rfl,?_⟩);refine hE g' 0 3 (by omega) ?_ E H w q4 q5 q6;unfold yr;rw[if_pos u];have z:s.length<=65536:=by rw[zf]at B;simp at B;omega
 have hR:yr s=Q8 s.length s 0 []:=by unfold yr;rw[if_neg (by omega)]
 refine⟨λk g'=>∃(a f:Nat) (out:List Tk) (af:Sl) (bs':List Nat),k=(a:Int)/\a<=s.length/\s.length-a<=f/\out.length<=a/\yr s=Q8 f s a out/\TkS h M b2 b3 b4 b5 bc D l rec s out af bs' g',λk _=>s.length-k.toNat,⟨0,s.length,[],sl,bs,rfl,by omega,by omega,Ab _,hR,S⟩,?_⟩;rintro k g1 ⟨a,f,out,V,Y,rfl,ha,hf,ho,hT,p⟩;refine⟨bl s,p.c.cell rfl,λG=>⟨bl s,p.c.cell rfl,?_⟩,λx=>?_⟩;have i:a<s.length:=by rw[zf]at G;simp at G;omega
 obtain⟨f,rfl⟩:∃f',f=f'+1:=⟨f-1,by omega⟩;have aa:AgM M g1:=ag.keep p.keep;refine qjl hg hM aa z i λm k2=>?_;obtain⟨tk,t,e,b⟩:∃k t e,Z5 s a=(k,t,e):=⟨_,_,_,rfl⟩;have z2:=k2.size;by_cases C:e=0;subst C;have I:=Jt i (by rw[b]);rw[b]at I;have ah:a<t:=I.1;have ab:t<=s.length:=I.2;have U:ztg s a=.tuple #[.agg #[.int .i64 tk,.int .i64 (a:Int),.int .i64 (t:Int)],.int .i64 0]:=by unfold ztg;rw[b,if_pos rfl]
 refine⟨tk,a,t,0,U,?_⟩;intro n;have N:Keep m.size m n:=Keep.push _ _ (Ab _);have z3:n.size=m.size+1:=Aj _;have B3:Blk n m.size (ztf 0 0 0).toArray:=Blk.new _ _ _;clear_value n;refine qgr B3 λZ E H w=>⟨tk,a,t,w.ld,?_⟩;have f4:∀j,j<g1.size->Z[j]?=g1[j]?:=λj hj=>by rw[E j (by omega),N.get j (by omega),k2.get j hj]
 have y:=p.frame A (by omega) f4;have ll:=lt_of_some p.rc;refine r y.rc (TkS.round A ag y (by omega) λg5 O ae S5 z5 f5=>⟨Ta,rfl,λJ=>by simp at J,λ_=>?_⟩);refine⟨t,?_,⟨t,f,_,O,ae,rfl,ab,by omega,?_,?_,S5⟩,?_⟩;rw[qd,qd];refine(w.keep (f5 m.size (by omega) (by omega) (by omega) λhm=>?_)).cell rfl;have:=(p.o.own m.size hm).2.1;omega;rw[Ah];show out.length+1<=t;omega;rw[hT,qcd i b];show s.length-(t:Int).toNat<s.length-(a:Int).toNat;rw[Ag,Ag];omega;have U:=zih b C;refine⟨0,t,t,e,U,?_⟩;intro n;have N:Keep m.size m n:=Keep.push _ _ (Ab _);have z3:n.size=m.size+1:=Aj _;have B3:Blk n m.size (ztf 0 0 0).toArray:=Blk.new _ _ _;clear_value n;refine qgr B3 λZ E H w=>⟨0,t,t,w.ld,?_⟩;have f4:∀j,j<g1.size->Z[j]?=g1[j]?:=λj hj=>by rw[E j (by omega),N.get j (by omega),k2.get j hj]
 have y:=p.frame A (by omega) f4;refine r y.rc (TkS.err A y C λg5 w1 w2 w3 w4 w5 w6=>⟨Tc,rfl,λ_=>?_,λJ=>by simp at J⟩);exact hE g5 t e C (by rw[hT,qce i b C]) w1 w2 w3 w4 w5 w6;have F:¬a<s.length:=by rw[zf]at x;simp at x;omega
 have L:a=s.length:=by omega
 exact hN g1 out V Y p (by rw[hT,z7x F,L]) (by omega)
end
end
end Go.X
end
section
namespace Go.X
open Go Go.X Go.Proofs Go.RowKit
set_option maxRecDepth 100000 in
set_option maxHeartbeats 4000000 in
section
theorem qcf{gl M:Fr}(hg:GL gl)(hM:Fr.le gl M){h:zb}(ag:AgM M h){s:Bs}{K:Value->zb->Prop} (V:∀(h':zb) (M':Fr) (t:Sl),Later h M h' M'->Rd M' (.row tTk) (yr s).1 [slV t]->K (.tuple #[slV t,.int .i64 ((yr s).2.1:Nat),.int .i64 (yr s).2.2]) h'):
  XC Tp 60 #[.string (bl s)] h K:=by
 apply zpy;intro h1 m u q;have k1:Keep h.size h h1:=Keep.push _ _ (Ab _);have k2:Keep h1.size h1 m:=Keep.push _ _ (Ab _);have G:Keep m.size m u:=Keep.push _ _ (Ab _);have E:Keep u.size u q:=Keep.push _ _ (Ab _);have z1:h1.size=h.size+1:=Aj _;have z2:m.size=h1.size+1:=Aj _;have z3:u.size=m.size+1:=Aj _;have z4:q.size=u.size+1:=Aj _;have B1:Blk h1 h.size #[.slice Te 0 0]:=Blk.new _ _ _;have B2:Blk m h1.size #[.int .i64 0]:=Blk.new _ _ _;have B3:Blk u m.size #[.int .i64 0]:=Blk.new _ _ _;have B4:Blk q u.size #[.slice Te 0 0]:=Blk.new _ _ _;clear_value q u m h1;apply z00;intro b;have C:Keep q.size q b:=Keep.push _ _ (Ab _);have z5:b.size=q.size+1:=Aj _;have B5:Blk b q.size #[.string (bl s)]:=Blk.new _ _ _;clear_value b;refine⟨_,rfl,_,_,rfl,by kernel_rfl,λrec O=>?_⟩;have e5:∀j,j<h.size->b[j]?=h[j]?:=λj i=>by rw[C.get j (by omega),E.get j (by omega),G.get j (by omega),k2.get j (by omega),k1.get j i]
 have A:Apart h h.size h1.size m.size u.size q.size b.size (b.size+1):=⟨by omega,by omega,by omega,by omega,by omega,by omega,rfl⟩;obtain⟨y,l⟩:∃y,y=(b.push (.deferred (Td []))).push (.loop (rec .ready Te)):=⟨_,rfl⟩;have gz:y.size=b.size+2:=by rw[l,Aj,Aj]
 have z:∀j,j<b.size->y[j]?=b[j]?:=λj i=>by rw[l,Array.getElem?_push_lt (by rw[Aj];omega)];rw[Array.getElem_push_lt i,Bo i]
 have gD:y[b.size]?=Td (.deferred (Td [])):=by rw[l,Array.getElem?_push_lt (by rw[Aj];omega),Array.getElem_push_eq]
 have P:y[b.size+1]?=Td (.loop (rec .ready Te)):=by
  rw[l];have:b.size+1=(b.push (.deferred (Td []))).size:=by rw[Aj]
  rw[this,Array.getElem?_push_size]
 rw[<-l];clear l;have S:TkS h M h.size h1.size m.size u.size q.size b.size (b.size+1) rec s [] ⟨Te,0,0⟩ [] y:= ⟨⟨by omega,λj i=>(z j (by omega)).trans (e5 j i)⟩,B5.keep (z _ (by omega)),gD,P,B1.keep (by rw[z _ (by omega),C.get _ (by omega),E.get _ (by omega),G.get _ (by omega),k2.get _ (by omega)]),B2.keep (by rw[z _ (by omega),C.get _ (by omega),E.get _ (by omega),G.get _ (by omega)]),B3.keep (by rw[z _ (by omega),C.get _ (by omega),E.get _ (by omega)]),B4.keep (by rw[z _ (by omega),C.get _ (by omega)]),.nil⟩;refine qmp A hg hM ag S (x9:=_) (x8:=_) (x0:=_) O ?_ ?_;intro g out sl bs n B ho;have ll:=lt_of_some n.rc;refine .inl ⟨n.rc,?_⟩;obtain⟨k,f⟩:∃k,k=g.setIfInBounds (b.size+1) (.loop (rec .exhausted Te)):=⟨_,rfl⟩;have z6:k.size=g.size:=by rw[f,A0]
 have p:∀j,j≠b.size+1->k[j]?=g[j]?:=λj i=>by rw[f];exact zk i
 rw[<-f];clear f;refine⟨sl,(n.r5.keep (p _ (by omega))).cell rfl,?_⟩;refine yg qgw qgx (n.r2.keep (p _ (by omega))) (by show 0<1;omega) rfl λg7 u1 u3 I=>?_;refine yg qjp qjq (n.r3.keep ((I _ (by omega)).trans (p _ (by omega)))) (by show 0<1;omega) rfl λg8 v1 v3 J=>?_;refine yg qjr qjs (n.r4.keep ((J _ (by omega)).trans ((I _ (by omega)).trans (p _ (by omega))))) (by show 0<1;omega) rfl λw w1 w3 U=>?_;have F:∀j,j≠b.size+1->j≠h.size->j≠h1.size->j≠m.size->w[j]?=g[j]?:=λj a1 a2 a3 a4=>by rw[U j a4,J j a3,I j a2,p j a1]
 refine⟨(F _ (by omega) (by omega) (by omega) (by omega)).trans n.d,?_⟩;have r:∀j,j≠b.size->(w.setIfInBounds b.size (.deferred Te))[j]?=w[j]?:=λj i=>zk i;have Q:Blk (w.setIfInBounds b.size (.deferred Te)) h.size #[slV sl]:=u1.keep (by rw[r _ (by omega),U _ (by omega),J _ (by omega)]);have L:Blk (w.setIfInBounds b.size (.deferred Te)) h1.size #[.int .i64 (((bl s).size:Nat):Int)]:=v1.keep (by rw[r _ (by omega),U _ (by omega)]);have H:Blk (w.setIfInBounds b.size (.deferred Te)) m.size #[.int .i64 0]:=w1.keep (r _ (by omega));refine⟨sl,Q.cell rfl,_,L.cell rfl,0,H.cell rfl,?_⟩;have D:Keep h.size h (w.setIfInBounds b.size (.deferred Te)):=by have:=n.keep.size;refine⟨by rw[A0];omega,λj i=>?_⟩;rw[r j (by omega),F j (by omega) (by omega) (by omega) (by omega)];exact n.keep.get j i
 have N:=n.o.own;have ox:=n.o.frame (h':=w.setIfInBounds b.size (.deferred Te)) (λc x=>by have:=N c x;rw[r c (by omega),F c (by omega) (by omega) (by omega) (by omega)]) (Fr.le.refl M) λc x=>(N c x).2.2;have:=V _ (MxL M (w.setIfInBounds b.size (.deferred Te)) bs) sl (MxL.later ag D λc x=>by have:=N c x;omega) (by rw[B];exact ox.rd (ag.keep D) (λc x=>x) (by omega));rw[B]at this;rw[zf];exact this;intro g t e he B Y gd gr Z q3 q4;refine .inr ⟨gr,?_⟩;obtain⟨k,f⟩:∃k,k=g.setIfInBounds (b.size+1) (.loop (rec .exhausted (Td .ret))):=⟨_,rfl⟩;have z6:k.size=g.size:=by rw[f,A0]
 have p:∀j,j≠b.size+1->k[j]?=g[j]?:=λj i=>by rw[f];exact zk i
 rw[<-f];clear f;refine⟨(p _ (by omega)).trans gd,?_⟩;have r:∀j,j≠b.size->(k.setIfInBounds b.size (.deferred Te))[j]?=k[j]?:=λj i=>zk i;have Q:Blk (k.setIfInBounds b.size (.deferred Te)) h.size #[.slice Te 0 0]:=Z.keep (by rw[r _ (by omega),p _ (by omega)]);have L:Blk (k.setIfInBounds b.size (.deferred Te)) h1.size #[.int .i64 (t:Int)]:=q3.keep (by rw[r _ (by omega),p _ (by omega)]);have H:Blk (k.setIfInBounds b.size (.deferred Te)) m.size #[.int .i64 e]:=q4.keep (by rw[r _ (by omega),p _ (by omega)]);refine⟨⟨Te,0,0⟩,Q.cell rfl,_,L.cell rfl,e,H.cell rfl,?_⟩;have D:Keep h.size h (k.setIfInBounds b.size (.deferred Te)):=by have:=Y.size;refine⟨by rw[A0];omega,λj i=>?_⟩;rw[r j (by omega),p j (by omega)];exact Y.get j i
 have:=V _ M ⟨Te,0,0⟩ (Later.same ag D) (by rw[B];exact⟨_,rfl,Te,0,rfl,⟨by simp,by simp⟩,.inl rfl⟩);rw[B]at this;exact this
end
end Go.X
end
section
namespace Go.X
open Go Go.X Go.Proofs Go.RowKit
section
theorem ztn:∀(f:Nat) (s:Bs) (a:Nat) (o:List Tk),(Q8 f s a o).1.length<=o.length+f
 |0,s,a,o=>Nat.le_add_right _ _
 |f+1,s,a,o=>by rw[Q8];split;split;have:=ztn f s (Z5 s a).2.1 (o++[((Z5 s a).1,((a:Int),((Z5 s a).2.1:Int)))]);rw[Ah,Cq]at this;omega;simp;simp
end
section
variable {lo b:Nat} {g:zb} {M:Fr} {cs:Array Value}
def qai(na:NA)(b:Nat):List Nat:=if na.length=0 then []else b::na.flatMap λp=>p.2.kb++p.2.pb
theorem qcg{na:NA}{sl:Sl}(H:NS lo g M na sl b cs){c:Nat}(h:c∈qai na b):lo<=c:=by unfold qai at h;split at h;cases h;rename_i h0;rcases Ai.1 h with rfl|h;exact(H.lb (H.cell (n:=0) (by omega)).2.2.1).1;obtain⟨p,f,e⟩:=Cg.1 h;exact((H.nd p f).own (Aw.1 e)).1
theorem zwi{na:NA}(h:0<na.length):qai na b=b::na.flatMap λp=>p.2.kb++p.2.pb:=by unfold qai;rw[if_neg (by omega)]
theorem NS.rd{na:NA}{sl:Sl}(H:NS lo g M na sl b cs)(ag:AgM M g)(w:na.length<=4096)(l:∀p∈na,ndW p.1<=1000000):Rd (MxL M g (qai na b)) (.row tNd) (na.map (·.1)) [slV sl]:=by have q:=H.len;have f:=H.cr.ro.le;refine⟨_,rfl,sl.a,sl.cap,?_,⟨by rw[Ap];omega,by rw[Ap];omega⟩,?_⟩;show slV _=_;unfold slV;rw[Ap,q];by_cases h0:na=[];left;rw[h0];rfl;have e:0<na.length:=Bv.2 h0;obtain⟨h1,n,x,u,s⟩:=H.cell e;refine .inr ⟨b,0,cs,h1,MxL.at (by rw[zwi e];exact Am) n,λi hi=>?_⟩;rw[Ap]at hi;have h:=AE hi;obtain⟨t,k⟩:=H.cr.el i (ndC na[i]) (by rw[Bf,Ak hi];rfl);rw[AL,show sz tNd=7 from rfl,k,CF];have I:=H.nd _ h;have o:=l _ h;unfold ndW at o;have r:=I.kk.rd ag (all:=qai na b) (λc f=>by rw[zwi e];exact Ae _ (Cg.2 ⟨_,h,Aw.2 (.inl f)⟩)) (by omega);have m:=I.pp.rd ag (all:=qai na b) (λc f=>by rw[zwi e];exact Ae _ (Cg.2 ⟨_,h,Aw.2 (.inr f)⟩)) (by omega);refine⟨[.int .i64 na[i].1.1],[.int .i64 na[i].1.2.1.1,.int .i64 na[i].1.2.1.2,.int .i64 na[i].1.2.2.1.1,.int .i64 na[i].1.2.2.1.2,slV na[i].2.ks,slV na[i].2.ps],rfl,rfl,?_⟩;refine⟨[.int .i64 na[i].1.2.1.1,.int .i64 na[i].1.2.1.2],[.int .i64 na[i].1.2.2.1.1,.int .i64 na[i].1.2.2.1.2,slV na[i].2.ks,slV na[i].2.ps],rfl,⟨_,_,rfl,rfl,rfl⟩,?_⟩;refine⟨[.int .i64 na[i].1.2.2.1.1,.int .i64 na[i].1.2.2.1.2],[slV na[i].2.ks,slV na[i].2.ps],rfl,⟨_,_,rfl,rfl,rfl⟩,?_⟩;exact⟨[slV na[i].2.ks],[slV na[i].2.ps],rfl,r,m⟩
theorem z7y{x:Bs}{l:List Nd}{sl:Sl}(i j:Int)(h:Rd M (.row tNd) l [slV sl]):Y3 M [.pair .str (.row tNd),.int .i64,.int .i64] ((bl x,l),i,j) (.tuple #[.agg #[.string (bl x),slV sl],.int .i64 i,.int .i64 j]):=by refine⟨[.agg #[.string (bl x),slV sl],.int .i64 i,.int .i64 j],⟨_,_,rfl,?_,_,_,rfl,Jn _ i,_,rfl,Jn _ j⟩,rfl⟩;exact⟨[.string (bl x),slV sl],rfl,[.string (bl x)],[slV sl],rfl,rfl,h⟩
theorem zf6{T:Ty}:Rd M (.row T) [] [slV ⟨Te,0,0⟩]:=⟨_,rfl,Te,0,rfl,⟨by simp,by simp⟩,.inl rfl⟩
theorem qmq:qc Tp 36=Ta:=by kernel_rfl
theorem qmr:qi Tp 36=2:=by kernel_rfl
theorem zij{x y:Value}(B:Blk g b #[x,y]){u:Bt}{v:Sl}{K:zb->Prop}(i:∀g',(∀j,j≠b->g'[j]?=g[j]?)->g'.size=g.size->Blk g' b #[.string u,slV v]->K g'):
  XRunU Tp (Af 36 (.pointer (Td ⟨b,0,Te⟩)) (.agg #[.string u,slV v])) g K:=by
 refine zek (vs:=[.string u,slV v]) qmq B rfl qmr (Ab _) (λw c=>?_) λg' h e f=>i g' f e h;simp at c;rcases c with rfl|rfl <;> rfl
theorem zto{l:List Tk}{k:Nat}(b:k<l.length):zw (l.take (k+1))=zw (l.take k)++(if l[k].1≠1 then [l[k]]else []):=by unfold zw;rw[Ay b,List.filter_append];congr 1;by_cases h:l[k].1=1;simp[h];simp[h]
end
section
variable {s:Bs}
theorem z7z(h:(yr s).2.2=0):s.length<=65536/\(yr s).1.length<=s.length:=by unfold yr at h ⊢;split at h;simp at h;rename_i b;rw[if_neg b];have:=ztn s.length s 0 [];rw[A4,AL]at this;exact⟨by omega,this⟩
set_option maxRecDepth 100000 in
set_option maxHeartbeats 4000000 in
theorem z8a{gl:Fr}(hg:GL gl){R:(Bt×List Nd)×Int×Int->Prop}(hR:R ((bl (Yf s).1.1,(Yf s).1.2),(Yf s).2.1,(Yf s).2.2)):
  PC Tp gl 19 [Arg.mk .str (bl s)] [.pair .str (.row tNd),.int .i64,.int .i64] R:=by
 intro h M vs hM ag ha
 match vs,ha with
 |[u1],⟨a1,_⟩=>
  obtain rfl:=Wv (s:=bl s) a1;apply PX.of;apply zo9;intro h1;have k1:Keep h.size h h1:=Keep.push _ _ (Ab _);have z1:h1.size=h.size+1:=Aj _;have B1:Blk h1 h.size #[.string ⟨#[]⟩,.slice Te 0 0]:=Blk.new _ _ _;clear_value h1;have aP:AgM M h1:=ag.keep k1;refine qcf hg hM aP λf q t O rt=>⟨t,_,_,rfl,?_⟩;have B3:=B1.keep (O.keep.get h.size (by omega));have z3:=O.keep.size;have k3:Keep h.size h f:=k1.trans (c:=f) (m:=h.size) ⟨z3,λj A=>O.keep.get j (by omega)⟩ (Ab _);have bz:∀b,b<h.size->q b=M b:=λb w=>O.old b (by omega);have aJ:M h.size=Te:=by
   cases e:M h.size with
   |none=>rfl
   |some x=>have:=ag.lt e;omega
  have ar:q h.size=Te:=by rw[O.old _ (by omega)];exact aJ
  refine⟨λhx=>?_,λhx=>?_⟩;have hx:¬(yr s).2.2=0:=by simpa using hx
  have Q:Yf s=(([],[]),((yr s).2.1:Int),(yr s).2.2):=by unfold Yf;rw[if_neg hx]
  rw[Q]at hR;refine zij (u:=⟨#[]⟩) (v:=⟨Te,0,0⟩) B3 λh7 f7 z7 B7=>⟨_,_,B7.ld (cs:=[.string ⟨#[]⟩,slV ⟨Te,0,0⟩]),?_⟩;exact⟨M,_,Later.same ag ⟨by omega,λj A=>by rw[f7 j (by omega)];exact k3.get j A⟩,z7y (x:=[]) (l:=[]) _ _ zf6,hR⟩;have hx:(yr s).2.2=0:=by simpa using hx
  obtain⟨hs,aU⟩:=z7z hx;have Q:Yf s=match J5 s 32 (0,0) ⟨zw (yr s).1,0,[]⟩with
   |.inl st=>if st.rest=[]then((s,st.nodes),(s.length:Int),0)else(([],[]),st.here s.length,2)
   |.inr e=>(([],[]),e.1,e.2):=by unfold Yf;rw[if_pos hx];rfl
  have ay:=z06 (qbp s);generalize (yr s).1=tl at rt aU Q ay;have rl:=(rowLen rt).1;intro aa;have aQ:Keep f.size f aa:=Keep.push _ _ (Ab _);have bI:aa.size=f.size+1:=Aj _;have a8:Blk aa f.size (ppC s ⟨Te,0,0⟩ 0 0 ⟨Te,0,0⟩ 0 0).toArray:=Blk.new _ _ _;clear_value aa;have az:∀c,f.size<=c->q c=Te:=λc i=>by
   cases e:q c with
   |none=>rfl
   |some x=>have:=O.ag.lt e;omega
  refine⟨λk g=>∃(n:Nat) (rs:Sl) (bs:List Nat),k=(n:Int)/\n<=tl.length/\ORow (f.size+1) g q tTk (zw (tl.take n)) rs bs/\Blk g f.size (ppC s rs 0 0 ⟨Te,0,0⟩ 0 0).toArray/\Keep f.size f g,λk _=>tl.length-k.toNat,⟨0,⟨Te,0,0⟩,[],rfl,by omega,.nil,a8,aQ⟩,?_⟩;rintro k g ⟨n,rs,bs,rfl,hn,ro,Bp,kg⟩;have agg:AgM q g:=O.ag.keep kg;have zg:f.size+1<=g.size:=by have:=Bp.lt;omega
  refine⟨λZ=>?_,λbg=>?_⟩;have Z:n<tl.length:=by have:=of_decide_eq_true Z;omega
  obtain⟨tb,o,e1,e2,e3,e4⟩:=qhk agg rt Z;have V:=zto Z;refine⟨_,⟨e1,by omega,by omega⟩,tl[n].1,tl[n].2.1,tl[n].2.2,?_,?_⟩;rw[qd,Ag];exact⟨by rw[qd];exact e2,by rw[qd];exact e3,by rw[qd];exact e4,trivial⟩;intro S;have aL:Keep g.size g S:=Keep.push _ _ (Ab _);have bL:S.size=g.size+1:=Aj _;have aN:Blk S g.size (ztf 0 0 0).toArray:=Blk.new _ _ _;clear_value S;refine qgr aN λy q1 q2 q3=>⟨tl[n].1,by rw[qd];exact q3.cell rfl,?_⟩;have af:Keep g.size g y:=⟨by omega,λj A=>(q1 j (by omega)).trans (aL.get j A)⟩;have B:=ro.frame (λc i=>af.get c (ro.own c i).2.1) (Fr.le.refl q) λc i=>(ro.own c i).2.2;have L:=Bp.keep (af.get _ (by omega));have ae:Keep f.size f y:=kg.trans (c:=y) (m:=f.size) ⟨by omega,λj A=>af.get j (by omega)⟩ (Ab _);have am:Aa .i64 ((n:Int)+1)=((n+1:Nat):Int):=by rw[w64 (by omega)];omega
  rw[am];refine⟨λw=>⟨_,rfl,rs,by rw[qd];exact L.cell rfl,tl[n].1,tl[n].2.1,tl[n].2.2,q3.ld,?_⟩,λw=>?_⟩;have w:tl[n].1≠1:=by simpa using w
  rw[if_pos w]at V;intro D;have U:Keep y.size y D:=Keep.push _ _ (Ab _);have bJ:D.size=y.size+1:=Aj _;have bA:Blk D y.size (ztf tl[n].1 tl[n].2.1 tl[n].2.2).toArray:=Blk.new _ _ _;clear_value D;refine⟨by rw[qd];exact U.get f.size (by omega),?_⟩;have ax:=B.frame (λc i=>U.get c (B.own c i).2.1) (Fr.le.refl q) λc i=>(B.own c i).2.2;have aE:=L.keep (U.get _ (by omega));have ab:Keep f.size f D:=ae.trans (c:=D) (m:=f.size) ⟨by omega,λj A=>U.get j (by omega)⟩ (Ab _);have a7:(zw (tl.take n)).length<=n:=by have:(zw (tl.take n)).length<=(tl.take n).length:=List.length_filter_le _ _;rw[AN]at this;omega
  refine ORow.app qd0 (by omega) (O.ag.keep ab) ax (by omega) bA (qd1 _ _ _) (by omega) λs' bE bs' ah bB c29 aG=>⟨s',rfl,_,rfl,?_⟩;rw[qd];have aY:f.size∉bs:=λE=>by have:=(ro.own _ E).1;omega
  refine yg qjv qjw (aE.keep (aG _ (by omega) aY)) (by show 1<7;omega) rfl λaT u1 u2 u3=>⟨⟨n+1,s',bs',rfl,by omega,?_,u1,?_⟩,?_⟩;rw[V];exact ah.frame (λc i=>u3 c λe=>by have:=(ah.own c i).1;omega) (Fr.le.refl q) λc i=>(ah.own c i).2.2;refine ab.trans (c:=aT) (m:=f.size) ⟨by omega,λj A=>?_⟩ (Ab _);rw[u3 j (by omega),aG j (by omega) λE=>by have:=(ro.own j E).1;omega];show tl.length-((n+1:Nat):Int).toNat<tl.length-(n:Int).toNat;omega;have w:¬tl[n].1≠1:=by simpa using w
  rw[if_neg w,AR]at V;refine⟨⟨n+1,rs,bs,rfl,by omega,by rw[V];exact B,L,ae⟩,?_⟩;show tl.length-((n+1:Nat):Int).toNat<tl.length-(n:Int).toNat;omega;have aI:n=tl.length:=by have:=of_decide_eq_false bg;omega
  subst aI;rw[A5]at ro;have a7:(zw tl).length<=tl.length:=List.length_filter_le _ _;have aM:=ro.rd agg (all:=bs) (λc i=>i) (by omega);have bj:AgM (MxL q g bs) g:=MxL.ag agg bs;have ak:∀c∈bs,f.size+1<=c:=λc i=>(ro.own c i).1;have an:∀c,c∉bs->MxL q g bs c=q c:=λc i=>by unfold MxL;rw[if_neg i]
  have bu:Fr.le gl (MxL q g bs):=hM.trans (O.le.trans (zel agg bs));have P:PaS f.size g (MxL q g bs) f.size s ⟨zw tl,0,[]⟩ 0 0 (ppO f.size [] ⟨Te,0,0⟩ 0):=by refine⟨rs,0,[],⟨Te,0,0⟩,0,#[],⟨Bp,aM,.nil,bj,⟨Ab _,?_⟩,?_⟩,rfl,rfl⟩;rw[an _ λE=>by have:=ak _ E;omega];exact az _ (Ab _);rintro(⟨h1,_⟩|⟨p,hp,_⟩);exact h1 rfl;cases hp
  have hT:(⟨zw tl,0,[]⟩:PSt).T<=200000:=by unfold PSt.T;simp;omega
  have aZ:=qcc (lo:=f.size) (M:=MxL q g bs) (bp:=f.size) (s:=s) hg bu hs 32 (Ab _) (0,0) g _ 0 0 _ P (by simp) hT ay;refine aZ _ λb a6 st' a' e' O' P' S' n' G=>⟨b,rfl,?_⟩;intro aO au;have fin:∀(ok:Bool) (F:zb) (z:PSt) (a1 e1:Int) (O1:Nat->Prop),PaS f.size F (MxL q g bs) f.size s z a1 e1 O1->Stp g (ppO f.size [] ⟨Te,0,0⟩ 0) F O1->(ok=Tc->Yf s=(([],[]),a1,e1))->(ok=Ta->Yf s=((s,z.nodes),(s.length:Int),0)/\z.nodes.length<=4096/\z.T<=200000)->aO ok F:=by
   intro ok F z a1 e1 O1 P1 S1 hf ht;refine au ok F ?_;have aV:∀c,c<f.size->¬ppO f.size [] ⟨Te,0,0⟩ 0 c:=λc i=>by rintro(h1|⟨h1,_⟩|⟨p,hp,_⟩);omega;exact h1 rfl;cases hp
   have ai:∀j,j<f.size->F[j]?=f[j]?:=λj A=>(S1.fr j (by omega) (aV j A)).trans (kg.get j A);have bC:=S1.le;have Bd:=B3.keep (ai h.size (by omega));have bm:=P1;obtain⟨aj,be,C,H,b1,aF,N,r,bn⟩:=bm;have bN:=N.blk.lt;refine⟨λho=>⟨_,rfl,a1,by rw[qd];exact N.blk.cell rfl,_,rfl,e1,by rw[qd];exact N.blk.cell rfl,rfl,rfl,?_⟩,λho=>⟨_,rfl,H,by rw[qd];exact N.blk.cell rfl,?_⟩⟩;have ho:ok=Tc:=by simpa using ho
   refine zij (u:=⟨#[]⟩) (v:=⟨Te,0,0⟩) Bd λbM aC bO aS=>?_;have I:=aC f.size (by omega);refine⟨by rw[qd];exact I,by rw[qd];exact I,by rw[qd];exact I,_,_,aS.ld (cs:=[.string ⟨#[]⟩,slV ⟨Te,0,0⟩]),?_⟩;rw[hf ho]at hR;exact⟨M,_,Later.same ag ⟨by omega,λj A=>by rw[aC j (by omega),ai j (by omega)];exact k3.get j A⟩,z7y (x:=[]) (l:=[]) _ _ zf6,hR⟩;have ho:ok=Ta:=by simpa using ho
   obtain⟨bq,bD,bH⟩:=ht ho;refine zij (u:=bl s) (v:=H) Bd λY ap bF br=>⟨_,_,br.ld (cs:=[.string (bl s),slV H]),?_⟩;rw[bq]at hR;rw[zf];have ba:MxL q g bs h.size=Te:=by rw[an _ λE=>by have:=ak _ E;omega];exact ar
   have aA:NS f.size Y (MxL q g bs) C H b1 aF:=N.ns.frame (by omega) λc i=>ap c λe=>by have:=(N.ns.own i).1;omega
   have J:AgM (MxL q g bs) Y:=z7t N.ag λj A E=>ap j λe=>E (e ▸ ba);have bP:C.length=z.nodes.length:=by rw[<-r,Ap]
   have aB:=aA.rd J (by omega) λp hp=>by
    have:p.1∈z.nodes:=by rw[<-r];exact List.mem_map_of_mem hp
    have:=qf8 this;omega
   rw[r]at aB;refine⟨MxL (MxL q g bs) Y (qai C b1),_,⟨⟨by omega,λj A=>by rw[ap j (by omega),ai j (by omega)];exact k3.get j A⟩,?_,λc i=>?_,MxL.ag J _⟩,z7y _ _ aB,hR⟩;exact O.le.trans ((zel agg bs).trans (zel J _));have h1:c∉qai C b1:=λE=>by have:=qcg aA E;omega
   have e1:MxL (MxL q g bs) Y (qai C b1) c=MxL q g bs c:=by unfold MxL;rw[if_neg h1]
   rw[e1,an c λE=>by have:=ak c E;omega];exact bz c i
  have aH:=P';obtain⟨aj,be,C,H,b1,aF,N,r,bn⟩:=aH;have bG:=(rowLen N.rd).1;refine⟨_,λ_=>rfl,aj,λ_=>by rw[qd];exact N.blk.cell rfl,λi=>?_,λi=>?_⟩;have w:b=Ta/\0<st'.rest.length:=by
   cases b with
   |false=>simp at i
   |true=>simp at i;exact⟨rfl,by omega⟩
  refine W9 P' λg' P2 S2=>⟨Tc,rfl,fin Tc g' st' _ _ O' P2 (S'.trans S2) (λ_=>?_) (λh=>(by cases h))⟩;rw[Q];cases hr:J5 s 32 (0,0) ⟨zw tl,0,[]⟩with
  |inl x=>rw[hr]at G;rw[G.2]at w ⊢;dsimp only;rw[if_neg λe=>by rw[e]at w;simp at w]
  |inr x=>rw[hr]at G;rw[G.1]at w;exact absurd w.1 (by simp)
  refine fin b a6 st' a' e' O' P' S' (λw=>?_) (λw=>?_);rw[Q];cases hr:J5 s 32 (0,0) ⟨zw tl,0,[]⟩with
  |inl x=>rw[hr]at G;rw[G.1]at w;cases w
  |inr x=>rw[hr]at G;rw[G.2]
  subst w;have hz:st'.rest=[]:=by
   have:¬0<aj.len:=by simpa using i
   exact Bl.1 (by omega)
  cases hr:J5 s 32 (0,0) ⟨zw tl,0,[]⟩with
  |inl x=>rw[hr]at G Q;have okv:=zs4 s 32 _ _ _ hr;rw[<-G.2]at okv Q;dsimp only at Q;rw[if_pos hz]at Q;exact⟨Q,okv.m (by simp),by have:=okv.t;omega⟩
  |inr x=>rw[hr]at G;exact absurd G.1 (by simp)
end
end Go.X
end
section
namespace Go.X
section
theorem ztp(D:Bt)(h:zb)(R:Value->zb->Prop) (H:let b:=h.push (.cells tC 26);XC Tp 19 #[.string D] b (λc d=>∃e f g i,c=.tuple #[.agg #[.string e,slV f],iV g,iV i]/\let j:=d.push (.cells #[.string (⟨#[]⟩:Bt),.slice Te 0 0] 36);XRunU Tp (Af 36 (.pointer (Td ⟨d.size,0,Te⟩)) (.agg #[.string e,slV f])) j (λk=>((i != 0)=Ta->XRunU Tp (Af 26 (.pointer (Td ⟨h.size,0,Te⟩)) (tZ)) k (λl=>∃m n o p,zd l ⟨h.size,0,Te⟩ 0 (tL m n o p)/\R (.tuple #[tA m n o p,iV g,iV i]) l))/\((i != 0)=Tc->∃q r,zd k ⟨d.size,0,Te⟩ 0 [.string q,slV r]/\XC Tp 59 #[.agg #[.string q,slV r],iV 0,iV 1] k (λs t=>∃u v w x,s=tA u v w x/\XRunU Tp (Af 26 (.pointer (Td ⟨h.size,0,Te⟩)) (tA u v w x)) t (λy=>∃z A B C,zd y ⟨h.size,0,Te⟩ 0 (tL z A B C)/\R (.tuple #[tA z A B C,iV g,iV 0]) y)))))):
  XC Tp 15 #[.string D] h R:=
 XF ⟨[],[],[]⟩ [.cell 2 26,.tmp 3,.tmp 4] 22 Tryz.func15 H
end
end Go.X
end
section
namespace Go.X
open Go Go.X Go.Proofs Go.RowKit
section
variable {s:Bs} {M:Fr}
theorem z8b(h:(Yf s).2.2=0):(yr s).2.2=0:=by unfold Yf at h;split at h;assumption;exact h
theorem qms{x:Bs×List Nd}{i j:Int}{v:Value}(h:Y3 M [.pair .str (.row tNd),.int .i64,.int .i64] ((bl x.1,x.2),i,j) v):∃sl:Sl,v=.tuple #[.agg #[.string (bl x.1),slV sl],.int .i64 i,.int .i64 j]/\Rd M (.row tNd) x.2 [slV sl]:=by
 obtain⟨vs,⟨p,rest,rfl,n,r,b,rfl,m,o,rfl,l⟩,rfl⟩:=h;rw[j8 m,j8 l];obtain⟨cs,rfl,c1,c2,rfl,f,k⟩:=n;have f:c1=[.string (bl x.1)]:=f;subst f;obtain⟨sl,rfl⟩:∃sl:Sl,c2=[slV sl]:=by obtain⟨w,e,a,c,q,_⟩:=k;exact⟨⟨a,_,c⟩,by rw[e,q];rfl⟩
 exact⟨sl,rfl,k⟩
set_option maxRecDepth 100000 in
set_option maxHeartbeats 2000000 in
theorem qj0{gl:Fr}(N:GL gl){h:zb}(O:Fr.le gl M)(ag:AgM M h){K:Value->zb->Prop} (t:∀(h':zb) (bs:List Nat) (sk si:Sl),Keep h.size h h'->OT h' (yu s).1 bs (Z2 (yu s).1 sk si)->(∀b∈bs,h.size<=b)->K (.tuple #[.agg #[.int .i64 (yu s).1.kind,.string (yu s).1.text,slV sk,slV si],.int .i64 (yu s).2.1,.int .i64 (yu s).2.2]) h'):
  XC Tp 15 #[.string (bl s)] h K:=by
 apply ztp;intro h1;have J:Keep h.size h h1:=Keep.push _ _ (Ab _);have z1:h1.size=h.size+1:=Aj _;have V:Blk h1 h.size #[.int .i64 0,.string ⟨#[]⟩,.slice Te 0 0,.slice Te 0 0]:=Blk.new _ _ _;clear_value h1;refine(z8a N (s:=s) (R:=λr=>r=((bl (Yf s).1.1,(Yf s).1.2),(Yf s).2.1,(Yf s).2.2)) rfl).go O (ag.keep J) (qb (a:=Arg.mk .str _) (rdStr _) qq) λv i M' r L hv S=>?_;subst S;obtain⟨sl,rfl,rd⟩:=qms hv;refine⟨_,sl,_,_,rfl,?_⟩;have H:=L.keep;have z3:=H.size;have E:Keep h.size h i:=J.trans (c:=i) (m:=h.size) ⟨z3,λj o=>H.get j (by omega)⟩ (Ab _);have R3:=V.keep (H.get h.size (by omega));intro y;have k8:Keep i.size i y:=Keep.push _ _ (Ab _);have z8:y.size=i.size+1:=Aj _;have Y:Blk y i.size #[.string ⟨#[]⟩,.slice Te 0 0]:=Blk.new _ _ _;clear_value y;refine zij (u:=bl (Yf s).1.1) (v:=sl) Y λp U z9 I=>?_;have q:Keep i.size i p:=⟨by omega,λj o=>(U j (by omega)).trans (k8.get j o)⟩;have n:Keep h.size h p:=E.trans (c:=p) (m:=h.size) ⟨q.size,λj o=>q.get j (by omega)⟩ (Ab _);have P:=R3.keep (q.get h.size (by omega));refine⟨λe=>?_,λe=>?_⟩;have e:¬(Yf s).2.2=0:=by simpa using e
 have D:yu s=(.mk 0 (bl []) [] [],(Yf s).2.1,(Yf s).2.2):=by unfold yu;rw[if_neg e]
 rw[D]at t;refine j4 (k:=0) (s:=⟨#[]⟩) (sk:=⟨Te,0,0⟩) (si:=⟨Te,0,0⟩) P λg f z B=>⟨_,_,_,_,B.ld (cs:=[.int .i64 0,.string ⟨#[]⟩,slV ⟨Te,0,0⟩,slV ⟨Te,0,0⟩]),?_⟩;obtain⟨bs,ot,A⟩:=(Own.new (lo:=h.size) (hi:=g.size) (b0:=h.size) (k:=0) (s:=bl []) B (Ab _) (Ab _)).ot;exact t g bs ⟨Te,0,0⟩ ⟨Te,0,0⟩ (n.trans (c:=g) (m:=h.size) ⟨by omega,λj o=>f j (by omega)⟩ (Ab _)) ot (λb w=>(A b w).1);have e:(Yf s).2.2=0:=by simpa using e
 obtain⟨lvs,G,e1,Z,e3,e4⟩:=z6x e;obtain⟨hs,ab⟩:=z7z (z8b e);have D:yu s=(Q9 s (Yf s).1.2 33 0,(s.length:Int),0):=by unfold yu;rw[if_pos e]
 rw[D]at t;rw[e1]at I;rw[Z];refine⟨_,sl,I.ld (cs:=[.string (bl s),slV sl]),?_⟩;have C:AgM M' p:=L.ag.keep q;refine qd3 N hs G (λx e=>by have:=e4 x e;unfold ndW at this;omega) 33 0 1 1 rfl (by omega) (by omega) (by omega) p M' sl (O.trans L.le) C rd _ λaa bs sk si l ot w=>⟨_,_,sk,si,rfl,?_⟩;have Q:=l.size;refine j4 (P.keep (l.get h.size (by omega))) λg f z B=>⟨_,_,sk,si,B.ld (cs:=[_,_,slV sk,slV si]),?_⟩;exact t g bs sk si (n.trans (c:=g) (m:=h.size) ⟨by omega,λj o=>by rw[f j (by omega)];exact l.get j (by omega)⟩ (Ab _)) (ot.frame λc F=>f c (by have:=w c F;omega)) (λc F=>by have:=w c F;omega)
end
section
section
variable {t : Bs} {nodes : List Nd} {lvs : List Nat} {gl : Fr}
theorem qg1(b:GL gl){s:Bs}{R:Tr×Int×Int->Prop}(i:R (yu s)):PC Tp gl 15 [Arg.mk .str (bl s)] [.tree,.int .i64,.int .i64] R:=by
 intro h M vs f ag k
 match vs,k with
 |[u1],⟨a1,_⟩=>obtain rfl:=Wv (s:=bl s) a1;apply PX.of;exact qj0 b f ag λh' bs sk si c ot e=>⟨MxL M h' bs,_,MxL.later ag c e,⟨[_,_,_],⟨_,_,rfl,ot.rdv,_,_,rfl,Jn _ _,_,rfl,Jn _ _⟩,rfl⟩,i⟩
end
end
end Go.X
end
section
namespace Go.X.U
section
def ziw(o:Oper):Option Bool:=match o.op with
 |.fieldAddr _ _ _=>Td Ta
 |.indexAddr _ _ _=>Td Ta
 |.move _=>Td Ta
 |.assign _=>Td Ta
 |.load _ _=>Td Tc
 |.binOp _ _ _ _ _=>Td Ta
 |.call c=>match c.callee with
  |.builtin .len=>Td Ta
  |_=>Te
 |_=>Te
def zdl(o:Oper):Bool:=match ziw o with
 |some _=>Ta
 |none=>Tc
def yx(o:Oper):Bool:=match ziw o with
 |some b=>!b
 |none=>Tc
end
end Go.X.U
end
section
namespace Go.X
section
theorem zwj(gl:Fr)(b:Bt)(R:Tr->Prop) (H:R (Tr.mk 4 b [] [])):
  PC Tp gl 28 [Arg.mk .str b] [.tree] R:=
 PF ⟨[],[],[],[]⟩ [.cell 2 26] 5 Tryz.func28 H
end
end Go.X
end
section
namespace Go.X
open Go Go.X Go.Proofs Go.RowKit
section
variable {h:zb} {g:Bool} {M:Fr} {b:Nat}
def trV(k:Int)(s:Bt)(a b:Sl):Value:=.agg #[.int .i64 k,.string s,slV a,slV b]
theorem zyu{f:FuncId}{args:Array Value}(c:g=Ta){Kt:Bool->zb->Prop}(E:XC Tp f args h λv h'=>∃r,v=.bool r/\Kt r h'):
  ∃J:Value->zb->Prop,(g=Ta->XC Tp f args h λv h'=>∃r:Bool,v=.bool r/\J (.bool r) h')/\(g=Tc->∃r:Bool,J (.bool r) h)/\(g=Ta->∀v h',J v h'->∃r:Bool,v=.bool r)/\∀r:Bool,∀h',J (.bool r) h'->Kt r h':=by
 refine⟨λv h'=>∃r,v=.bool r/\Kt r h',λ_=>XC.mono E λv h' ⟨r,e,H⟩=>⟨r,e,r,rfl,H⟩,λb=>(by rw[c]at b;cases b),λ_ v h' ⟨r,e,_⟩=>⟨r,e⟩,λr h' ⟨i,e,H⟩=>?_⟩;injection e with e;subst e;exact H
theorem qj1{h h1:zb}{s:Sl}(f:g=Ta){Kt:Sl->zb->Prop}(E:Kt s h1):
  ∃J:Value->zb->Prop,(g=Ta->J (slV s) h1)/\(g=Tc->∃x:Sl,J (slV x) h)/\(g=Ta->∀v h',J v h'->∃x:Sl,v=slV x)/\∀x:Sl,∀h',J (slV x) h'->Kt x h':=by
 refine⟨λv h'=>∃x,v=slV x/\Kt x h',λ_=>⟨s,rfl,E⟩,λc=>(by rw[f]at c;cases c),λ_ v h' ⟨x,e,_⟩=>⟨x,e⟩,λx h' ⟨b,e,H⟩=>?_⟩;have:x=b:=by unfold slV at e;injection e with e1 e2 e3;cases x;cases b;simp_all
 subst this;exact H
theorem qmt(o:M b=Te){m k:Tr}{w1 f:List Value}(h1:Rd M .tree m w1)(p:Rd M .tree k f)(h:w1.length=4)(n:f.length=4):Rd (Mx M b (w1++f).toArray) (.row .tree) [m,k] [slV ⟨Td ⟨b,0,Te⟩,2,2⟩]:=by
 have le:Fr.le M (Mx M b (w1++f).toArray):=λc cs e=>by unfold Mx;by_cases l:c=b;subst l;rw[o]at e;cases e;rw[if_neg l];exact e
 refine⟨_,rfl,_,_,rfl,by simp,.inr ⟨b,0,_,rfl,by unfold Mx;rw[if_pos rfl],λi hi=>?_⟩⟩;have hi:i<2:=hi;rcases(by omega:i=0\/i=1)with rfl|rfl;have:cut (w1++f).toArray (0+0*sz .tree) (sz .tree)=w1:=by show List.take 4 (List.drop 0 (w1++f))=w1;rw[BQ,<-h,Cu]
 rw[this];exact Rd.mono le h1;have:cut (w1++f).toArray (0+1*sz .tree) (sz .tree)=f:=by show List.take 4 (List.drop 4 (w1++f))=f;rw[List.drop_left' h,<-n,A5]
 rw[this];exact Rd.mono le p
theorem qmu{s1 s2:Bt}:Rd (Mx M b #[.string s1,.string s2]) (.row .str) [s1,s2] [slV ⟨Td ⟨b,0,Te⟩,2,2⟩]:=by refine⟨_,rfl,_,_,rfl,by simp,.inr ⟨b,0,_,rfl,by unfold Mx;rw[if_pos rfl],λi hi=>?_⟩⟩;have hi:i<2:=hi;rcases(by omega:i=0\/i=1)with rfl|rfl <;> rfl
theorem zwk{T:Tr}{k:Int}{s:Bt}{a b:Sl}(h:RdV M .tree T (trV k s a b)):Rd M .tree T [.int .i64 k,.string s,slV a,slV b]:=by
 unfold RdV at h;simp only[zhf,if_true]at h;obtain⟨cs,e,c⟩:=h;unfold trV at e;injection e with e;have:cs=[.int .i64 k,.string s,slV a,slV b]:=by have:=congrArg Array.toList e;simpa using this.symm
 rw[<-this];exact c
section
variable {gl : Fr} {b2 b29 : Nat} {k2 k29 : Int} {s2 : Bt} {a2 c2 a29 c29 : Sl} {h : zb} {M : Fr}
end
end
section
variable {v:Tr} {sk si:Sl} {lv i:Nat}
section
variable {gl M : Fr} {b N : Nat} {ln : Bool}
def qd5(gl M:Fr)(b N:Nat)(ln:Bool)(F:FuncId)(args:Array Value)(p:Bs):Prop:=
 ∀(l:Bs) (g:zb) (K:Value->zb->Prop),Prn g b ln (N:Int) l->Low gl M b g->l.length+p.length<=140737488355328->(∀g',Prn g' b ln (N:Int) (l++p)->FrP b g g'->K (.tuple #[]) g')->XC Tp F args g K
set_option maxRecDepth 100000 in
set_option maxHeartbeats 4000000 in
theorem z8c{F:FuncId}(hF:zh Tp F=Ta)(hi:Rd M (.row .tree) v.items [slV si])(Z:N<=8)(hv:lv<=90){o c:UInt8}{ps:List Bs}(P:ps.length=v.items.length)(U:v.items.length<=1000000) (hE:∀(i:Nat) (h:i<ps.length),qd5 gl M b N ln F (#[.pointer (Td ⟨b,0,Te⟩)]++#[trV v.kind v.text sk si,.int .i64 (i:Int),.int .i64 ((lv+1:Nat):Int)]++#[]) ps[i]):
  qd5 gl M b N ln 169 #[.pointer (Td ⟨b,0,Te⟩),trV v.kind v.text sk si,.int .i64 (lv:Int),.string (bl [o,c]),.func (.func F) #[.pointer (Td ⟨b,0,Te⟩)] #[]] (o::Xw ln N lv ps++[c]):=by
 intro l g K H L hl hK;have ae:=(rowLen hi).1;have S:=H.lt;have e1:(o::Xw ln N lv ps++[c]).length=2+(Zh ln N (lv+1) ps).length+(if ps=[]then []else yl ln N lv:Bs).length:=by unfold Xw;simp only[Aq,Ah,A4];omega
 rw[e1]at hl;apply Xu;intro h1;have V:Keep g.size g h1:=Keep.push _ _ (Ab _);have B1:h1[g.size]?=Td (.cells #[.int .i64 v.kind,.string v.text,slV sk,slV si] 26 (0,0)):=yd _ _;clear_value h1;have f1:=FrP.ofKeep V (Da S);have H1:=H.keep V;refine⟨_,rfl,⟨by decide,by rw[zf];simp⟩,?_⟩;rw[add0];have eo:zr (bl [o,c]) (0:Int).toNat=(o.toNat:Int):=by rw[jm];rfl
 have ec:zr (bl [o,c]) (1:Int).toNat=(c.toNat:Int):=by rw[jm];rfl
 rw[eo];refine Qu H1 (by omega) o λw H4 k4 o4=>⟨_,rfl,?_⟩;have O:FrP b g w:=f1.trans ⟨k4,o4⟩;have box:∀g',FrP b w g'->Blk g' g.size #[.int .i64 v.kind,.string v.text,slV sk,slV si]:=λg' f=>⟨_,f.blk ((⟨k4,o4⟩:FrP b h1 w).blk B1)⟩;refine⟨si,Blk.cellAdd (o:=0) (k:=3) (box w (FrP.refl _ _)) rfl,?_⟩;refine⟨λi g'=>∃n:Nat,i=(n:Int)/\n<=ps.length/\Prn g' b ln (N:Int) (l++[o]++Zh ln N (lv+1) (ps.take n))/\FrP b w g',λi _=>ps.length-i.toNat,⟨0,rfl,by omega,by simpa[Zh]using H4,FrP.refl _ _⟩,?_⟩;rintro i g' ⟨n,rfl,hn,B,f'⟩;have I:=O.trans f';have L':=L.frp I;have ab:=zyl ln N (lv+1) hn;have s:(l++[o]++Zh ln N (lv+1) (ps.take n)).length=l.length+1+(Zh ln N (lv+1) (ps.take n)).length:=by rw[Ah,Ah];rfl
 refine⟨λr=>?_,λx=>?_⟩;have r:n<ps.length:=by have:=of_decide_eq_true r;omega
 have t:=zyl ln N (lv+1) (ps:=ps) (n:=n+1) r;have C:=znl ln N (lv+1) r;rw[C]at t;simp only[Ah]at t;intro E A;have p:∀q,Prn q b ln (N:Int) (l++[o]++Zh ln N (lv+1) (ps.take n)++(if n=0 then []else [44]))->FrP b w q->E q:=λq u y=>A _ (by have Y:=L.frp (O.trans y);rw[w64 (by omega),show(lv:Int)+1=((lv+1:Nat):Int)from by omega];refine qdv u Y Z (by omega) (by rw[Ah,s];omega) λG Q D=>⟨rfl,v.kind,v.text,sk,si,(box G (y.trans D)).ld (cs:=[_,_,slV sk,slV si]),hF,?_⟩;refine hE n r _ _ _ Q (Y.frp D) (by rw[Ah,Ah,s];omega) λg5 H5 f5=>⟨rfl,⟨n+1,by rw[w64 (by omega)];omega,r,?_,y.trans (D.trans f5)⟩,?_⟩;rw[C];simpa[AH]using H5;show ps.length-(Aa .i64 ((n:Int)+1)).toNat<ps.length-(n:Int).toNat;rw[w64 (by omega)];omega);refine⟨λm=>?_,λm=>?_⟩;have h0:n≠0:=by have:=of_decide_eq_true m;omega
 refine⟨_,rfl,?_⟩;rw[add0];refine Qu B (by rw[s];rw[if_neg h0]at t;simp only[Aq,A4]at t;omega) 44 λq u k2 o2=>⟨_,rfl,p q ?_ (f'.trans ⟨k2,o2⟩)⟩;rw[if_neg h0];exact u;have h0:n=0:=by have:=of_decide_eq_false m;omega
 refine p g' ?_ f';rw[if_pos h0,AR];exact B;have x:n=ps.length:=by have:=of_decide_eq_false x;omega
 subst x;rw[A5]at B s;intro J z;have p:∀q,Prn q b ln (N:Int) (l++[o]++Zh ln N (lv+1) ps++(if ps=[]then []else yl ln N lv))->FrP b w q->J q:=λq u y=>z _ (by refine⟨_,rfl,⟨by decide,by rw[zf];simp⟩,?_⟩;rw[add0,ec];refine Qu u (by rw[Ah,s];omega) c λG Q k3 o3=>⟨_,rfl,hK G ?_ (O.trans (y.trans ⟨k3,o3⟩))⟩;unfold Xw;simpa[AH]using Q);refine⟨si,Blk.cellAdd (o:=0) (k:=3) (box g' f') rfl,λm=>?_,λm=>?_⟩;have h0:ps≠[]:=λe=>by
  have:=of_decide_eq_true m;have aa:v.items.length=0:=by rw[<-P,e];rfl
  omega
 rw[if_neg h0]at hl;refine qdv B L' Z (by omega) (by rw[s];omega) λq u y=>⟨rfl,p q ?_ (f'.trans y)⟩;rw[if_neg h0];exact u;have h0:ps=[]:=by have:=of_decide_eq_false m;apply AO;omega
 refine p g' ?_ f';rw[if_pos h0,AR];exact B
theorem qch:zh Tp 170=Ta:=by kernel_rfl
theorem z1k:zh Tp 171=Ta:=by kernel_rfl
set_option maxRecDepth 100000 in
theorem qj2(hi:Rd M (.row .tree) v.items [slV si])(h:i<v.items.length){p:Bs}(x:∀(c e:Sl),Rd M (.row .str) v.items[i].keys [slV c]->Rd M (.row .tree) v.items[i].items [slV e]->qd5 gl M b N ln 97 #[.pointer (Td ⟨b,0,Te⟩),trV v.items[i].kind v.items[i].text c e,.int .i64 (lv:Int)] p):
  qd5 gl M b N ln 170 #[.pointer (Td ⟨b,0,Te⟩),trV v.kind v.text sk si,.int .i64 (i:Int),.int .i64 (lv:Int)] p:=by
 intro l g K H L u y;have q:=(rowLen hi).1;apply zap;intro h1;have n:Keep g.size g h1:=Keep.push _ _ (Ab _);have z:Blk h1 g.size #[.int .i64 v.kind,.string v.text,slV sk,slV si]:=Blk.new _ _ _;clear_value h1;have f:=FrP.ofKeep n (Da H.lt);have m:=L.frp f;obtain⟨a,c,e,w,A,s,t⟩:=zd9 m.ag hi h;refine⟨si,Blk.cellAdd (o:=0) (k:=3) z rfl,a,⟨w,by omega,by omega⟩,_,_,c,e,by rw[Ag];exact A,?_⟩;exact x c e s t l h1 _ (H.keep n) m u λg' r f'=>⟨rfl,y g' r (f.trans f')⟩
set_option maxRecDepth 100000 in
theorem qci(hg:GL gl)(hb:Brn gl)(F:Rd M (.row .str) v.keys [slV sk])(hi:Rd M (.row .tree) v.items [slV si])(h:i<v.items.length)(h2:i<v.keys.length)(z:(lb v.keys[i]).length<=1048576){p:Bs}(hE:∀(c e:Sl),Rd M (.row .str) v.items[i].keys [slV c]->Rd M (.row .tree) v.items[i].items [slV e]->qd5 gl M b N ln 97 #[.pointer (Td ⟨b,0,Te⟩),trV v.items[i].kind v.items[i].text c e,.int .i64 (lv:Int)] p):
  qd5 gl M b N ln 171 #[.pointer (Td ⟨b,0,Te⟩),trV v.kind v.text sk si,.int .i64 (i:Int),.int .i64 (lv:Int)] (zf4 ln v.keys[i] p):=by
 intro l g K H L C O;unfold zf4 at C O;simp only[Ah,Aq]at C;have ab:=(rowLen hi).1;have P:=(rowLen F).1;apply W8;intro h1;have G:Keep g.size g h1:=Keep.push _ _ (Ab _);have U:h1[g.size]?=Td (.cells #[.int .i64 v.kind,.string v.text,slV sk,slV si] 26 (0,0)):=yd _ _;clear_value h1;have E:=FrP.ofKeep G (Da H.lt);have A:=L.frp E;obtain⟨a,y,x,w,r⟩:=z0q A.ag F h2 (i:=(i:Int)) rfl (L:=sk.len) rfl (Q:=λx=>x=v.keys[i]) rfl;subst r;refine⟨sk,Blk.cellAdd (o:=0) (k:=2) ⟨_,U⟩ rfl,a,y,v.keys[i],w,?_⟩;refine zym hg hb (H.keep G) A z (by omega) λh6 H6 f6=>⟨rfl,_,rfl,?_⟩;rw[add0];refine Qu H6 (by simp only[Ah];omega) 58 λS u V o9=>⟨_,rfl,?_⟩;have I:FrP b h1 S:=f6.trans ⟨V,o9⟩;intro t q;have f:∀n,Prn n b ln (N:Int) (l++(znd (lb v.keys[i])).1++[58]++(if ln then [32]else []))->FrP b h1 n->t n:=λn s D=>q _ (by have J:=A.frp D;obtain⟨a',c,e,e1,e2,e3,e4⟩:=zd9 J.ag hi h;refine⟨si,Blk.cellAdd (o:=0) (k:=3) ⟨_,D.blk U⟩ rfl,a',⟨e1,by omega,by omega⟩,_,_,c,e,by rw[Ag];exact e2,?_⟩;refine hE c e e3 e4 _ n _ s J (by simp only[Ah,Aq,A4];omega) λg' Y f'=>⟨rfl,O g' ?_ (E.trans (D.trans f'))⟩;simpa[AH]using Y);have B:=u;obtain⟨p9,s9,e9,aa,Z⟩:=B;refine⟨_,rfl,ln,Blk.cellAdd (o:=0) (k:=2) (cs:=#[.pointer p9,slV s9,.bool ln,.int .i64 (N:Int)]) ⟨_,e9⟩ rfl,λm=>?_,λm=>?_⟩;subst m;refine⟨_,rfl,?_⟩;rw[add0];refine Qu u (by simp only[if_true,Aq,A4]at C;simp only[Ah,Aq,A4];omega) 32 λn s k2 o2=>⟨_,rfl,f n s (I.trans ⟨k2,o2⟩)⟩;subst m;refine f S ?_ I;simpa using u
end
end
section
section
variable {gl M : Fr} {b N : Nat} {ln : Bool}
theorem ztq{g:zb}{l:Bs}(H:Prn g b ln (N:Int) l)(s:Bt)(c:l.length+(lb s).length<=140737488355328){K:Value->zb->Prop}(e:∀g',Prn g' b ln (N:Int) (l++lb s)->Keep b g g'->Otk g g'->K (.tuple #[.int .i64 ((lb s).length:Int),.nilIface]) g'):
  XC Tp 85 #[.pointer (Td ⟨b,0,Te⟩),.string s] g K:=by
 have:=Yz H (lb s) c e;rw[Y4]at this;exact this
set_option maxRecDepth 100000 in
set_option maxHeartbeats 2000000 in
theorem qd6(J:GL gl)(Q:Brn gl)(U:N<=8):∀(n:Nat) (v:Tr) (lv:Nat) (sk si:Sl),n<=1000000->tsz v<=n->Qt zn v=Ta->Sm v->lv+tdp v<=90->Rd M (.row .str) v.keys [slV sk]->Rd M (.row .tree) v.items [slV si] ->
  qd5 gl M b N ln 97 #[.pointer (Td ⟨b,0,Te⟩),trV v.kind v.text sk si,.int .i64 (lv:Int)] (jz ln N v lv)
 |0,v,lv,sk,si,_,h,_,_,_,_,_=>by have:=Q6 v;omega
 |n+1,v,lv,sk,si,hn,hz,hok,hsm,hd,hk,hi=>by
  intro l g K H L t r;have f:=hok;rw[y5,Ao]at f;have s:∀(i:Nat) (h:i<v.items.length) (m p:Sl),Rd M (.row .str) v.items[i].keys [slV m]->Rd M (.row .tree) v.items[i].items [slV p]->qd5 gl M b N ln 97 #[.pointer (Td ⟨b,0,Te⟩),trV v.items[i].kind v.items[i].text m p,.int .i64 ((lv+1:Nat):Int)] (jz ln N v.items[i] (lv+1)):=λi h m p h1 h2=>by
   have I:=AE h;have hs:=yj I;have ab:=zps I;have C:Qt zn v.items[i]=Ta:=by rw[jo,Av]at f;exact f.2 _ I
   exact qd6 J Q U n v.items[i] (lv+1) m p (by omega) (by omega) C (hsm.item I) (by omega) h1 h2
  have D:v.items.length<=1000000:=by have:=Yx v.items;rw[y0]at hz;omega
  rw[Yc]at t r;apply Xt;intro h1;have Z:Keep g.size g h1:=Keep.push _ _ (Ab _);have E:Blk h1 g.size #[.int .i64 v.kind,.string v.text,slV sk,slV si]:=Blk.new _ _ _;clear_value h1;have B:=FrP.ofKeep Z (Da H.lt);have G:=H.keep Z;have Y:=L.frp B;refine⟨v.kind,Blk.cellAdd (o:=0) (k:=0) E rfl,λq=>?_,λq=>⟨λu=>?_,λu=>⟨λy=>?_,λy=>⟨λz=>?_,λz=>?_⟩⟩⟩⟩;have q:v.kind=1:=eq_of_beq q;rw[if_pos q]at t r;refine⟨_,rfl,?_⟩;rw[add0];exact Yz G [110,117,108,108] t λg' w O V=>⟨_,_,rfl,r g' w (B.trans ⟨O,V⟩)⟩;have A:v.kind≠1:=λe=>by rw[e]at q;cases q
  have u:v.kind=4:=eq_of_beq u;rw[if_neg A,if_pos u]at t r;exact⟨v.text,Blk.cellAdd (o:=0) (k:=1) E rfl,zym J Q G Y hsm.text t λg' w f'=>⟨rfl,r g' w (B.trans f')⟩⟩;have A:v.kind≠1:=λe=>by rw[e]at q;cases q
  have F:v.kind≠4:=λe=>by rw[e]at u;cases u
  have y:v.kind=5:=eq_of_beq y;rw[if_neg A,if_neg F,if_pos y]at t r;refine⟨v.kind,v.text,sk,si,E.ld (cs:=[_,_,slV sk,slV si]),?_⟩;refine z8c (o:=91) (c:=93) (ps:=v.items.map λx=>jz ln N x (lv+1)) qch hi U (by omega) (Ap _) D (λi h=>?_) l h1 _ G Y t λg' w f'=>⟨rfl,r g' w (B.trans f')⟩;rw[Ap]at h;rw[CF];exact qj2 hi h λm p S a2=>s i h m p S a2;have A:v.kind≠1:=λe=>by rw[e]at q;cases q
  have F:v.kind≠4:=λe=>by rw[e]at u;cases u
  have P:v.kind≠5:=λe=>by rw[e]at y;cases y
  have z:v.kind=6:=eq_of_beq z;rw[if_neg A,if_neg F,if_neg P,if_pos z]at t r;have aa:v.keys.length=v.items.length:=by have:=f.1;unfold zn at this;simp[z]at this;exact this.1.2
  refine⟨v.kind,v.text,sk,si,E.ld (cs:=[_,_,slV sk,slV si]),?_⟩;refine z8c (o:=123) (c:=125) (ps:=List.zipWith (zf4 ln) v.keys (v.items.map λx=>jz ln N x (lv+1))) z1k hi U (by omega) (by rw[List.length_zipWith,Ap];omega) D (λi h=>?_) l h1 _ G Y t λg' w f'=>⟨rfl,r g' w (B.trans f')⟩;rw[List.length_zipWith,Ap]at h;rw[List.getElem_zipWith,CF];exact qci J Q hk hi (by omega) (by omega) (hsm.key (AE _)) λm p S a2=>s i (by omega) m p S a2;have A:v.kind≠1:=λe=>by rw[e]at q;cases q
  have F:v.kind≠4:=λe=>by rw[e]at u;cases u
  have P:v.kind≠5:=λe=>by rw[e]at y;cases y
  have n6:v.kind≠6:=λe=>by rw[e]at z;cases z
  rw[if_neg A,if_neg F,if_neg P,if_neg n6]at t r;refine⟨_,rfl,v.text,Blk.cellAdd (o:=0) (k:=1) E rfl,?_⟩;rw[add0];exact ztq G v.text t λg' w O V=>⟨_,_,rfl,r g' w (B.trans ⟨O,V⟩)⟩
end
end
end Go.X
end
section
namespace Go.X
section
theorem zht(gl:Fr)(c:Tr)(R:Bool->Prop) (H:∃a:Bool->Prop,((c.kind != 7)=Ta->PC Tp gl 96 [Arg.mk .tree (Tr.mk c.kind c.text c.keys c.items)] [.bool] a)/\∀b:Bool,((c.kind != 7)=Ta->a b)->R (bif (c.kind != 7)then b else Tc)):
  PC Tp gl 95 [Arg.mk .tree c] [.bool] R:=
 PF ⟨[],[],[],[]⟩ [.tmp 2] 10 Tryz.func95 H
end
section
variable {gl:Fr} {v:Tr} {R:Bool -> Prop}
theorem z8d(i:GL gl)(f:Sm v)(h:R (decide (v.kind≠7)&&zn v)):PC Tp gl 95 [Arg.mk .tree v] [.bool] R:=by
 apply zht;simp only[zam];refine⟨λb=>b=zn v,λ_=>z5r i f rfl,λb c=>?_⟩;cases hk:(v.kind != 7)with
 |false=>
  have e:v.kind=7:=by simpa using hk
  have:(decide (v.kind≠7)&&zn v)=Tc:=by simp[e]
  rw[this]at h;simpa[hk]using h
 |true=>
  have e:v.kind≠7:=by simpa using hk
  have c:=c hk;subst c;have:(decide (v.kind≠7)&&zn v)=zn v:=by simp[e]
  rw[this]at h;simpa[hk]using h
theorem ztr(I:GL gl)(D:Sm v)(o:R (zy v)):PC Tp gl 33 [Arg.mk .tree v] [.bool] R:=by
 intro h M vs C ag H
 match vs,H with
 |[u],⟨s,_⟩=>
  have s:RdV M .tree v u:=s;have n:=s;obtain⟨sk,si,rfl,U,Y⟩:=yz s;apply PX.of;apply zl7 v.kind v.text sk si;intro h1;have q:Later h M h1 M:=Later.push ag _;have s1:h1.size=h.size+1:=Aj _;have f:∀h':zb,Keep h1.size h1 h'->zd h' ⟨h.size,0,Te⟩ 0 [.int .i64 v.kind,.string v.text,slV sk,slV si]:=λh' k=>z4p (h':=h') (by rw[s1]at k;exact k);clear_value h1;refine⟨v.kind,v.text,sk,si,f h1 (Keep.refl _ _),?_⟩;have A:PC Tp gl 93 [Arg.mk .tree v] [.bool] (λr=>r=Zi v):=zx5 D rfl;refine A.go (vs:=[.agg #[.int .i64 v.kind,.string v.text,slV sk,slV si]]) (C.trans q.le) q.ag (qb (RdV.mono q.le n) qq) λw J Q r t l E=>?_;refine⟨r,zib l,v.kind,v.text,sk,si,λ_=>f J t.keep,?_⟩;have c:=q.trans t;refine⟨λw y=>∃b,w=.bool b/\(r=Ta->b=Qt (λx=>decide (x.kind≠7)&&zn x) v)/\∃B,Later h M y B,λO=>?_,λm=>⟨Ta,Ta,rfl,λe=>(by rw[e]at m;cases m),Q,c⟩,λ_ w y ⟨b,e,_⟩=>⟨b,e⟩,?_⟩;refine(zx6 (F:=95) (by kernel_rfl) (p:=λx=>decide (x.kind≠7)&&zn x) (λx S=>z8d I S rfl) v D (C.trans c.le) t.ag (RdV.mono c.le n)).go λw Z L b G i z=>⟨b,zib i,b,rfl,λ_=>z,L,c.trans G⟩;rintro b y ⟨V,e,N,B,P⟩;cases e;refine⟨B,_,P,Xl.2 (rdBool _),?_⟩;unfold zy at o;rw[<-E]at o;cases r with
  |false=>exact o
  |true=>rw[cond_true,N rfl];exact o
end
end Go.X
end
section
namespace Go.X
open Go Go.Lib
section
variable {s t:Bs} {r a:Nat}
theorem qj3{T:List Tk}{v:Tr}{m:Nat}(h:s.length<=65536)(L:Lex s 0 s.length T)(f:PV s 32 v (zw T) m)(o:m<=4096):yu s=(v,(s.length:Int),0):=by
 have k:=z6z L h;obtain⟨_,_,c⟩:=zki 32 v _ m f;obtain⟨new,e,n⟩:=c (0,0) ⟨zw T,0,[]⟩ [] (by simp) (by simp;omega);have b:Yf s=((s,new),(s.length:Int),0):=by unfold Yf;rw[k];dsimp only;rw[if_pos rfl,e];dsimp only;rw[if_pos rfl,A8]
 unfold yu;rw[b];dsimp only;rw[if_pos rfl];have:=n.val new (λi y l=>by simp only[A4,AL];exact l) 33 (by omega);simp only[A4]at this;rw[this]
theorem qg2:(Bj 32).all (λk=>decide (ztb k≠0)||(zkd [48,48,Bb (48+k / 16),qgf (k % 16)]==Td k))=Ta:=by kernel_rfl
theorem qcj(h:z1z r)(l:32<=r)(f:r≠34)(i:r≠92)(m:Bs):∃c t,encodeRune (r:Int)++m=c::t/\c≠34/\c≠92:=by
 obtain⟨_,b,_⟩:=zwc h m;by_cases n:r<128;have e:encodeRune (r:Int)=[(r:Int).toNat.toUInt8]:=by unfold encodeRune;rw[encodeRuneZ_one (by omega) (by omega)];rfl
 have b0:=z1a (x:=(r:Int)) (by omega) (by omega);refine⟨_,m,by rw[e];rfl,λe=>?_,λe=>?_⟩ <;> (rw[e]at b0;simp at b0;omega);have k:=zyi h (by omega);cases he:encodeRune (r:Int)with
 |nil=>rw[he]at b;simp at b
 |cons c t=>have:=k c (by rw[he];exact Am);exact⟨c,t++m,rfl,λe=>(by subst e;simp at this),λe=>(by subst e;simp at this)⟩
theorem qck(h:z1z r)(m:Bs):zan (z15 r++m)=Td (r,(z15 r).length)/\(z15 r++m).head?≠Td 34/\z15 r≠[]:=by
 unfold z15;by_cases h0:ztb r≠0;rw[if_pos h0];have i:(r=34\/r=92)\/r=8\/r=12\/r=10\/r=13\/r=9:=by unfold ztb at h0;by_cases a:r=34\/r=92;exact .inl a;rw[if_neg a]at h0;by_cases b:r=8;exact .inr (.inl b);rw[if_neg b]at h0;by_cases c:r=12;exact .inr (.inr (.inl c));rw[if_neg c]at h0;by_cases d:r=10;exact .inr (.inr (.inr (.inl d)));rw[if_neg d]at h0;by_cases e:r=13;exact .inr (.inr (.inr (.inr (.inl e))));rw[if_neg e]at h0;by_cases f:r=9;exact .inr (.inr (.inr (.inr (.inr f))));rw[if_neg f]at h0;exact absurd rfl h0
 rcases i with(rfl|rfl)|rfl|rfl|rfl|rfl|rfl <;> exact⟨rfl,by simp,by simp⟩;rw[if_neg h0];have s:r≠34:=λe=>h0 (by subst e;decide)
 have o:r≠92:=λe=>h0 (by subst e;decide);by_cases k:32<=r;rw[if_pos k];obtain⟨n,w,y⟩:=zwc h m;obtain⟨c,t,e,q,u⟩:=qcj h k s o m;refine⟨?_,by rw[e];simpa using q,λe=>by rw[e]at w;simp at w⟩;unfold zan;have z:zlg (dec (encodeRune (r:Int)++m))=Tc:=by rw[n];unfold zlg;simp only[Cp,beq_eq_false_iff_ne,ne_eq];by_cases x:r=65533;exact .inr (by have:=y (by omega);omega);exact .inl x
 rw[if_neg (by rw[e];simpa using u),if_neg (by rw[z,n];rintro(h|h);omega;cases h),n];rw[if_neg k];have:=Av.1 qg2 r (AU.2 (by omega));rw[BK]at this;have l:zkd [48,48,Bb (48+r / 16),qgf (r % 16)]=Td r:=by rcases this with h|h;exact absurd (of_decide_eq_true h) h0;exact eq_of_beq h
 refine⟨?_,by simp,by simp⟩;unfold zan;rw[if_pos (show List.head? ([92,117,48,48,Bb (48+r / 16),qgf (r % 16)]++m)=Td 92 from rfl)];unfold qfy;simp only[AD,A8];rw[show qbn 117=Te from by decide];dsimp only;rw[if_pos trivial];unfold qfx;have p:zkd (48::48::Bb (48+r / 16)::qgf (r % 16)::m)=Td r:=by unfold zkd at l ⊢;rw[if_pos (by simp)]at l;rw[if_pos (by simp only[Aq];omega)];exact l
 rw[p];dsimp only;rw[if_neg (by omega),if_pos (by omega)];rfl
theorem z8e(rest:Bs):∀(k:Nat) (t:Bs),t.length=k->Z8 t=Ta->zeo (zbi t++34::rest)=(t,(zbi t).length+1,Ta):=by
 intro k;induction k using Dc with
 |_ k r=>
  intro t w h;by_cases f:t=[];subst f;rw[show zbi ([]:Bs)++34::rest=34::rest from rfl,Js (by simp),if_pos (show(34::rest).head?=Td 34 from rfl)];rfl;have u:=Bv.2 f;have b:zlg (dec t)=Tc:=by
   rw[Z0 f]at h;cases hb:zlg (dec t)with
   |true=>rw[hb]at h;cases h
   |false=>rfl
  have i:Z8 (t.drop (dec t).2)=Ta:=by rw[Z0 f,b]at h;simpa using h
  have x:=wy t;have q:=zyj f b;have n:=zv1 f b;have l:=zpq t;have c:zbi t=z15 (dec t).1++zbi (t.drop (dec t).2):=by rw[<-q,<-zkj,B8]
  have m:=r (t.drop (dec t).2).length (by rw[AI];omega) _ rfl i;obtain⟨s,p,o⟩:=qck l (zbi (t.drop (dec t).2)++34::rest);rw[c,AH,Js (by intro e;exact o (List.append_eq_nil_iff.1 e).1),if_neg p,s];dsimp only;rw[Dl,m,n];dsimp only;rw[B8,Ah,CP]
def zf7(t:Bs):Bs:=34::zbi t++[34]
theorem zyv(t:Bs):(zf7 t).length=(zbi t).length+2:=by unfold zf7;simp
theorem zts{t s rest:Bs}(c:Z8 t=Ta)(b:s.drop a=zf7 t++rest):yq s a=(t,a+(zf7 t).length,0):=by
 have e:s.drop (a+1)=zbi t++34::rest:=by rw[<-BM,b];unfold zf7;simp
 unfold yq;rw[b,if_pos (by unfold zf7;rfl),e,z8e rest _ t rfl c];simp only[if_true];rw[zyv,show a+1+((zbi t).length+1)=a+((zbi t).length+2)from by omega]
theorem zyw(b:Z8 t=Ta):(Xn (zf7 t)).1=t:=by have:=zts (s:=zf7 t) (a:=0) (rest:=[]) b (by simp);unfold Xn;rw[this];dsimp only;rw[if_neg (by omega)]
theorem z8f{t s rest:Bs}(e:Z8 t=Ta)(b:s.drop a=zf7 t++rest):Z5 s a=(8,a+(zf7 t).length,0):=by have c:=zts e b;unfold Z5;rw[b,show zf7 t++rest=34::(zbi t++[34]++rest)from rfl];dsimp only;rw[if_neg (by decide),if_neg (by decide),if_pos rfl,c,if_pos rfl]
theorem Ql{s rest:Bs}{c:UInt8}(b:c∈ya)(e:s.drop a=c::rest):Z5 s a=(2+indexByte ya c,a+1,0):=by unfold Z5;rw[e];dsimp only;rw[if_pos b]
theorem qw{s r:Bs}(h:s.drop a=r)(b:r≠[]):a<s.length:=by rcases AX a s.length with h1|h1;exact h1;rw[Br h1]at h;exact absurd h.symm b
theorem Lex.step{a b e:Nat}{k:Int}{T:List Tk}(h:Z5 s a=(k,e,0))(c:a<s.length)(L:Lex s e b T):Lex s a b ((k,((a:Int),(e:Int)))::T):=by have:=Lex.cons (s:=s) (i:=a) (j:=b) (T:=T) c (by rw[h]) (by rw[h];exact L);rw[h]at this;exact this
theorem qj4{t s rest:Bs}{a d:Nat}(h:Z8 t=Ta)(e:s.drop a=zf7 t++rest):PV s (d+1) (.mk 4 (bl t) [] []) [(8,((a:Int),((a+(zf7 t).length:Nat):Int)))] 1:=by
 have c:=zyv t;have f:a+(zf7 t).length<=s.length:=by have:=congrArg Cd e;rw[AI,Ah]at this;omega
 have b:qp s ((a:Int),((a+(zf7 t).length:Nat):Int))=zf7 t:=by rw[zbk (by dsimp only;omega) (by dsimp only;omega) (by dsimp only;omega)];unfold J4;simp only[Ag];rw[e,CI,Cu]
 refine⟨_,.inl ⟨rfl,show zu 8≠0 by decide,show zu 8≠5 by decide,show zu 8≠6 by decide,?_,rfl⟩⟩;dsimp only;rw[b,show zu 8=4 from rfl];unfold Yk;rw[if_neg (by decide),if_neg (by decide),if_pos rfl,zyw h]
theorem z8g{c:UInt8}(h:jb c=Ta):c∈zc3/\c∈zc4:=by
 have all:(Bj 256).all (λk=>!jb (Bb k)||(xp zc3 (Bb k)&&xp zc4 (Bb k)))=Ta:=by kernel_rfl
 have:=Av.1 all c.toNat (AU.2 c.toNat_lt);rw[UInt8.ofNat_toNat,h]at this;simp only[Bool.not_true,Dw,Ao]at this;exact⟨of_decide_eq_true this.1,of_decide_eq_true this.2⟩
theorem zf8{p:UInt8->Bool}:∀{l:Bs},(cutAt p l).2.2=Ta->∃c,p c=Ta/\l=(cutAt p l).1++c::(cutAt p l).2.1
 |[],h=>by cases h
 |c::l,h=>by unfold cutAt at h ⊢;split;rename_i e;exact⟨c,e,rfl⟩;rename_i e;rw[if_neg e]at h;obtain⟨d,h1,b⟩:=zf8 h;exact⟨d,h1,by simp only[AD];rw[<-b]⟩
theorem z8h(h:zec s=Ta):(∀c∈s,c∈zc3)/\∃c t,s=c::t/\c∈zc4:=by
 unfold zec at h;simp only[Ao]at h;obtain⟨⟨⟨h1,w⟩,y⟩,H⟩:=h;have u:∀{l:Bs},J3 l=Ta->∀c∈l,c∈zc3:=λ {l} F c i=>(z8g (Av.1 (Yw F) c i)).1;have A:∀c,isE c=Ta->c∈zc3:=λc i=>by unfold isE at i;rw[BK]at i;rcases i with i|i <;> (rw[eq_of_beq i];decide)
 have B:∀c,zj1 c=Ta->c∈zc3:=λc i=>by unfold zj1 at i;rw[eq_of_beq i];decide
 have D:(∀c∈(Zr s).1,c∈zc3)/\∃c t,(Zr s).1=c::t/\c∈zc4:=by
  have z:∃c t,(Ze s).1=c::t/\c∈zc4:=by
   cases hq:(Ze s).1 with
   |nil=>rw[hq]at w;cases w
   |cons c t=>exact⟨c,t,rfl,(z8g (Av.1 (Yw w) c (by rw[hq];exact Am))).2⟩
  obtain⟨c0,o,n,f⟩:=z;cases hb:(Ze s).2.2 with
  |false=>have:=(Jq (p:=zj1) (l:=(Zr s).1) hb).1;have this:(Ze s).1=(Zr s).1:=this;rw[<-this];exact⟨u w,c0,o,n,f⟩
  |true=>
   obtain⟨c,i,e⟩:=zf8 (p:=zj1) (l:=(Zr s).1) hb;have e:(Zr s).1=(Ze s).1++c::(Ze s).2.1:=e;rw[hb]at y;have y:J3 (Ze s).2.1=Ta:=by simpa using y
   refine⟨λx b=>?_,c0,o++c::(Ze s).2.1,by rw[e,n];rfl,f⟩;rw[e]at b;rcases Aw.1 b with b|b;exact u w x b;rcases Ai.1 b with rfl|b;exact B x i;exact u y x b
 have E:(∀c∈zqz s,c∈zc3)/\∃c t,zqz s=c::t/\c∈zc4:=by
  obtain⟨w1,c0,o,n,f⟩:=D;cases hb:(Zr s).2.2 with
  |false=>have:=(Jq (p:=isE) (l:=zqz s) hb).1;have this:(Zr s).1=zqz s:=this;rw[<-this];exact⟨w1,c0,o,n,f⟩
  |true=>
   obtain⟨c,i,e⟩:=zf8 (p:=isE) (l:=zqz s) hb;have e:zqz s=(Zr s).1++c::(Zr s).2.1:=e;rw[hb]at h1;have h1:J3 (zlh s)=Ta:=by simpa using h1
   have G:∀x∈(Zr s).2.1,x∈zc3:=by
    unfold zlh at h1;intro x b;split at h1;rename_i m;unfold Q5 at m;rw[Ao]at m;cases hq:(Zr s).2.1 with
    |nil=>rw[hq]at b;cases b
    |cons d r=>rw[hq]at b h1 m;rcases Ai.1 b with rfl|b;have:=m.2;simp at this;subst this;decide;exact u h1 x b
    split at h1;rename_i q;cases hq:(Zr s).2.1 with
    |nil=>rw[hq]at b;cases b
    |cons d r=>rw[hq]at b h1 q;rcases Ai.1 b with rfl|b;simp at q;subst q;decide;exact u h1 x b
    exact u h1 x b
   refine⟨λx b=>?_,c0,o++c::(Zr s).2.1,by rw[e,n];rfl,f⟩;rw[e]at b;rcases Aw.1 b with b|b;exact w1 x b;rcases Ai.1 b with rfl|b;exact A x i;exact G x b
 obtain⟨s1,c0,o,n,f⟩:=E;unfold zqz at s1 n;split at s1;rename_i k;rw[if_pos k]at n;cases hq:s with
 |nil=>rw[hq]at k;cases k
 |cons d r=>
  rw[hq]at s1 k;have C:d=45:=by simpa using k
  subst C;refine⟨λx b=>?_,45,r,rfl,by decide⟩;rcases Ai.1 b with rfl|b;decide;exact s1 x b
 rename_i k;rw[if_neg k]at n;exact⟨s1,c0,o,n,f⟩
end
section
variable {ln:Bool} {lv:Nat}
theorem z8i(ln:Bool)(nd lv:Nat)(ps:List Bs):(Zh ln nd lv ps).length<=(ps.map λp=>p.length+(1+(yl ln nd lv).length)).sum:=by
 cases ps with
 |nil=>exact Ab _
 |cons p ps=>
  have:∀b:List Bs,(b.flatMap λq=>44::(yl ln nd lv++q)).length=(b.map λp=>p.length+(1+(yl ln nd lv).length)).sum:=by
   intro b;induction b with
   |nil=>rfl
   |cons q b c=>rw[List.flatMap_cons,Ah,c,As,List.sum_cons];simp;omega
  rw[Zh,Ah,Ah,this,As,List.sum_cons];omega
theorem ztt{nd lv:Nat}(h:nd<=8)(b:lv<=100):(yl ln nd lv).length<=801:=by unfold yl;have:nd*lv<=800:=BX (Nat.mul_le_mul h b) (by omega);split;rw[Aq,Co];omega;simp
theorem zeu(t:Bs):(znd t).1.length<=6*t.length+2:=by unfold znd;have:=zpr t;split;simp;omega;simp
theorem z8j{ln:Bool}{N:Nat}(q:N<=8):∀(n:Nat) (v:Tr) (lv:Nat),tsz v<=n->Sm v->lv+tdp v<=90->(jz ln N v lv).length+10000000<=tsz v*20000000
 |0,v,lv,h,_,_=>by have:=Q6 v;omega
 |n+1,v,lv,hz,hsm,hd=>by
  have C:=hsm.text;have u:=Q6 v;have f:∀x∈v.items,(jz ln N x (lv+1)).length+10000000<=tsz x*20000000:=λx s=>by have h1:=yj s;have t:=zps s;exact z8j q n x (lv+1) (by omega) (hsm.item s) (by omega)
  have B:=ztt (ln:=ln) (lv:=lv) q (by omega);have z:=ztt (ln:=ln) (lv:=lv+1) q (by omega);have e:∀l:List Tr,(∀x∈l,(jz ln N x (lv+1)).length+10000000<=tsz x*20000000)->(l.map λx=>(jz ln N x (lv+1)).length+10000000).sum<=Zs l*20000000:=by
   intro l;induction l with
   |nil=>intro _;exact AW _
   |cons x l m=>intro h;have h1:=h x Am;have t:=m λy r=>h y (Ae _ r);rw[As,List.sum_cons,Zs,BZ];omega
  have w:=e v.items f;have b:∀ps:List Bs,(ps.map λp=>p.length+(1+(yl ln N (lv+1)).length)).sum<=Zs v.items*20000000->∀o c:UInt8,(o::Xw ln N lv ps++[c]).length+10000000<=tsz v*20000000:=λps A o c=>by
   have D:=z8i ln N (lv+1) ps;have:(o::Xw ln N lv ps++[c]).length<=2+(Zh ln N (lv+1) ps).length+(yl ln N lv).length:=by unfold Xw;simp only[Aq,Ah,A4];split <;> simp <;> omega
   rw[y0,BZ];omega
  rw[Yc];split;simp only[Aq,A4];omega;split;have:=zeu (lb v.text);omega;split;refine b _ (BX ?_ w) 91 93;rw[A7];have:∀l:List Tr,(l.map ((λp:Bs=>p.length+(1+(yl ln N (lv+1)).length)) ∘ λx=>jz ln N x (lv+1))).sum<=(l.map λx=>(jz ln N x (lv+1)).length+10000000).sum:=by
   intro l;induction l with
   |nil=>exact Ab _
   |cons x l m=>simp only[As,List.sum_cons,Function.comp];omega
  exact this _;split;refine b _ (BX ?_ w) 123 125;have:∀(ks:List Bt) (l:List Tr),(∀k∈ks,(lb k).length<=1048576)->((List.zipWith (zf4 ln) ks (l.map λx=>jz ln N x (lv+1))).map λp:Bs=>p.length+(1+(yl ln N (lv+1)).length)).sum<=(l.map λx=>(jz ln N x (lv+1)).length+10000000).sum:=by
   intro ks;induction ks with
   |nil=>intro l _;simp
   |cons k ks m=>
    intro l i;cases l with
    |nil=>simp
    |cons x l=>
     have h1:=m l λy r=>i y (Ae _ r);have t:=i k Am;have F:=zeu (lb k);have E:(zf4 ln k (jz ln N x (lv+1))).length<=(znd (lb k)).1.length+2+(jz ln N x (lv+1)).length:=by unfold zf4;rw[Ah,Aq,Ah];split <;> simp <;> omega
     simp only[As,List.zipWith_cons_cons,List.sum_cons];omega
  exact this v.keys v.items λk i=>hsm.key i;omega
theorem qj5{N:Nat}{v:Tr}(h:okV v=Ta):jz ln N v lv≠[]:=by unfold okV at h;rw[Ao]at h;obtain⟨l,h⟩:=h;unfold zn at h;rw[Yc];by_cases h1:v.kind=1;rw[if_pos h1];simp;rw[if_neg h1]at h ⊢;by_cases b:v.kind=4;rw[if_pos b];rw[b]at h;simp at h;unfold znd;rw[if_pos h.1.1];simp;rw[if_neg b];by_cases f:v.kind=5;rw[if_pos f];simp;rw[if_neg f];by_cases c:v.kind=6;rw[if_pos c];simp;rw[if_neg c];by_cases k:v.kind=2;rw[if_pos k]at h;simp at h;rcases h.1.1 with e|e <;> (rw[e];simp);rw[if_neg k]at h;by_cases i:v.kind=3;rw[if_pos i]at h;simp only[Ao]at h;have:=h.1.1;unfold z0z at this;simp only[Ao,beq_iff_eq]at this;intro e;rw[e]at this;exact absurd this.1 (by decide);rw[if_neg i,if_neg b,if_neg f,if_neg c]at h;split at h;rename_i e;simp[e]at l;cases h
end
end Go.X
end
section
namespace Go.X
open Go Go.X Go.Proofs Go.RowKit
section
variable {v:Tr} {ln:Bool} {N lv:Nat} {gl M:Fr}
def zbr(v:Tr):Bt×Int:=if zy v=Ta then(bl (jz Tc 0 v 0),0)else(⟨#[]⟩,1)
theorem zdb(h:zy v=Ta):tsz v<=4096/\tdp v<=32/\Qt okV v=Ta/\Qt zn v=Ta:=by unfold zy Zi at h;simp only[Ao,decide_eq_true_eq]at h;refine⟨h.1.1,h.1.2,h.2,?_⟩;exact zav (λx b=>by rw[Ao]at b;exact b.2) v h.2
theorem qcl(h:zy v=Ta):jz ln N v lv≠[]:=by have:=(zdb h).2.2.1;rw[y5,Ao]at this;exact qj5 this.1
theorem qg3(q:GL gl)(o:Brn gl)(l:Sm v)(h:zy v=Ta)(i:N<=8)(w:lv<=32){g:zb}{b:Nat}(t:Fr.le gl M)(ag:AgM M g)(low:∀c cs,M c=Td cs->c<b)(H:Prn g b ln (N:Int) []) {sk si:Sl} (m:Rd M (.row .str) v.keys [slV sk]) (s:Rd M (.row .tree) v.items [slV si]) {K:Value->zb->Prop} (r:∀h',Keep b g h'->K (.string (bl (jz ln N v lv))) h'):
  XC Tp 97 #[.pointer (Td ⟨b,0,Te⟩),trV v.kind v.text sk si,.int .i64 (lv:Int)] g λp h1=>p=.tuple #[]/\XC Tp 87 #[.pointer (Td (Ad ⟨b,0,Te⟩ 0))] h1 K:=by
 obtain⟨y,x,u,n⟩:=zdb h;have e:=z8j (ln:=ln) i (tsz v) v lv (Ab _) l (by omega);refine qd6 q o i 1000000 v lv sk si (Ab _) (by omega) n l (by omega) m s [] g _ H ⟨t,ag,low⟩ (by simp only[A4];omega) λg' f f'=>⟨rfl,?_⟩;rw[add0];rw[A8]at f;exact qf6 f (qcl h) λh' k=>r h' (f'.keep.trans k (Ab _))
theorem qd7(s:Bt)(e:Int):Y3 M [.str,.int .i64] (s,e) (.tuple #[.string s,.int .i64 e]):=⟨[_,_],⟨_,_,rfl,rdStr _,_,rfl,Jn _ _⟩,rfl⟩
set_option maxRecDepth 100000 in
theorem z1l(y:GL gl)(G:Brn gl)(A:Sm v){R:Bt×Int->Prop}(m:R (zbr v)):PC Tp gl 34 [Arg.mk .tree v] [.str,.int .i64] R:=by
 intro h M vs z ag D
 match vs,D with
 |[u],⟨q,_⟩=>
  have q:RdV M .tree v u:=q;have t:=q;obtain⟨sk,si,rfl,F,I⟩:=yz q;apply PX.of;apply zhq v.kind v.text sk si;intro h1;have f:Later h M h1 M:=Later.push ag _;have s1:h1.size=h.size+1:=Aj _;have i:∀h':zb,Keep h1.size h1 h'->zd h' ⟨h.size,0,Te⟩ 0 [.int .i64 v.kind,.string v.text,slV sk,slV si]:=λh' k=>z4p (h':=h') (by rw[s1]at k;exact k);clear_value h1;refine⟨v.kind,v.text,sk,si,i h1 (Keep.refl _ _),?_⟩;refine(ztr y A (R:=λr=>r=zy v) rfl).go (vs:=[.agg #[.int .i64 v.kind,.string v.text,slV sk,slV si]]) (z.trans f.le) f.ag (qb (RdV.mono f.le t) qq) λw p x r b o B=>?_;subst B;refine⟨_,zib o,λl=>?_,λl=>?_⟩;have l:zy v=Tc:=by simpa using l
  unfold zbr at m;rw[if_neg (by rw[l];simp)]at m;exact⟨x,_,f.trans b,qd7 _ _,m⟩;have l:zy v=Ta:=by simpa using l
  unfold zbr at m;rw[if_pos l]at m;intro n;have H:Prn n p.size Tc ((0:Nat):Int) []:=Prn.new p Tc 0;have s:Keep p.size p n:=Keep.push _ _ (Ab _);clear_value n;have C:Later h M n x:=(f.trans b).trans (Later.same b.ag s);refine⟨v.kind,v.text,sk,si,i n (b.keep.trans s b.keep.size),?_⟩;refine qg3 y G A l (N:=0) (lv:=0) (by omega) (by omega) (z.trans (f.trans b).le) C.ag (λc cs e=>b.ag.lt e) H (F.mono (f.trans b).le) (I.mono (f.trans b).le) λJ E=>⟨_,rfl,x,_,?_,qd7 _ _,m⟩;exact(f.trans b).trans (Later.same b.ag (s.trans E (Ab _)))
end
end Go.X
end
section
namespace Go.X
section
theorem qy(b:Nat)(c1:Addr)(h:zb)(R:Value->zb->Prop) (H:∃q:Option Nat,zc h c1=Td (.map q)/\XRun Tp (Dx 193 (.map q)) h (λF G=>∃p:Option Addr,F=.pointer p/\∃(l:zb->Prop) (o:zb->Nat),l G/\∀m:zb,l m->(XRun Tp (CW (.pointer p) Tc 0) m (λw k=>(w=.tuple #[.bool Tc]/\(Tc=Ta->XRun Tp (Dk (.pointer p)) k (λC A=>∃r t:Value,C=.tuple #[r,t]/\YX Tp b #[r] A (λz f=>∃c:Bool,z=.bool c/\((!c)=Ta->R (.tuple #[]) f)/\((!c)=Tc->(l f/\o f<o m)))))/\(Tc=Tc->R (.tuple #[]) k))\/∃x B:Value,w=.tuple #[.bool Ta,x,B]/\(Ta=Ta->XRun Tp (Dk (.pointer p)) k (λu E=>∃s y:Value,u=.tuple #[s,y]/\YX Tp b #[s] E (λD i=>∃e:Bool,D=.bool e/\((!e)=Ta->R (.tuple #[]) i)/\((!e)=Tc->(l i/\o i<o m)))))/\(Ta=Tc->R (.tuple #[]) k))))):
  XCI Tp 238 #[.func (.yield b) #[] #[],.pointer (Td c1)] h R:=
 zkm Tryz.mixed ⟨[],[(1,[])],[]⟩ [.func (.yield b) #[] #[],.pointer (Td c1)] (rs:=[]) (n:=14) Tryz.func238 (by kernel_rfl) (by kernel_rfl) (by kernel_rfl) (by kernel_rfl) (Eq.mp (by kernel_rfl) H)
theorem xz(k:Sl)(f:Value)(h:zb)(R:Value->zb->Prop) (H:let c:zb:=Cn h (.cells #[.slice k.a k.len k.cap] 23);∃(m:FuncId) (l:Array Value),f=.func (.func m) #[] l/\zh Tp m=Ta/\∀e:zq0,(∀{q:Value} {o:zb} {p:Value->zb->Prop},o[(AZ c+1)]?=Td (.loop (e .ready Te))->zax Tp 13 (rfA (codeOf Tryz.f278)) (rfB (codeOf Tryz.f278)) e (AZ c+1) p (putO [(6,[],f),(4,[],.slice Te 0 0),(2,[],.pointer (Td ⟨AZ h,0,Te⟩)),(0,[],.slice k.a k.len k.cap),(1,[],f)] (Td 7) [] q) o->YX Tp (AZ c+1) #[q] o p)->XCI Tp m (#[.func (.yield (AZ c+1)) #[] #[]]++l) (Cn (Cn c (.deferred (Td []))) (.loop (e .ready Te))) λ_ r=>zko e (AZ c+1) (λi=>∃b:Sl,zc i ⟨AZ h,0,Te⟩=Td (.slice b.a b.len b.cap)/\(i)[AZ c]?=Td (.deferred (Td []))/\R (.slice b.a b.len b.cap) (Array.setIfInBounds i (AZ c) (.deferred Te))) (λi=>(i)[AZ c]?=Td (.deferred (Td []))/\R (.slice Te 0 0) (Array.setIfInBounds i (AZ c) (.deferred Te))) r):
  XC Tp 278 #[.slice k.a k.len k.cap,f] h R:=
 zkp Tryz.mixed [.slice k.a k.len k.cap,f] (rs:=[.tmp 4]) (n:=13) Tryz.func278 (by kernel_rfl) (by kernel_rfl) (by kernel_rfl) (by kernel_rfl) H (by kernel_rfl)
theorem x7(r:Value)(q:Value)(n:Addr)(x0:Value)(p:Value)(o:Bt)(rec:zq0)(l:Nat)(K:Value->zb->Prop)(h:zb) (H:(h)[l]?=Td (.loop (rec .ready Te))/\let e:zb:=Array.setIfInBounds h l (.loop (rec .busy Te));∃c:Sl,zc e n=Td (.slice c.a c.len c.cap)/\let i:zb:=Cn e (.cells #[.string o] 9);XRun Tp (Au #[23,23] 23 #[.slice c.a c.len c.cap,.slice (Td ⟨AZ e,0,Te⟩) 1 1]) i (λk m=>∃b:Sl,k=.slice b.a b.len b.cap/\XRunU Tp (Af 23 (.pointer (Td n)) (.slice b.a b.len b.cap)) m (λf=>(f)[l]?=Td (.loop (rec .busy Te))/\K (.bool Ta) (Array.setIfInBounds f l (.loop (rec .ready Te)))))):
  zax Tp 13 (rfA (codeOf Tryz.f278)) (rfB (codeOf Tryz.f278)) rec l K [(7,[],.string o),(6,[],r),(4,[],q),(2,[],.pointer (Td n)),(0,[],x0),(1,[],p)] h:=
 Eq.mp (by kernel_rfl) H
end
section
theorem Xa(l:FuncId)(i:Array Value)(k:Array Value)(h:zb)(R:Value->zb->Prop) (H:XC Tp 236 #[.func (.func l) i k] h (λb c=>∃d,b=slV d/\XC Tp 237 #[slV d] c (λe f=>e=.tuple #[]/\R (slV d) f))):
  XC Tp 173 #[.func (.func l) i k] h R:=
 XF ⟨[],[],[]⟩ [.tmp 2] 9 Tryz.func173 H
theorem yf(b:Option Nat)(h:zb)(R:Value->zb->Prop) (H:let a:=h.push (.cells #[.map b] 193);R (.func (.func 238) #[] #[.pointer (Td ⟨h.size,0,Te⟩)]) a):
  XC Tp 174 #[.map b] h R:=
 XF ⟨[],[],[]⟩ [.tmp 2] 4 Tryz.func174 H
theorem Jy(i:FuncId)(e:Array Value)(f:Array Value)(h:zb)(R:Value->zb->Prop) (H:XC Tp 278 #[.slice Te 0 0,.func (.func i) e f] h (λb c=>∃d,b=slV d/\R (slV d) c)):
  XC Tp 236 #[.func (.func i) e f] h R:=
 XF ⟨[],[],[]⟩ [.tmp 2] 5 Tryz.func236 H
end
end Go.X
end
section
namespace Go.X
open Go Go.Proofs Go.Shelf Go.RowKit
section
def zp1:Go.Shelf.Ren:=⟨fun|190=>237|125=>193|258=>279|128=>251|129=>252|302=>305|303=>306|304=>307|305=>308|306=>309|307=>310|308=>311|309=>312|310=>313|333=>319|329=>286|330=>287|334=>320|335=>321|336=>322|344=>327|n=>n,fun|31=>23|9=>9|3=>3|46=>177|0=>0|51=>236|53=>238|4=>4|183=>256|182=>255|131=>42|5=>5|218=>281|222=>285|228=>297|229=>298|n=>n,fun|n=>n⟩
theorem ztu:Go.Proofs.Lays.n190 Tp zp1:=by constructor <;> intros <;> kernel_rfl
open Go.Sort Go.RowKit in
theorem zbs(blk off cap:Nat)(ss:List (List UInt8))(w:World)(f:Holds encStr w blk off ss.toArray)(b:blk<w.heap.size)(c:ss.length<4611686018427387904):
  Calls Tp 237 #[.slice (Td ⟨blk,off,Te⟩) ss.length cap] w λe w'=>
   e=.returned (.tuple #[])/\∃n os,w'=grow (putRow encStr (Sort.ahead w n) blk off (ss.mergeSort λx y=>decide (x<=y)).toArray) os:=Any.slices_Sort_string ztu blk off cap ss w f b c
open Go.RowKit Go.Sort in
theorem Y6(p:Option Addr)(cap:Nat)(w:World): Calls Tp 237 #[.slice p 0 cap] w λe w'=>e=.returned (.tuple #[])/\w'=w:=Any.slices_Sort_string_none ztu p cap w
end
end Go.X
end
section
namespace Go.X
open Go Go.ChangeMaps
section
variable {h h':zb} {m r:Nat} {P:Program} {t kt et ty:TypeId} {K:Value -> zb -> Prop} {dn:List Value}
def MapW(h:zb)(m:Nat)(l:List (Value×Value)):Prop:=
 ∃c b,h[m]?=Td (.map c b)/\c.toList.map (λe=>(e.key,e.val))=l/\(∀e∈c.toList,e.born<b)/\(c.toList.map (·.born)).Nodup
theorem MapW.keep{l:List (Value×Value)}(H:MapW h m l)(k:h'[m]?=h[m]?):MapW h' m l:=by obtain⟨b,c,h1,e⟩:=H;exact⟨b,c,k.trans h1,e⟩
theorem MapW.lt{l:List (Value×Value)}(H:MapW h m l):m<h.size:=by obtain⟨b,c,h1,e⟩:=H;exact(An.1 h1).1
theorem MapW.new(h:zb):MapW (h.push (.map #[] 0)) h.size []:=⟨#[],0,yd _ _,rfl,by simp,by simp⟩
def zbt(l:List (Bt×Value)):List (Value×Value):=l.map λp=>(A3 p.1,p.2)
theorem MapW.at{l:List (Bt×Value)}(H:MapW h m (zbt l)):MapAt h m l:=by obtain⟨b,c,h1,e,_⟩:=H;exact⟨b,c,h1,e⟩
theorem qcm{z:Value}(T:MapT P t kt et z){l:List (Bt×Value)}(H:MapW h m (zbt l))(k:Bt)(v:Value){K:zb->Prop}
  (I:∀h':zb,MapW h' m (zbt (z2w l k v))->h'.size=h.size->(∀i,i≠m->h'[i]?=h[i]?)->K h'):XRunU P (Ce t (.map (Td m)) (.string k) v) h K:=by
 have s:=H.lt;obtain⟨f,c,h1,A,D,J⟩:=H;intro B d;have M:=QExec.underlying (h:=h) T.map B d;have F:=Qq (P:=P) h1 B d;have G:=X9 T.key Tc k h B d;have b:∀o:Obj,(setObj m o).run P (mk B d h)=.ok () (mk B d (h.setIfInBounds m o)):=by intro o;have:(mk B d h).heap[m]?=Td (.map f c):=h1;simp[setObj,Sem.run,this];rfl
 unfold Ce;rcases Wd k f.toList l 0 A with⟨L,u⟩|⟨j,v0,e,L,u,O,g4,Y,S⟩;refine⟨d,h.setIfInBounds m (.map (f.push { key:=.string k,val:=v,born:=c }) (c+1)),?_,I _ ⟨f.push { key:=.string k,val:=v,born:=c },c+1,by simp[s],?_,?_,?_⟩ (by simp) (λi hi=>by rw[AB (Ne.symm hi)])⟩;rw[Sem.run_bind,M];simp only[Result.andThen_ok,Sem.run_bind,F,G];rw[Zp T.key k f.toList Te h u B d];simp only[Result.andThen_ok];exact b _;rw[zb9 L];unfold zbt at A ⊢;simp[A];intro e w;simp at w;rcases w with w|rfl;have:=D e (by simpa using w);omega;simp;simp only[Array.toList_push,Bh,As,Cb];rw[Cw];refine⟨J,by simp,λx Z y V e=>?_⟩;simp at V;obtain⟨e',p,rfl⟩:=AJ.1 Z;have:=D e' p;omega;have E:j<f.size:=by have:=(A1.1 u).1;simpa using this
 have n:((f.modify j λe=>{ e with key:=.string k,val:=v }).toList.map (·.born))=f.toList.map (·.born):=by apply Bu;intro i;simp only[Array.toList_modify,Bf,BF];by_cases q:j=i;subst q;cases f.toList[j]? <;> simp;cases f.toList[i]? <;> simp[q]
 refine⟨d,_,?_,I (h.setIfInBounds m (.map (f.modify j λe=>{ e with key:=.string k,val:=v }) c)) ⟨f.modify j λe=>{ e with key:=.string k,val:=v },c,by simp[s],?_,?_,?_⟩ (by simp) (λi hi=>by rw[AB (Ne.symm hi)])⟩;rw[Sem.run_bind,M];simp only[Result.andThen_ok,Sem.run_bind,F,G];rw[Zp T.key k f.toList _ h Y B d];simp only[Result.andThen_ok,AL];have r:((f[j]?).map (·.key)).getD (.string k)=.string k:=by
  have:f[j]?=Td e:=by simpa using u
  rw[this];exact O
 rw[r];have Q:CY (.string k) (.string k)=pure (.string k):=by unfold CY;rw[if_pos (by show(k==k)=Ta;rw[zml];simp)]
 rw[Q];exact b _;have:=S v;unfold zbt;simpa using this;intro e' p;have:e'.born∈((f.modify j λe=>{ e with key:=.string k,val:=v }).toList.map (·.born)):=AJ.2 ⟨e',p,rfl⟩;rw[n]at this;obtain⟨N,C,U⟩:=AJ.1 this;rw[<-U];exact D N C;rw[n];exact J
def MapIt(h:zb)(r m:Nat)(l:List (Value×Value))(dn:List Value):Prop:=
 ∃k f b i c,h[r]?=Td (.mapIter (Td m) b i c)/\h[m]?=Td (.map k f)/\k.toList.map (λe=>(e.key,e.val))=l/\(∀e∈k.toList,e.born<b)/\b<=c/\b<=f/\(k.toList.map (·.born)).Nodup /\
  ∀e∈k.toList,i.contains e.born=Ta↔e.key∈dn
theorem MapIt.keep{l:List (Value×Value)}(H:MapIt h r m l dn)(i:h'[r]?=h[r]?)(k2:h'[m]?=h[m]?):MapIt h' r m l dn:=by obtain⟨k,e,b,f,c,h1,o,n⟩:=H;exact⟨k,e,b,f,c,i.trans h1,k2.trans o,n⟩
def qd8(h:zb)(r m:Nat)(k v:Value):Prop:=
 ∃(i:Array MapEntry) (b c:Nat) (f:Array Nat) (e:MapEntry),h[r]?=Td (.mapIter (Td m) c (f.push e.born) b)/\h[m]?=Td (.map i b)/\e∈i.toList/\(i.toList.map (·.born)).Nodup/\e.key=k/\e.val=v
theorem zp2(r:P.underlying t=Td (.map kt et)){l:List (Value×Value)}(H:MapW h m l)
  (i:∀h',h'.size=h.size+1->Keep h.size h h'->MapIt h' h.size m l []->K (.pointer (Td ⟨h.size,0,Te⟩)) h'):XRun P (Dx t (.map (Td m))) h K:=by
 have k:=H.lt;obtain⟨n,c,h1,f,p,o⟩:=H;intro B d;have q:=QExec.underlying (h:=h) r B d;have b:=Qq (P:=P) h1 B d;refine⟨.pointer (Td ⟨h.size,0,Te⟩),d,h.push (.mapIter (Td m) c #[] c),?_,i _ (by simp) (Keep.push _ _ (Ab _)) ⟨n,c,c,#[],c,yd _ _,?_,f,p,Ab _,Ab _,o,λe s=>by simp⟩⟩;unfold Dx;rw[Sem.run_bind,q];simp only[Result.andThen_ok,Sem.run_bind,b,Sem.run_pure];rfl;rw[BV,if_neg (by omega)];exact h1
theorem z1m{f:List MapEntry}(h:(f.map (·.born)).Nodup){a b:MapEntry}(i:a∈f)(k:b∈f)(e:a.born=b.born):a=b:=by
 induction f with
 |nil=>cases i
 |cons x f l=>rw[As,Ba]at h;rcases Ai.1 i with h1|h1;rcases Ai.1 k with c|c;rw[h1,c];exact(h.1 (AJ.2 ⟨b,c,by rw[<-e,h1]⟩)).elim;rcases Ai.1 k with c|c;exact(h.1 (AJ.2 ⟨a,h1,by rw[e,c]⟩)).elim;exact l h.2 h1 c
theorem z8k{f:List MapEntry}(h:(f.map (·.key)).Nodup){a b:MapEntry}(i:a∈f)(k:b∈f)(e:a.key=b.key):a=b:=by
 induction f with
 |nil=>cases i
 |cons x f l=>rw[As,Ba]at h;rcases Ai.1 i with h1|h1;rcases Ai.1 k with c|c;rw[h1,c];exact(h.1 (AJ.2 ⟨b,c,by rw[<-e,h1]⟩)).elim;rcases Ai.1 k with c|c;exact(h.1 (AJ.2 ⟨a,h1,by rw[e,c]⟩)).elim;exact l h.2 h1 c
def leftN(h:zb)(r m:Nat):Nat:=match h[r]?,h[m]? with
 |some (.mapIter _ _ seen _),Td (.map es _)=>(es.toList.filter λe=>!seen.contains e.born).length
 |_,_=>0
theorem leftN.keep(b:h'[r]?=h[r]?)(k2:h'[m]?=h[m]?):leftN h' r m=leftN h r m:=by unfold leftN;rw[b,k2]
theorem ztv{α:Type}{p q:α->Bool}(h:∀x,p x=Ta->q x=Ta):∀l:List α,(l.filter p).length<=(l.filter q).length
 |[]=>Ab _
 |x::l=>by have:=ztv h l;rw[BP,BP];by_cases b:p x=Ta;rw[if_pos b,if_pos (h x b)];simp;omega;rw[if_neg b];split;simp;omega;exact this
theorem filter_lt{α:Type}{p q:α->Bool}(h:∀x,p x=Ta->q x=Ta){e:α}(h1:p e=Tc)(f:q e=Ta):∀l:List α,e∈l->(l.filter p).length<(l.filter q).length
 |[],b=>by cases b
 |x::l,b=>by rw[BP,BP];rcases Ai.1 b with rfl|b;have:=ztv h l;rw[if_neg (by rw[h1];simp),if_pos f];simp;omega;have:=filter_lt h h1 f l b;by_cases c:p x=Ta;rw[if_pos c,if_pos (h x c)];simp;omega;rw[if_neg c];split;simp;omega;exact this
theorem zwl{l:List (Value×Value)}(H:MapIt h r m l dn)(U:(l.map (·.1)).Nodup)(F:r≠m) (w:(∀p∈l,p.1∈dn)->K (.tuple #[.bool Tc]) h) (t:∀k v,(k,v)∈l->k∉dn->∀h',MapIt h' r m l (k::dn)->qd8 h' r m k v->h'.size=h.size->(∀j,j≠r->h'[j]?=h[j]?)->leftN h' r m<leftN h r m->K (.tuple #[.bool Ta,k,v]) h'):
  XRun P (CW (.pointer (Td ⟨r,0,Te⟩)) Tc ty) h K:=by
 obtain⟨q,b,f,i,c,h1,E,A,N,S,L,C,I⟩:=H;intro B d;have Q:(q.toList.map (·.key)).Nodup:=by
  have e:q.toList.map (·.key)=l.map (·.1):=by rw[<-A,A7];rfl
  rw[e];exact U
 rcases run_next_at (P:=P) (mk B d h) ty r m f c i q b h1 E N S with⟨Y,z⟩|⟨e,M,w1,V,z⟩;refine⟨_,d,h,z,w λp J=>?_⟩;rw[<-A]at J;obtain⟨x,o,rfl⟩:=AJ.1 J;refine(I x o).1 ?_;have:leftOf q i=#[]:=Array.eq_empty_of_size_eq_zero Y;unfold leftOf at this;rw[Array.filter_eq_empty_iff]at this;have:=this x (by simpa using o);simpa using this;have n:e∈q.toList/\i.contains e.born=Tc:=by unfold leftOf at M;simpa using M
 have O:r<h.size:=(An.1 h1).1;have y:∃D,setBlock w1 r (.mapIter (Td m) f (i.push e.born) b)=mk B D (h.setIfInBounds r (.mapIter (Td m) f (i.push e.born) b)):=by rcases V with rfl|rfl;exact⟨d,rfl⟩;exact⟨d+1,rfl⟩
 obtain⟨D,G⟩:=y;rw[G]at z;have u:(h.setIfInBounds r (.mapIter (Td m) f (i.push e.born) b))[m]?=Td (.map q b):=by rw[AB F];exact E
 have s:(h.setIfInBounds r (.mapIter (Td m) f (i.push e.born) b))[r]?=Td (.mapIter (Td m) f (i.push e.born) b):=by simp[O]
 refine⟨_,D,_,z,t e.key e.val (by rw[<-A];exact AJ.2 ⟨e,n.1,rfl⟩) (λhm=>?_) _ ⟨q,b,f,i.push e.born,b,s,u,A,N,L,L,C,λx o=>?_⟩ ⟨q,b,f,i,e,s,u,n.1,C,rfl,rfl⟩ (by simp) (λj Z=>by rw[AB (Ne.symm Z)]) ?_⟩;have:=(I e n.1).2 hm;rw[n.2]at this;cases this;rw[Ai,<-I x o];simp only[Array.contains_eq_mem,Array.mem_push,decide_eq_true_eq];constructor;rintro(h|h);exact .inr h;exact .inl (by rw[z1m C o n.1 h]);rintro(h|h);exact .inr (by rw[z8k Q o n.1 h]);exact .inl h;unfold leftN;rw[s,u,h1,E];refine filter_lt (e:=e) (λx o=>?_) ?_ ?_ _ n.1;simp only[Array.contains_eq_mem,Array.mem_push]at o ⊢;simp at o ⊢;exact o.1;simp;rw[n.2];rfl
theorem zp3{k v:Value}(H:qd8 h r m k v)(i:K (.tuple #[k,v]) h):XRun P (Dk (.pointer (Td ⟨r,0,Te⟩))) h K:=by obtain⟨n,c,b,f,e,h1,p,o,l,rfl,rfl⟩:=H;intro B d;exact⟨_,d,h,run_entry_at (P:=P) (mk B d h) r m b f n c e h1 p o l,i⟩
theorem z8l(k:P.underlying t=Td (.map kt et)){l:List (Value×Value)}(H:MapW h m l):QExec P (CG #[t] ty #[.map (Td m)]) h (.int .i64 (l.length:Int)):=by
 obtain⟨i,c,h1,n,_⟩:=H;intro B d;have b:=QExec.underlying (h:=h) k B d;have e:=Qq (P:=P) h1 B d;have f:l.length=i.size:=by rw[<-n];simp
 simp[CG,b,e,goInt,f]
end
end Go.X
end
section
namespace Go.X
open Go Go.Lib
section
def jr(xs:List Bt):List Bt:=((xs.map lb).mergeSort λx y=>decide (x<=y)).map bl
theorem Qm{xs ys:List Bt}(h:xs.Perm ys):jr xs=jr ys:=by unfold jr;rw[mergeSort_of_perm (h.map lb)]
theorem y8(xs:List Bt):(jr xs).Perm xs:=by
 have h:=(List.mergeSort_perm (xs.map lb) λx y=>decide (x<=y)).map bl;rw[A7]at h;have e:bl ∘ lb=id:=by funext x;exact Y4 x
 rw[e,DY]at h;exact h
theorem ztw(xs:List Bt):(jr xs).length=xs.length:=(y8 xs).length_eq
end
end Go.X
end
section
namespace Go.X
open Go Go.X Go.Proofs Go.RowKit Go.Sort Go.Shelf
section
variable {h:zb} {s:Sl} {xs:List Bt} {K:Value -> zb -> Prop} {c m:Nat}
theorem XC.of_below{P:Program}{f:FuncId}{args:Array Value}{R:Value->zb->Prop}(H:∀B d,Calls P f args (mk B d h) λe w'=>∃v,e=.returned v/\w'.os=B.os/\w'.tape=B.tape/\w'.output=B.output/\R v w'.heap):XC P f args h R:=by intro B d;refine(H B d).mono ?_;rintro e w' ⟨v,rfl,h1,i,c,b⟩;refine⟨v,w'.drawn,w'.heap,rfl,?_,b⟩;cases w';simp only[mk]at *;subst h1;subst i;subst c;rfl
theorem qg4{base:Nat}(H:Owns h base 9 1 s (xs.map A3)):s.len=xs.length:=by have:=H.length;simp at this;omega
theorem qg5(xs:List Bt):(xs.map lb).map encStr=xs.map A3:=by rw[A7];refine Cy λx _=>?_;show A3 _=_;exact congrArg A3 (Y4 x)
theorem z8m{base:Nat}(H:Owns h base 9 1 s (xs.map A3))(u:xs.length<=1000000):
  XC Tp 237 #[.slice s.a s.len s.cap] h λv h'=>v=.tuple #[]/\Owns h' base 9 1 s ((jr xs).map A3)/\h.size<=h'.size/\∀i,i<h.size->(∀p,s.a=Td p->i≠p.block)->h'[i]?=h[i]?:=by
 refine XC.of_below λB d=>?_;have l:s.len=xs.length:=qg4 H;have c:(xs.map lb).length=xs.length:=by simp
 have f:(jr xs).map A3=((xs.map lb).mergeSort λx y=>decide (x<=y)).map encStr:=by unfold jr;rw[A7];rfl
 rcases H.2 with⟨q,h0⟩|⟨g,cap,m,q,t,E,J,F,I,G⟩;have L:xs=[]:=AO (by omega);subst L;rw[h0];refine(Y6 s.a s.cap (mk B d h)).mono ?_;rintro e w' ⟨rfl,rfl⟩;exact⟨_,rfl,rfl,rfl,rfl,rfl,by rw[show jr []=[]from List.Perm.eq_nil (y8 [])];exact H,Ab _,λ_ _ _=>rfl⟩;simp only[AP]at q;obtain⟨z,_,rfl⟩:=q;have k:(mk B d h).heap[g]?=Td (.cells m 9 (0,0)):=E;have r:g<(mk B d h).heap.size:=(An.1 k).1;have D:Holds encStr (mk B d h) g 0 (xs.map lb).toArray:=holds_of_block k (by rw[c,qg5,<-l];simpa using G);have A:=zbs g 0 s.cap (xs.map lb) (mk B d h) D r (by rw[c];omega);rw[c,<-l]at A;rw[z];refine A.mono ?_;rintro e w' ⟨rfl,n,os,rfl⟩;have b:=grownBy_sorted (w:=mk B d h) (g:=g) (n:=n) (os:=os) ((xs.map lb).mergeSort λx y=>decide (x<=y)).toArray;refine⟨_,rfl,b.os,b.tape,b.output,rfl,?_,b.size,λi hi o=>b.block i hi λe=>o _ rfl (by simpa using e)⟩;have C:=ownsRow_sorted (w:=mk B d h) (base:=base) (n:=n) (os:=os) (ss:=xs.map lb) (ts:=(xs.map lb).mergeSort λx y=>decide (x<=y)) (by simp) t k (by rw[c,<-l];exact J) F (by simpa using I);rw[<-f,c,<-l]at C;show World.ownsRow _ base _ 1 (.slice s.a s.len s.cap) s.len _;rw[z];exact C
theorem qmv:AF.underlying 193=Td (.map 9 26):=by kernel_rfl
theorem z8n:zh Tp 238=Ta:=by kernel_rfl
theorem zyx:∀{xs ys:List Bt},xs.Nodup->(∀x∈xs,x∈ys)->xs.length<=ys.length
 |[],_,_,_=>AW _
 |x::xs,ys,hn,hs=>by
  rw[Ba]at hn;have e:=hs x Am;obtain⟨a,b,rfl⟩:=List.append_of_mem e;have:=zyx (ys:=a++b) hn.2 λy c=>by have:=hs y (Ae _ c);rw[Aw,Ai]at this;rw[Aw];rcases this with h|rfl|h;exact .inl h;exact absurd c hn.1;exact .inr h
  simp only[Ah,Aq]at this ⊢;omega
structure KyS (h:zb) (m:Nat) (rec:zq0) (ps:List (Bt×Value)) (g:zb) (xs:List Bt) (sl:Sl):Prop where
 keep:Keep h.size h g
 d:g[h.size+1]?=Td (.deferred (Td []))
 rc:g[h.size+2]?=Td (.loop (rec .ready Te))
 box:Blk g h.size #[slV sl]
 o:Owns g (h.size+4) 9 1 sl (xs.map A3)
 it:MapIt g (h.size+3) m (zbt ps) (xs.reverse.map A3)
 nd:xs.Nodup
 sub:∀x∈xs,x∈ps.map (·.1)
 gz:h.size+4<=g.size
theorem z8o(ps:List (Bt×Value)):(zbt ps).map (·.1)=(ps.map (·.1)).map A3:=by unfold zbt;rw[A7,A7];rfl
theorem z8p{ks:List Bt}(h:ks.Nodup):(ks.map A3).Nodup:=by
 induction ks with
 |nil=>exact C0
 |cons k ks c=>rw[Ba]at h;rw[As,Ba];refine⟨λb=>?_,c h.2⟩;obtain⟨x,f,e⟩:=AJ.1 b;injection e with e;exact h.1 (e ▸ f)
section
variable {h : zb} {m : Nat} {rec : zq0} {ps : List (Bt × Value)} {g : zb} {xs : List Bt} {sl : Sl}
set_option maxRecDepth 100000 in
theorem KyS.round(S:KyS h m rec ps g xs sl)(hm:m<h.size)(y:xs.length<=1000000){q:zb}{k:Bt}(A:MapIt q (h.size+3) m (zbt ps) ((k::xs.reverse).map A3))(z1:q.size=g.size)(G:∀j,j≠h.size+3->q[j]?=g[j]?)(O:k∉xs)(E:k∈ps.map (·.1)) {x6 Z x0 N:Value} (U:∀g' B,KyS h m rec ps g' (xs++[k]) B->g'[h.size+3]?=q[h.size+3]?->g'[m]?=q[m]?->K (.bool Ta) g'):
  zax Tp 13 (rfA (codeOf Tryz.f278)) (rfB (codeOf Tryz.f278)) rec (h.size+2) K [(7,[],.string k),(6,[],x6),(4,[],Z),(2,[],.pointer (Td ⟨h.size,0,Te⟩)),(0,[],x0),(1,[],N)] q:=by
 apply x7;have gz:=S.gz;have ky:=S.keep.size;refine⟨by rw[G _ (by omega)];exact S.rc,?_⟩;intro c;have s:∀j,j≠h.size+2->c[j]?=q[j]?:=λj u=>zk u;have V:c[h.size+2]?=Td (.loop (rec .busy Te)):=set_self (by omega);have z2:c.size=q.size:=A0;clear_value c;have l:∀j,j≠h.size+2->j≠h.size+3->c[j]?=g[j]?:=λj a b=>(s j a).trans (G j b);have M:Blk c h.size #[slV sl]:=S.box.keep (l _ (by omega) (by omega));refine⟨sl,M.cell rfl,?_⟩;intro w;have H:Keep c.size c w:=Keep.push _ _ (Ab _);have z3:w.size=c.size+1:=Aj _;have S3:Blk w c.size #[.string k]:=Blk.new _ _ _;clear_value w;have o2:Owns c (h.size+4) 9 1 sl (xs.map A3):=S.o.keep λp r=>by have:=S.o.base_le p r;exact l _ (by omega) (by omega)
 have J:=o2.keepN H;have hl:=qg4 S.o;refine zbb z5s J (src:=⟨Td ⟨c.size,0,Te⟩,1,1⟩) (news:=[.string k]) (n:=w.size) ?_ rfl (by simp[Value.oneCell']) (by simp only;omega) (by simp only;omega) (by omega) λD Y q1 F Q q4 q5=>⟨D,rfl,?_⟩;refine .inr ⟨c.size,0,rfl,by omega,λi v C=>?_⟩
 match i,C with
 |0,C=>cases C;exact S3.cell rfl
 have t:∀j,j<h.size+4->Y[j]?=c[j]?:=λj u=>by rw[Q j (by omega) λp r=>by have:=J.base_le p r;omega];exact H.get j (by omega)
 refine yg qiw qix (M.keep (t _ (by omega))) (by show 0<1;omega) rfl λz u1 u3 L=>?_;have f:∀j,j<h.size+4->j≠h.size->z[j]?=c[j]?:=λj u h0=>(L j h0).trans (t j u);have l5:z[h.size+2]?=Td (.loop (rec .busy Te)):=by rw[f _ (by omega) (by omega)];exact V
 refine⟨l5,U _ D ⟨?_,?_,set_self (by omega),?_,?_,?_,?_,?_,?_⟩ ?_ ?_⟩;refine S.keep.trans ⟨by rw[A0];omega,λj u=>?_⟩ (Ab _);rw[zk (by omega),f j (by omega) (by omega),l j (by omega) (by omega)];rw[zk (by omega),f _ (by omega) (by omega),l _ (by omega) (by omega)];exact S.d;exact Blk.keep u1 (zk (by omega));have:Owns z (h.size+4) 9 1 D ((xs++[k]).map A3):=by rw[Bh];exact F.keep λp r=>by have:=F.base_le p r;exact L _ (by omega)
 exact this.keep λp r=>by have:=this.base_le p r;exact zk (by omega)
 rw[List.reverse_append];refine A.keep ?_ ?_;rw[zk (by omega),f _ (by omega) (by omega),s _ (by omega)];rw[zk (by omega),f _ (by omega) (by omega),s _ (by omega)];rw[Cw];exact⟨S.nd,by simp,λa P b I e=>by rw[AY]at I;subst I;subst e;exact O P⟩;intro x y;rw[Aw,AY]at y;rcases y with y|rfl;exact S.sub x y;exact E;rw[A0];omega;rw[zk (by omega),f _ (by omega) (by omega),s _ (by omega)];rw[zk (by omega),f _ (by omega) (by omega),s _ (by omega)]
end
set_option maxRecDepth 100000 in
theorem zwm{ps:List (Bt×Value)}(C:Blk h c #[.map (Td m)])(W:MapW h m (zbt ps))(P:(ps.map (·.1)).Nodup)(hl:ps.length<=1000000) (hK:∀(h':zb) (sl:Sl) (xs:List Bt),Keep h.size h h'->Owns h' h.size 9 1 sl (xs.map A3)->xs.Perm (ps.map (·.1))->K (.slice sl.a sl.len sl.cap) h'):
  XC Tp 278 #[.slice Te 0 0,.func (.func 238) #[] #[.pointer (Td ⟨c,0,Te⟩)]] h K:=by
 apply xz ⟨Te,0,0⟩;intro h1;have k1:Keep h.size h h1:=Keep.push _ _ (Ab _);have V:h1.size=h.size+1:=Aj _;have B1:Blk h1 h.size #[slV ⟨Te,0,0⟩]:=Blk.new _ _ _;clear_value h1;have Q:=W.lt;have hc:=C.lt;refine⟨_,_,rfl,z8n,λrec N=>?_⟩;obtain⟨i,b⟩:∃i:zb,i=((h1.push (.deferred (Td []))).push (.loop (rec .ready Te))):=⟨_,rfl⟩;have M:Keep h1.size h1 i:=by rw[b];exact(Keep.push _ _ (Ab _)).trans (Keep.push _ _ (by rw[Aj];omega)) (Ab _)
 have z4:i.size=h1.size+2:=by rw[b,Aj,Aj]
 have J:i[h1.size]?=Td (.deferred (Td [])):=by rw[b,BV,if_neg (by rw[Aj];omega)];exact yd _ _
 have O:i[h1.size+1]?=Td (.loop (rec .ready Te)):=by rw[b];have:=yd (h1.push (.deferred (Td []))) (.loop (rec .ready Te));rw[Aj]at this;exact this
 rw[<-b];clear b;have l:Keep h.size h i:=k1.trans M (by omega);have H:h1.size=h.size+1:=V;rw[H]at J O N ⊢;apply qy;refine⟨Td m,(C.keep (l.get c hc)).cell rfl,?_⟩;have W4:MapW i m (zbt ps):=W.keep (l.get m Q);refine zp2 qmv W4 λh5 z5 u q=>⟨Td ⟨i.size,0,Te⟩,rfl,λg=>∃xs sl,KyS h m rec ps g xs sl,λg=>leftN g (h.size+3) m,⟨[],⟨Te,0,0⟩,?_⟩,?_⟩;have E:i.size=h.size+3:=by omega
 rw[E]at q;exact⟨l.trans u (by omega),(u.get _ (by omega)).trans J,(u.get _ (by omega)).trans O,(B1.ofKeep M).keep (u.get _ (by omega)),Owns.nil _ _ _ _,q,C0,λx f=>(by cases f),by omega⟩;have E:i.size=h.size+3:=by omega
 rw[E];rintro g ⟨xs,sl,S⟩;have w:((zbt ps).map (·.1)).Nodup:=by rw[z8o];exact z8p P
 have B:xs.length<=1000000:=by have h1:=zyx S.nd S.sub;rw[Ap]at h1;omega
 refine zwl S.it w (by omega) (λn=>.inl ⟨rfl,(λf=>by cases f),λ_=>.inl ⟨S.rc,?_⟩⟩) λk v D Y g1 G s z I t=>.inr ⟨k,v,rfl,λ_=>?_,λf=>by cases f⟩;have aa:=S.gz;refine⟨sl,?_,?_,hK _ sl xs ?_ ?_ ?_⟩;exact(S.box.keep (zk (by omega))).cell rfl;rw[zk (by omega)];exact S.d;refine S.keep.trans ⟨by rw[A0,A0];exact Ab _,λj hj=>?_⟩ (Ab _);rw[zk (by omega),zk (by omega)];refine(S.o.keep λp y=>?_).base (by omega);have:=S.o.base_le p y;rw[zk (by omega),zk (by omega)];refine(List.perm_ext_iff_of_nodup S.nd P).2 λa=>⟨S.sub a,λZ=>?_⟩;obtain⟨p,y,rfl⟩:=AJ.1 Z;have:=n (.string p.1,p.2) (AJ.2 ⟨p,y,rfl⟩);obtain⟨x,f,e⟩:=AJ.1 this;injection e with e;subst e;exact List.mem_reverse.1 f;obtain⟨⟨L,vv⟩,r,e⟩:=AJ.1 D;injection e with H e2;subst H;subst e2;have F:L∉xs:=λf=>Y (AJ.2 ⟨L,List.mem_reverse.2 f,rfl⟩);refine zp3 s ⟨_,_,rfl,N ?_ ?_⟩;rw[I _ (by omega)];exact S.rc;refine S.round Q B G z I F (AJ.2 ⟨_,r,rfl⟩) λg' A S' q1 U=>⟨Ta,rfl,(λf=>by cases f),λ_=>⟨⟨_,A,S'⟩,?_⟩⟩;show leftN g' (h.size+3) m<_;rw[leftN.keep q1 U];exact t
theorem ztx{ps:List (Bt×Value)}(C:Blk h c #[.map (Td m)])(W:MapW h m (zbt ps))(o:(ps.map (·.1)).Nodup)(l:ps.length<=1000000) (q:∀h' sl,Keep h.size h h'->Owns h' h.size 9 1 sl ((jr (ps.map (·.1))).map A3)->K (.slice sl.a sl.len sl.cap) h'):
  XC Tp 173 #[.func (.func 238) #[] #[.pointer (Td ⟨c,0,Te⟩)]] h K:=by
 apply Xa;apply Jy;refine zwm C W o l λh1 sl xs f k b=>⟨sl,rfl,sl,rfl,?_⟩;have e:xs.length<=1000000:=by rw[b.length_eq,Ap];exact l
 refine XC.mono (z8m k e) ?_;rintro v h2 ⟨rfl,n,z2,r⟩;refine⟨rfl,q h2 sl ⟨BX f.size z2,λi hi=>?_⟩ (by rw[<-Qm b];exact n)⟩;refine(r i (CV hi f.size) λp b=>?_).trans (f.get i hi);have:=(k.base_le p b).1;omega
end
end Go.X
end
section
namespace Go.X
open Go Go.X Go.Proofs Go.Lib
section
theorem mapVal:MapT Tp 193 9 26 (.agg #[.int .i64 0,.string ⟨#[]⟩,.slice Te 0 0,.slice Te 0 0]):=⟨by kernel_rfl,by kernel_rfl,⟨Tryz.t26,by kernel_rfl,by kernel_rfl⟩⟩
theorem zty{l:List (Bt×Value)}{k:Bt}(h:k∉l.map (·.1)):zdg l k=Te:=by
 induction l with
 |nil=>rfl
 |cons p l b=>simp only[As,Ai,not_or]at h;rw[zdg,if_neg (λe=>h.1 e.symm),b h.2]
theorem zp4{α β:Type}{xs:List α}{ys:List β}{k:Nat}(b:k<xs.length){u:β}(c:ys.length=k):(xs.take (k+1)).zip (ys++[u])=(xs.take k).zip ys++[(xs[k],u)]:=by rw[Ay b,List.zip_append (by simp;omega)];rfl
set_option maxHeartbeats 1000000 in
theorem zf9{v:Tr}(U:v.keys.Nodup)(hl:v.keys.length=v.items.length)(hi:v.items.length<=1000000000000){h:zb}{M:Fr}{u:Value}(ag:AgM M h)(S:RdV M .tree v u){K:Value->zb->Prop} (N:∀(h':zb) (m:Nat) (us:List Value),Keep h.size h h'->h.size<=m->us.length=v.items.length->(∀i (h1:i<v.items.length) (p:i<us.length),RdV M .tree v.items[i] us[i])->MapW h' m (zbt (v.keys.zip us))->K (.map (Td m)) h'):
  XC Tp 172 #[u] h K:=by
 obtain⟨sk,si,rfl,E,H⟩:=yz S;obtain⟨lk,_,_⟩:=rowLen E;obtain⟨li,_,_⟩:=rowLen H;apply zhr v.kind v.text sk si;intro h1;have L:Keep h.size h h1:=Keep.push _ _ (Ab _);have b1:Blk h1 h.size (w7 v.kind v.text sk si).toArray:=Blk.new _ _ _;have Z:h1.size=h.size+1:=Aj _;clear_value h1;refine⟨sk,b1.cellAdd (by rfl),?_⟩;intro c;have C:Keep h1.size h1 c:=Keep.push _ _ (Ab _);have Q:MapW c h1.size []:=MapW.new _;have z3:c.size=h1.size+1:=Aj _;clear_value c;have b3:=b1.ofKeep C;have J:Keep h.size h c:=L.trans C (by omega);refine⟨sk,b3.cellAdd (by rfl),λx g=>∃(k:Nat) (us:List Value),x=(k:Int)/\k<=v.items.length/\us.length=k/\g.size=c.size/\(∀j,j≠h1.size->g[j]?=c[j]?)/\(∀i (h1:i<v.items.length) (p:i<us.length),RdV M .tree v.items[i] us[i])/\MapW g h1.size (zbt ((v.keys.take k).zip us)),λx _=>v.items.length-x.toNat,⟨0,[],rfl,AW _,rfl,rfl,λ_ _=>rfl,λi _ p=>by simp at p,by simpa[zbt]using Q⟩,?_⟩;rintro x g ⟨k,us,rfl,hk,r,zg,w,A,t⟩;have G:Keep h.size h g:=⟨by omega,λj s=>by rw[w j (by omega)];exact J.get j s⟩;have agg:=ag.keep G;refine⟨λl=>?_,λl=>?_⟩;have b:k<v.keys.length:=by rw[lk]at l;simp at l;omega
 have q:k<v.items.length:=by omega
 refine z0q agg E b rfl rfl ?_;have P:Blk g h.size (w7 v.kind v.text sk si).toArray:=b3.keep (w _ (by omega));obtain⟨a,F,B,Y,z,V,O⟩:=zd9 agg H q;refine⟨si,P.cellAdd (by rfl),a,⟨Y,by omega,by omega⟩,v.items[k].kind,v.items[k].text,F,B,?_,?_⟩;rw[Ag];exact z;refine qcm mapVal t v.keys[k] _ λg' n I y=>?_;rw[jc q (by omega)];refine⟨⟨k+1,us++[.agg #[.int .i64 v.items[k].kind,.string v.items[k].text,slV F,slV B]],rfl,by omega,by simp;omega,by omega,λj s=>(y j s).trans (w j s),λi h1 p=>?_,?_⟩,by simp only[Ag];omega⟩;rw[List.getElem_append];split;rename_i c;exact A i h1 c;rename_i c;have:i=k:=by simp at p;omega
 subst this;simp only[r,Dr,List.getElem_cons_zero];exact qf V O;rw[zp4 b r];have f:zdg ((v.keys.take k).zip us) v.keys[k]=Te:=zty λD=>by
  rw[Dt (by simp;omega)]at D;have o:=U;have e:v.keys=v.keys.take k++v.keys[k]::v.keys.drop (k+1):=by rw[<-Bw b,B8]
  rw[e,Cw]at o;exact o.2.2 _ D _ Am rfl
 rw[zb9 f]at n;exact n;have b:k=v.keys.length:=by rw[lk]at l;simp at l;omega
 subst b;rw[A5]at t;exact N g h1.size us G (by omega) (by omega) A t
end
end Go.X
end
section
namespace Go.X
open Go Go.Lib
section
def zg8:List (Bt×Tr)->Bt->Tr
 |[],_=>.mk 0 (bl []) [] []
 |p::l,k=>if p.1=k then p.2 else zg8 l k
mutual
def ze:Tr->Tr
 |.mk k s ks xs=>if k=6 then .mk k s (jr ks) ((jr ks).map λq=>zg8 (ks.zip (zkq xs)) q)else .mk k s [] (zkq xs)
def zkq:List Tr->List Tr
 |[]=>[]
 |x::l=>ze x::zkq l
end
def Zt(v:Tr):Tr:=if Zf v=Ta then ze v else .mk 0 (bl []) [] []
theorem zkr:∀l:List Tr,zkq l=l.map ze
 |[]=>rfl
 |x::l=>by rw[zkq,zkr l];rfl
theorem y9(v:Tr):ze v=if v.kind=6 then .mk v.kind v.text (jr v.keys) ((jr v.keys).map λq=>zg8 (v.keys.zip (v.items.map ze)) q)else .mk v.kind v.text [] (v.items.map ze):=by
 cases v with
 |mk k s ks xs=>rw[ze,zkr]
theorem zp5(k:Bt):∀(ks:List Bt) (ys:List Tr),ks.length=ys.length->k∈ks->∃(j:Nat) (h1:j<ks.length) (n:j<ys.length),ks[j]=k/\zg8 (ks.zip ys) k=ys[j]/\∀us:List Value,us.length=ks.length->zdg (ks.zip us) k=us[j]?
 |[],_,_,h=>by cases h
 |z::ks,[],h,_=>by simp at h
 |z::ks,y::ys,h,hk=>by
  by_cases b:z=k;refine⟨0,by simp,by simp,b,?_,λus c=>?_⟩;rw[BR,zg8,if_pos b];rfl
  match us,c with
  |u::us,_=>rw[BR,zdg,if_pos b];rfl
  have f:k∈ks:=by rcases Ai.1 hk with e|e;exact absurd e.symm b;exact e
  obtain⟨j,h1,n,i,l,m⟩:=zp5 k ks ys (by simpa using h) f;refine⟨j+1,by simp;omega,by simp;omega,by simpa using i,?_,λus c=>?_⟩;rw[BR,zg8,if_neg b,l];rfl
  match us,c with
  |u::us,c=>rw[BR,zdg,if_neg b,m us (by simpa using c)];rfl
end
end Go.X
end
section
namespace Go.X
open Go Go.X Go.Proofs Go.RowKit
section
variable {ks:List Bt}
theorem Owns.frz{h g:zb}{M M':Fr}(L:Later h M g M'){s:Sl}{base:Nat}(o:Owns g base 9 1 s (ks.map A3))(A:h.size<=base)(C:ks.length<=1000000):
  ∃l,Later h M g l/\(∀c,c<base->l c=M' c)/\Rd l (.row .str) ks [slV s]:=by
 have u:=qg4 o;rcases o.2 with⟨k,h0⟩|⟨b,cap,f,k,t,y,E,D,B,p⟩;have m:ks=[]:=AO (by omega);subst m;simp only[AP]at k;refine⟨M',L,λ_ _=>rfl,⟨_,rfl,s.a,s.cap,?_,⟨by simp,by simp⟩,.inl rfl⟩⟩;show slV s=_;unfold slV;rw[h0];rfl;simp only[AP]at k;obtain⟨r,_,w⟩:=k;have z:Blk g b f:=⟨_,y⟩;refine⟨MxL M' g [b],⟨L.keep,L.le.trans (zel L.ag _),λx m=>?_,MxL.ag L.ag _⟩,λc w=>?_,⟨_,rfl,s.a,s.cap,?_,⟨by omega,by omega⟩,.inr ⟨b,0,f,r,MxL.at (by simp) z,λi hi=>?_⟩⟩⟩;unfold MxL;rw[if_neg (by simp;omega)];exact L.old x m;unfold MxL;rw[if_neg (by simp;omega)];show slV s=_;unfold slV;rw[u];show cut f (0+i*1) 1=[.string ks[i]];apply Bu;intro q;rw[q9];by_cases n:q<1;have:q=0:=by omega
 subst this;rw[if_pos n];have e:(f.toList.take (s.len*1))[i]?=(ks.map A3)[i]?:=by rw[p]
 rw[AK,if_pos (by omega)]at e;rw[show 0+i*1+0=i from by omega,e];simp[hi];rw[if_neg n,BH (by simp;omega)]
structure SrS (h:zb) (M:Fr) (r o lo:Nat) (k:Int) (s:Bt) (sk:Sl) (xs:List Tr) (g:zb) (M':Fr) (so:Sl) (bs:List Nat):Prop where
 L:Later h M g M'
 res:Blk g r #[.int .i64 0,.string ⟨#[]⟩,.slice Te 0 0,.slice Te 0 0]
 out:Blk g o #[.int .i64 k,.string s,slV sk,slV so]
 row:ORow lo g M' .tree xs so bs
 nO:M' o=Te
 nR:M' r=Te
 hr:h.size<=r
 ro:r<o
 ol:o<lo
 lg:lo<=g.size
section
variable {h : zb} {M : Fr} {r o lo : Nat} {k : Int} {s : Bt} {sk : Sl} {xs : List Tr} {g : zb} {M' : Fr} {so : Sl} {bs : List Nat}
theorem SrS.add(S:SrS h M r o lo k s sk xs g M' so bs)(hn:xs.length<=1000000){u:zb}{y:Fr}(m:Later g M' u y){x:Tr}{xk xi:Sl}(P:RdV y .tree x (.agg #[.int .i64 x.kind,.string x.text,slV xk,slV xi])){K:zb->Prop}
  (hK:∀g' O bs',SrS h M r o lo k s sk (xs++[x]) g' y O bs'->(∀j,j<lo->j≠o->g'[j]?=g[j]?)->K g'):
  let f:=u.push (.cells #[.int .i64 x.kind,.string x.text,slV xk,slV xi] 26)
  XRun Tp (Au #[24,24] 24 #[slV so,.slice (Td ⟨u.size,0,Te⟩) 1 1]) f (λv n=>∃z:Sl,v=slV z/\XRunU Tp (Af 24 (.pointer (Td (Ad ⟨o,0,Te⟩ 3))) (slV z)) n K):=by
 intro f;have B:Keep u.size u f:=Keep.push _ _ (Ab _);have Z:f.size=u.size+1:=Aj _;have I:Blk f u.size [.int .i64 x.kind,.string x.text,slV xk,slV xi].toArray:=Blk.new _ _ _;clear_value f;have z1:=m.keep.size;have H:=S.hr;have J:=S.ro;have D:=S.ol;have ae:=S.lg;have p:Later g M' f y:=m.trans (Later.same m.ag B);have w:=S.row.call p;have rd:Rd y .tree x [.int .i64 x.kind,.string x.text,slV xk,slV xi]:=by
  unfold RdV at P;simp only[zhf,if_true]at P;obtain⟨cs,e,H⟩:=P;injection e with e;have:cs=[.int .i64 x.kind,.string x.text,slV xk,slV xi]:=by have:=congrArg Array.toList e;simpa using this.symm
  rw[<-this];exact H
 refine ORow.app zpe (by omega) p.ag w (by omega) I rd hn λY n bs' l aa ab F=>⟨Y,rfl,?_⟩;have C:∀c∈bs,lo<=c/\c<g.size/\M' c=Te:=S.row.own;have t:∀j,j<lo->n[j]?=g[j]?:=λj G=>by rw[F j (by omega) (λV=>by have:=(C j V).1;omega),B.get j (by omega)];exact m.keep.get j (by omega)
 rw[zi];refine yg qmb qmc (S.out.keep (t o D)) (by show 3<4;omega) rfl λE u1 u3 N=>?_;have i:∀j,j<lo->j≠o->E[j]?=g[j]?:=λj G h0=>(N j h0).trans (t j G);have q:∀c∈bs',lo<=c/\c<n.size/\y c=Te:=l.own;have hg:=S.L.keep.size;refine hK E Y bs' ⟨⟨⟨by omega,λj G=>?_⟩,S.L.le.trans m.le,λb hb=>?_,?_⟩,?_,u1,?_,?_,?_,H,J,D,by omega⟩ i;rw[i j (by omega) (by omega)];exact S.L.keep.get j G;rw[m.old b (by omega)];exact S.L.old b hb;intro c cs e;have A:=p.ag.lt e;have Q:c∉bs:=λV=>by obtain⟨_,h1,h2⟩:=C c V;rw[m.old c h1,h2]at e;cases e
 have U:c≠o:=λh=>by subst h;rw[m.old c (by omega),S.nO]at e;cases e
 rw[N c U,F c A Q];exact p.ag c cs e;exact S.res.keep (i r (by omega) (by omega));exact l.frame (λc A=>N c (by have:=(q c A).1;omega)) (Fr.le.refl _) λc A=>(q c A).2.2;rw[m.old o (by omega)];exact S.nO;rw[m.old r (by omega)];exact S.nR
theorem SrS.fin(S:SrS h M r o lo k s sk xs g M' so bs)(P:xs.length<=1000000)(J:Rd M' (.row .str) ks [slV sk]){w:Tr}(Q:Tr.mk k s ks xs=w):
  ∃(x:Int) (C:Bt) (D F:Sl),zd g ⟨o,0,Te⟩ 0 [.int .i64 x,.string C,slV D,slV F]/\XRunU Tp (Af 26 (.pointer (Td ⟨r,0,Te⟩)) (.agg #[.int .i64 x,.string C,slV D,slV F])) g λm=>
   ∃(E:Int) (B:Bt) (u z:Sl),zd m ⟨r,0,Te⟩ 0 [.int .i64 E,.string B,slV u,slV z]/\∃A q,Later h M m A/\Y3 A [.tree] q (.agg #[.int .i64 E,.string B,slV u,slV z])/\q=w:=by
 refine⟨k,s,sk,so,S.out.ld (cs:=[_,_,slV sk,slV so]),?_⟩;refine j4 S.res λp t z2 U=>⟨k,s,sk,so,U.ld (cs:=[_,_,slV sk,slV so]),?_⟩;have Y:=S.hr;have I:=S.ro;have G:=S.ol;have H:=S.lg;have i:∀c∈bs,lo<=c/\c<g.size/\M' c=Te:=S.row.own;have f:AgM M' p:=λc cs e=>by rw[t c (λh=>by subst h;rw[S.nR]at e;cases e)];exact S.L.ag c cs e
 have l:ORow lo p M' .tree xs so bs:=S.row.frame (λc n=>t c (by have:=(i c n).1;omega)) (Fr.le.refl _) λc n=>(i c n).2.2;have y:Later h M p M':=⟨⟨by have:=S.L.keep.size;omega,λj N=>by rw[t j (by omega)];exact S.L.keep.get j N⟩,S.L.le,S.L.old,f⟩;refine⟨MxL M' p bs,_,⟨y.keep,y.le.trans (zel f bs),λb O=>?_,MxL.ag f bs⟩,Xl.2 (qf (v:=.mk k s ks xs) (J.mono (zel f bs)) (l.rd f (λc n=>n) P)),Q⟩;unfold MxL;rw[if_neg (λV=>by have:=(i b V).1;omega)];exact S.L.old b O
end
set_option maxRecDepth 100000 in
set_option maxHeartbeats 2000000 in
theorem zyy:∀(n:Nat) (v:Tr),n<=1000000->tsz v<=n->Qt zn v=Ta->Sm v->∀(h:zb) (M:Fr) (u:Value),AgM M h->RdV M .tree v u->PX Tp 98 #[u] h M [.tree] (λq=>q=ze v)
 |0,v,_,hz,_,_=>by have:=Q6 v;omega
 |n+1,v,hn,hz,hok,hsm=>by
  intro h M u ag hu;have aT:=hu;obtain⟨sk,si,rfl,rk,ri⟩:=yz hu;have l:=hok;rw[y5,Ao]at l;have aF:v.items.length<=1000000:=by have:=Yx v.items;rw[y0]at hz;omega
  have ih:∀(i:Nat) (hi:i<v.items.length) (h:zb) (M:Fr) (u:Value),AgM M h->RdV M .tree v.items[i] u->PX Tp 98 #[u] h M [.tree] (λq=>q=ze v.items[i]):=λi hi=>by
   have hm:=AE hi;have hs:=yj hm;have am:Qt zn v.items[i]=Ta:=by rw[jo,Av]at l;exact l.2 _ hm
   exact zyy n v.items[i] (by omega) (by omega) am (hsm.item hm)
  obtain⟨li,_,_⟩:=rowLen ri;apply PX.of;apply zkh v.kind v.text sk si;intro h1;have k1:Keep h.size h h1:=Keep.push _ _ (Ab _);have z1:h1.size=h.size+1:=Aj _;have B1:Blk h1 h.size #[.int .i64 v.kind,.string v.text,slV sk,slV si]:=Blk.new _ _ _;clear_value h1;intro f;have k2:Keep h1.size h1 f:=Keep.push _ _ (Ab _);have z2:f.size=h1.size+1:=Aj _;have R2:Blk f h1.size #[.int .i64 0,.string ⟨#[]⟩,.slice Te 0 0,.slice Te 0 0]:=Blk.new _ _ _;clear_value f;have B2:=B1.ofKeep k2;refine⟨v.kind,B2.cellAdd (o:=0) (k:=0) rfl,v.text,B2.cellAdd (o:=0) (k:=1) rfl,?_⟩;intro h5;have k5:Keep f.size f h5:=Keep.push _ _ (Ab _);have z5:h5.size=f.size+1:=Aj _;have O5:Blk h5 f.size #[.int .i64 0,.string ⟨#[]⟩,.slice Te 0 0,.slice Te 0 0]:=Blk.new _ _ _;clear_value h5;refine j4 (sk:=⟨Te,0,0⟩) (si:=⟨Te,0,0⟩) O5 λh6 f6 z6 O6=>?_;have k6:Keep f.size f h6:=⟨by omega,λj G=>by rw[f6 j (by omega)];exact k5.get j G⟩;have O:Keep h.size h h6:=(k1.trans k2 (by omega)).trans k6 (by omega);have B6:=B2.ofKeep k6;have R6:=R2.ofKeep k6;have aV:=ag.keep O;refine⟨v.kind,B6.cellAdd (o:=0) (k:=0) rfl,λhx=>?_,λhx=>?_⟩;have h6:v.kind≠6:=by simpa using hx
  have hS:ze v=.mk v.kind v.text [] (v.items.map ze):=by rw[y9,if_neg h6]
  refine⟨si,B6.cellAdd (o:=0) (k:=3) rfl,λi g=>∃(m:Nat) (M':Fr) (so:Sl) (bs:List Nat),i=(m:Int)/\m<=v.items.length/\SrS h M h1.size f.size (f.size+1) v.kind v.text ⟨Te,0,0⟩ ((v.items.take m).map ze) g M' so bs,λi _=>v.items.length-i.toNat,⟨0,M,⟨Te,0,0⟩,[],rfl,AW _,⟨Later.same ag O,R6,O6,ORow.nil,ag.none (by omega),ag.none (by omega),by omega,by omega,by omega,by omega⟩⟩,?_⟩;rintro i g ⟨m,M',so,bs,rfl,hm,S⟩;have s:=S.L.ag;refine⟨λH=>?_,λH=>?_⟩;have b:m<v.items.length:=by have:=of_decide_eq_true H;omega
  obtain⟨a,ck,ci,ea,aN,t1,t2⟩:=zd9 s (ri.mono S.L.le) b;refine⟨a,⟨ea,by omega,by omega⟩,v.items[m].kind,v.items[m].text,ck,ci,by rw[Ag];exact aN,?_⟩;intro C;have aS:Keep g.size g C:=Keep.push _ _ (Ab _);have bj:C.size=g.size+1:=Aj _;have aG:Blk C g.size #[.int .i64 0,.string ⟨#[]⟩,.slice Te 0 0,.slice Te 0 0]:=Blk.new _ _ _;clear_value C;refine j4 aG λI aO bz aP=>?_;have ak:Keep g.size g I:=⟨by omega,λj G=>by rw[aO j (by omega)];exact aS.get j G⟩;have br:=S.out.lt;refine⟨so,(S.out.ofKeep ak).cellAdd (o:=0) (k:=3) rfl,v.items[m].kind,v.items[m].text,ck,ci,aP.ld (cs:=[_,_,slV ck,slV ci]),?_⟩;have aC:Later g M' I M':=Later.same s ak;refine(ih m b _ _ _ aC.ag (qf t1 t2)).go λw ae V q B y hq=>?_;subst hq;obtain⟨xk,xi,rfl,y1,y2⟩:=yz (Xl.1 y);have be:=B.keep.size;have ho:ae[f.size]?=I[f.size]?:=B.keep.get _ (by omega);refine⟨_,_,xk,xi,rfl,by rw[zi];exact ho,?_⟩;intro bq;refine⟨by rw[zi];exact((Keep.push ae _ (Ab _)).get f.size (by omega)).trans ho,S.add (by rw[Ap,AN];omega) (aC.trans B) (qf y1 y2) λg' U bs' S' _=>⟨⟨m+1,V,U,bs',by rw[jc b (by omega)],b,?_⟩,?_⟩⟩;rw[Ay b,Bh];exact S';show v.items.length-(Aa .i64 ((m:Int)+1)).toNat<v.items.length-(m:Int).toNat;rw[jc b (by omega)];omega;have b:m=v.items.length:=by have:=of_decide_eq_false H;omega
  subst b;rw[A5]at S;exact S.fin (by rw[Ap];exact aF) zf6 hS.symm;have N:v.kind=6:=by simpa using hx
  have hS:ze v=.mk v.kind v.text (jr v.keys) ((jr v.keys).map λq=>zg8 (v.keys.zip (v.items.map ze)) q):=by rw[y9,if_pos N]
  have r:=l.1;have af:v.keys.Nodup:=by unfold zn wo at r;simp[N]at r;exact r.1.1.2
  have ax:v.keys.length=v.items.length:=by unfold zn at r;simp[N]at r;exact r.1.2
  refine⟨v.kind,v.text,sk,si,B6.ld (cs:=[_,_,slV sk,slV si]),?_⟩;refine zf9 af ax (by omega) aV aT λE m us an aZ a1 aY ar=>⟨Td m,rfl,?_⟩;have a7:=an.size;apply yf;intro z;have au:Keep E.size E z:=Keep.push _ _ (Ab _);have bg:z.size=E.size+1:=Aj _;have aJ:Blk z E.size #[.map (Td m)]:=Blk.new _ _ _;clear_value z;have J:MapW z m (zbt (v.keys.zip us)):=ar.keep (au.get m ar.lt);have ab:(v.keys.zip us).map (·.1)=v.keys:=Dt (by omega);refine⟨_,rfl,ztx aJ J (by rw[ab];exact af) (by simp;omega) λaa sl P ay=>⟨sl,rfl,?_⟩⟩;rw[ab]at ay;have bu:=P.size;have ba:(jr v.keys).length=v.keys.length:=ztw _;have t:Keep h6.size h6 aa:=(an.trans au (by omega)).trans P (by omega);have ah:Keep h.size h aa:=O.trans t (by omega);obtain⟨V,B,F,Y⟩:=Owns.frz (Later.same ag ah) ay (by omega) (by omega);have aU:Blk aa f.size #[.int .i64 v.kind,.string v.text,slV ⟨Te,0,0⟩,slV ⟨Te,0,0⟩]:=O6.keep (t.get _ (by omega));have ap:V f.size=Te:=by rw[F _ (by omega)];exact ag.none (by omega)
  have aE:V h1.size=Te:=by rw[F _ (by omega)];exact ag.none (by omega)
  rw[zi];refine yg qky qkz aU (by show 2<4;omega) rfl λA az a6 D=>?_;have aL:Later h M A V:=⟨⟨by have:=B.keep.size;omega,λj G=>by rw[D j (by omega)];exact B.keep.get j G⟩,B.le,B.old,λc cs e=>by rw[D c (λh=>by subst h;rw[ap]at e;cases e)];exact B.ag c cs e⟩;have ai:MapW A m (zbt (v.keys.zip us)):=J.keep ((D m (by omega)).trans (P.get m J.lt));have aA:=ai.lt;refine⟨sl,Blk.cell (o:=2) az rfl,λi g=>∃(p:Nat) (M':Fr) (so:Sl) (bs:List Nat),i=(p:Int)/\p<=(jr v.keys).length/\SrS h M h1.size f.size A.size v.kind v.text sl (((jr v.keys).take p).map λq=>zg8 (v.keys.zip (v.items.map ze)) q) g M' so bs/\Fr.le V M'/\(∀j,j<A.size->j≠f.size->g[j]?=A[j]?),λi _=>(jr v.keys).length-i.toNat,⟨0,V,⟨Te,0,0⟩,[],rfl,AW _,⟨aL,R6.keep ((D _ (by omega)).trans (t.get _ (by omega))),az,ORow.nil,ap,aE,by omega,by omega,by omega,Ab _⟩,Fr.le.refl _,λ_ _ _=>rfl⟩,?_⟩;obtain⟨bm,_,_⟩:=rowLen Y;rintro i g ⟨p,M',so,bs,rfl,hp,S,Z,fg⟩;have s:=S.L.ag;refine⟨λH=>?_,λH=>?_⟩;have b:p<(jr v.keys).length:=by have:=of_decide_eq_true H;omega
  obtain⟨a,aH,x,aQ,aM⟩:=z0q s (Y.mono Z) b (i:=(p:Int)) rfl (L:=sl.len) rfl (Q:=λx=>x=(jr v.keys)[p]) rfl;subst aM;refine⟨a,aH,(jr v.keys)[p],aQ,so,S.out.cellAdd (o:=0) (k:=3) rfl,?_⟩;have aI:(jr v.keys)[p]∈v.keys:=(y8 v.keys).mem_iff.1 (AE b);obtain⟨j,j1,j2,e1,e2,e3⟩:=zp5 (jr v.keys)[p] v.keys (v.items.map ze) (by rw[Ap];exact ax) aI;rw[Ap]at j2;have aB:j<us.length:=by omega
  obtain⟨ck,ci,eu,t1,t2⟩:=yz (aY j j2 aB);have wg:MapW g m (zbt (v.keys.zip us)):=ai.keep (fg m aA (by omega));refine⟨v.items[j].kind,v.items[j].text,ck,ci,?_,rfl,?_⟩;have:=We mapVal wg.at (jr v.keys)[p] Tc;have eg:zw9 (v.keys.zip us) (jr v.keys)[p] (.agg #[.int .i64 0,.string ⟨#[]⟩,.slice Te 0 0,.slice Te 0 0])=us[j]:=by unfold zw9;rw[e3 us (by omega),Ak aB];rfl
  rw[if_neg (by simp),eg,eu]at this;exact this;refine(ih j j2 _ _ _ s (qf (t1.mono S.L.le) (t2.mono S.L.le))).go λw aj M3 q L3 y hq=>?_;subst hq;obtain⟨xk,xi,rfl,y1,y2⟩:=yz (Xl.1 y);have a8:=L3.keep.size;have bn:=S.lg;have ho:aj[f.size]?=g[f.size]?:=L3.keep.get _ (by omega);refine⟨_,_,xk,xi,rfl,by rw[zi];exact ho,?_⟩;intro bA;refine⟨by rw[zi];exact((Keep.push aj _ (Ab _)).get f.size (by omega)).trans ho,S.add (by rw[Ap,AN];omega) L3 (qf y1 y2) λg' U bs' S' f'=>⟨⟨p+1,M3,U,bs',by rw[jc b (by omega)],b,?_,Z.trans L3.le,λj G h0=>(f' j G h0).trans (fg j G h0)⟩,?_⟩⟩;rw[Ay b,Bh,As,Cb,e2,CF];exact S';show(jr v.keys).length-(Aa .i64 ((p:Int)+1)).toNat<(jr v.keys).length-(p:Int).toNat;rw[jc b (by omega)];omega;have b:p=(jr v.keys).length:=by have:=of_decide_eq_false H;omega
  subst b;rw[A5]at S;exact S.fin (by rw[Ap];omega) (Y.mono Z) hS.symm
end
end Go.X
end
section
namespace Go.X
open Go Go.Lib
section
variable {r s w:Bs} {a N lv:Nat} {ln:Bool} {v:Tr}
def qg6(r:Bs):Prop:=∀c,r.head?=Td c->c=44\/c=93\/c=125\/c=10
theorem zyz:qg6 []:=λc h=>by cases h
theorem zev{c:UInt8}(h:c=44\/c=93\/c=125\/c=10):qg6 (c::r):=λd b=>by have b:Td c=Td d:=b;rw[<-Az b];exact h
theorem zik{p:UInt8->Bool}:∀{w r:Bs},(∀c∈w,p c=Ta)->(∀c,r.head?=Td c->p c=Tc)->Ye p (w++r)=w.length
 |[],[],_,_=>rfl
 |[],c::r,_,h=>by unfold Ye;rw[A8,List.takeWhile_cons,if_neg (by rw[h c rfl];simp)]
 |c::w,r,h,h2=>by have:=zik (w:=w) (r:=r) (λd b=>h d (Ae _ b)) h2;unfold Ye at this ⊢;rw[AD,List.takeWhile_cons,if_pos (h c Am),Aq,this,Aq]
theorem z8q(h:(zj w).2=0)(o:s.drop a=w++r)(n:qg6 r):Z5 s a=(9,a+w.length,0)/\∃c t,w=c::t/\c∈zc4:=by
 have k:zec w=Ta:=by
  unfold zj at h;cases e:Xm w with
  |none=>rw[e]at h;simp at h
  |some x=>exact(zcr e).1
 obtain⟨m,c,t,e,f⟩:=z8h k;have b:Ye (xp zc3) (w++r)=w.length:=zik (λc f=>by unfold xp;exact decide_eq_true (m c f)) λc f=>by
  have:∀c:UInt8,c=44\/c=93\/c=125\/c=10->xp zc3 c=Tc:=by rintro c (rfl|rfl|rfl|rfl) <;> decide
  exact this c (n c f)
 have i:c∉ya/\c∉xo/\c≠34:=by
  have:∀c∈zc4,c∉ya/\c∉xo/\c≠34:=by decide
  exact this c f
 refine⟨?_,c,t,e,f⟩;unfold Z5;rw[o];rw[e,AD]at b ⊢;rw[e]at h;dsimp only;have l:(c::(t++r)).take (c::t).length=c::t:=by rw[<-AD,Cu]
 rw[if_neg i.1,if_neg i.2.1,if_neg i.2.2,if_pos f,b,l,if_pos h]
theorem zy0(h:Qj w≠0)(q:s.drop a=w++r)(p:qg6 r):Z5 s a=(Qj w,a+w.length,0):=by
 have m:w=[116,114,117,101]\/w=[102,97,108,115,101]\/w=[110,117,108,108]:=by unfold Qj at h;by_cases h1:w=[116,114,117,101];exact .inl h1;rw[if_neg h1]at h;by_cases o:w=[102,97,108,115,101];exact .inr (.inl o);rw[if_neg o]at h;by_cases n:w=[110,117,108,108];exact .inr (.inr n);rw[if_neg n]at h;exact absurd rfl h
 have f:∀c∈w,xp we c=Ta:=by rcases m with rfl|rfl|rfl <;> decide
 have b:Ye (xp we) (w++r)=w.length:=zik f λc l=>by
  have:∀c:UInt8,c=44\/c=93\/c=125\/c=10->xp we c=Tc:=by rintro c (rfl|rfl|rfl|rfl) <;> decide
  exact this c (p c l)
 obtain⟨c,t,e,l⟩:∃c t,w=c::t/\(c=116\/c=102\/c=110):=by rcases m with rfl|rfl|rfl;exact⟨_,_,rfl,.inl rfl⟩;exact⟨_,_,rfl,.inr (.inl rfl)⟩;exact⟨_,_,rfl,.inr (.inr rfl)⟩
 have i:c∉ya/\c∉xo/\c≠34/\c∉zc4:=by rcases l with rfl|rfl|rfl <;> decide
 unfold Z5;rw[q];rw[e,AD]at b ⊢;rw[e]at h;dsimp only;have k:(c::(t++r)).take (c::t).length=c::t:=by rw[<-AD,Cu]
 rw[if_neg i.1,if_neg i.2.1,if_neg i.2.2.1,if_neg i.2.2.2,b,k,if_neg h]
theorem zks(i:∀c∈w,c∈xo)(k:∀c,r.head?=Td c->c∉xo)(h:s.drop a=w++r):∃T,Lex s a (a+w.length) T/\zw T=[]:=by
 cases w with
 |nil=>exact⟨[],.nil,rfl⟩
 |cons c t=>
  have f:=i c Am;have b:Ye (xp xo) (c::t++r)=(c::t).length:=zik (λd e=>by unfold xp;exact decide_eq_true (i d e)) λd e=>by unfold xp;exact decide_eq_false (k d e)
  have h1:c∉ya:=by
   have:∀c∈xo,c∉ya:=by decide
   exact this c f
  have tk:Z5 s a=(1,a+(c::t).length,0):=by unfold Z5;rw[h,AD];dsimp only;rw[if_neg h1,if_pos f];rw[AD]at b;rw[b]
  exact⟨_,Lex.step (T:=[]) tk (qw h (by simp)) .nil,rfl⟩
theorem jv(A B:List Tk):zw (A++B)=zw A++zw B:=List.filter_append ..
theorem ql{t:Tk}{T:List Tk}(h:t.1≠1):zw (t::T)=t::zw T:=by unfold zw;rw[BP,if_pos (decide_eq_true h)]
theorem zew(h:s.drop a=w++r):s.drop (a+w.length)=r:=by rw[<-BM,h,Dl]
theorem zno:∀c∈yl ln N lv,c∈xo:=by intro c b;unfold yl at b;split at b;rcases Ai.1 b with rfl|b;decide;rw[(List.mem_replicate.1 b).2];decide;cases b
def xg(ln:Bool)(N lv:Nat)(b:UInt8):List Bs->Bs
 |[]=>yl ln N lv++[b]
 |p::ps=>yl ln N (lv+1)++(p++(if ps=[]then xg ln N lv b []else 44::xg ln N lv b ps))
theorem znp{ln:Bool}{N lv:Nat}{b:UInt8}:∀{ps:List Bs},ps≠[]->xg ln N lv b ps=Zh ln N (lv+1) ps++(yl ln N lv++[b])
 |[],h=>absurd rfl h
 |[p],_=>by rw[xg,if_pos rfl,xg,Zh];simp
 |p::q::ps,_=>by rw[xg,if_neg (by simp),znp (ps:=q::ps) (by simp)];rw[Zh,Zh];simp[AH]
theorem ztz{b:UInt8}{ps:List Bs}(h:ps≠[]):Xw ln N lv ps++[b]=xg ln N lv b ps:=by rw[znp h];unfold Xw;rw[if_neg h,AH]
def OKs(nx:List Bs->Bs×Tr->List Bs)(Fresh:List Bs->Bs×Tr->Prop):List Bs->List (Bs×Tr)->Prop
 |_,[]=>True
 |had,kv::l=>Fresh had kv/\OKs nx Fresh (nx had kv) l
theorem z8r{b:UInt8}(e:b=93\/b=125)(h:s.drop a=xg ln N lv b []++r):∃T,Lex s a (a+(xg ln N lv b []).length) T/\∃c,zw T=[c]/\c.1=2+indexByte ya b:=by
 rw[xg]at h ⊢;rw[AH]at h;have i:b∈ya:=by rcases e with rfl|rfl <;> decide
 have l:b∉xo:=by rcases e with rfl|rfl <;> decide
 obtain⟨p,o,n⟩:=zks zno (r:=[b]++r) (λc k=>by have k:Td b=Td c:=k;rw[<-Az k];exact l) h;have f:=zew h;have tk:=Ql i f;have m:=Lex.step (T:=[]) tk (qw f (by simp)) .nil;refine⟨p++[(2+indexByte ya b,(((a+(yl ln N lv).length:Nat):Int),((a+(yl ln N lv).length+1:Nat):Int)))],?_,(2+indexByte ya b,(((a+(yl ln N lv).length:Nat):Int),((a+(yl ln N lv).length+1:Nat):Int))),?_,rfl⟩;have:=o.append m;rw[Ah,<-CP];exact this;rw[jv,n,A8,ql (show(2+indexByte ya b:Int)≠1 by rcases e with rfl|rfl <;> decide)];rfl
theorem zp6{ln:Bool}{N lv:Nat}{s:Bs}{i:UInt8}(m:i=93\/i=125){K:List Bs->List Bs->Bs×Tr->List Tk->Nat->Prop}{nx:List Bs->Bs×Tr->List Bs}{Fresh:List Bs->Bs×Tr->Prop}{P:Bs×Tr->Bs}:∀(kvs:List (Bs×Tr)) (had:List Bs) (a:Nat) (r:Bs),kvs≠[]->OKs nx Fresh had kvs -> (∀b∈kvs,(∃c t,P b=c::t/\c∉xo)/\∀had a r,Fresh had b->s.drop a=P b++r->qg6 r->∃T,Lex s a (a+(P b).length) T/\K had (nx had b) b (zw T) (tsz b.2)) ->
  s.drop a=xg ln N lv i (kvs.map P)++r->∃T,Lex s a (a+(xg ln N lv i (kvs.map P)).length) T/\KidsG K (2+indexByte ya i) had kvs (zw T) (Zs (kvs.map (·.2)))
 |[],had,a,r,h,_,_,_=>absurd rfl h
 |b::kvs,had,a,r,_,hok,hK,hs=>by
  obtain⟨⟨c0,L,H,u⟩,o⟩:=hK b Am;rw[As,xg,AH]at hs;obtain⟨A,D,E⟩:=zks zno (λc n=>by rw[H]at n;have n:Td c0=Td c:=n;rw[<-Az n];exact u) hs;have k:=zew hs;rw[AH]at k;have l:qg6 ((if kvs.map P=[]then xg ln N lv i []else 44::xg ln N lv i (kvs.map P))++r):=by split;rw[xg];unfold yl;split;exact zev (.inr (.inr (.inr rfl)));rcases m with rfl|rfl;exact zev (.inr (.inl rfl));exact zev (.inr (.inr (.inl rfl)));exact zev (.inl rfl)
  obtain⟨C,B,k2⟩:=o had _ _ hok.1 k l;have f:=zew k;by_cases y:kvs=[];subst y;rw[Cb,if_pos rfl]at f;obtain⟨z,w,c,F,n⟩:=z8r m f;refine⟨A++(C++z),?_,?_⟩;have:=D.append (B.append w);rw[As,Cb,xg,if_pos rfl];simp only[Ah]at this ⊢;rw[show a+((yl ln N (lv+1)).length+((P b).length+(xg ln N lv i []).length))=a+(yl ln N (lv+1)).length+(P b).length+(xg ln N lv i []).length from by omega];exact this;rw[jv,E,A8,jv,F];exact KidsG.last k2 n;have p:kvs.map P≠[]:=λe=>y (List.map_eq_nil_iff.1 e);rw[if_neg p,AD]at f;have tk:=Ql (c:=44) (by decide) f;have q:s.drop (a+(yl ln N (lv+1)).length+(P b).length+1)=xg ln N lv i (kvs.map P)++r:=by rw[<-BM,f];rfl
  obtain⟨z,w,G⟩:=zp6 m kvs (nx had b) _ r y hok.2 (λx J=>hK x (Ae _ J)) q;have I:=Lex.step tk (qw f (by simp)) w;refine⟨A++(C++(2+indexByte ya 44,(((a+(yl ln N (lv+1)).length+(P b).length:Nat):Int),((a+(yl ln N (lv+1)).length+(P b).length+1:Nat):Int)))::z),?_,?_⟩;have:=D.append (B.append I);rw[As,xg,if_neg p];simp only[Ah,Aq]at this ⊢;rw[show a+((yl ln N (lv+1)).length+((P b).length+((xg ln N lv i (kvs.map P)).length+1)))=a+(yl ln N (lv+1)).length+(P b).length+1+(xg ln N lv i (kvs.map P)).length from by omega];exact this;rw[jv,E,A8,jv,ql (show(2+indexByte ya 44:Int)≠1 by decide),As,Zs];exact KidsG.more k2 (show(2+indexByte ya 44:Int)=6 by decide) G
theorem zkt(h:okV v=Ta):(v.kind=1/\lb v.text=[]/\v.keys=[]/\v.items=[])\/(v.kind=2/\(lb v.text=[116,114,117,101]\/lb v.text=[102,97,108,115,101])/\v.keys=[]/\v.items=[]) \/ (v.kind=3/\((zj (lb v.text)).2=0/\qm (zj (lb v.text)).1=lb v.text)/\v.keys=[]/\v.items=[])\/(v.kind=4/\Z8 (lb v.text)=Ta/\v.keys=[]/\v.items=[]) \/
  (v.kind=5/\lb v.text=[]/\v.keys=[])\/(v.kind=6/\wo v.keys=Ta/\v.keys.length=v.items.length/\lb v.text=[]):=by
 unfold okV at h;rw[Ao]at h;obtain⟨f,h⟩:=h;have f:v.kind≠7:=of_decide_eq_true f;unfold zn at h;by_cases h1:v.kind=1;rw[if_pos h1]at h;simp only[Ao,beq_iff_eq,List.isEmpty_iff]at h;exact .inl ⟨h1,h.1.1,h.1.2,h.2⟩;rw[if_neg h1]at h;by_cases k:v.kind=2;rw[if_pos k]at h;simp only[Ao,beq_iff_eq,List.isEmpty_iff,BK]at h;exact .inr (.inl ⟨k,h.1.1,h.1.2,h.2⟩);rw[if_neg k]at h;by_cases i:v.kind=3;rw[if_pos i]at h;unfold z0z at h;simp only[Ao,beq_iff_eq,List.isEmpty_iff,decide_eq_true_eq]at h;exact .inr (.inr (.inl ⟨i,h.1.1,h.1.2,h.2⟩));rw[if_neg i]at h;by_cases e:v.kind=4;rw[if_pos e]at h;simp only[Ao,List.isEmpty_iff]at h;exact .inr (.inr (.inr (.inl ⟨e,h.1.1,h.1.2,h.2⟩)));rw[if_neg e]at h;by_cases c:v.kind=5;rw[if_pos c]at h;simp only[Ao,beq_iff_eq,List.isEmpty_iff]at h;exact .inr (.inr (.inr (.inr (.inl ⟨c,h.1,h.2⟩))));rw[if_neg c]at h;by_cases b:v.kind=6;rw[if_pos b]at h;simp only[Ao,beq_iff_eq,decide_eq_true_eq]at h;exact .inr (.inr (.inr (.inr (.inr ⟨b,h.1.1,h.1.2,h.2⟩))));rw[if_neg b,if_neg f]at h;cases h
theorem zwn{t:Bs}(h:Z8 t=Ta):(znd t).1=zf7 t:=by unfold znd;rw[if_pos h];rfl
theorem zy1(h:okV v=Ta):∃c t,jz ln N v lv=c::t/\c∉xo:=by
 rw[Yc];rcases zkt h with⟨b,_⟩|⟨b,f,_⟩|⟨b,⟨f,_⟩,_⟩|⟨b,f,_⟩|⟨b,_⟩|⟨b,_⟩;rw[b];exact⟨_,_,rfl,by decide⟩;rw[b,if_neg (by decide),if_neg (by decide),if_neg (by decide),if_neg (by decide)];rcases f with e|e <;> (rw[e];exact⟨_,_,rfl,by decide⟩);rw[b,if_neg (by decide),if_neg (by decide),if_neg (by decide),if_neg (by decide)];obtain⟨_,c,t,e,i⟩:=z8q (s:=lb v.text) (a:=0) (r:=[]) f (by simp) zyz;refine⟨c,t,e,?_⟩;have:∀c∈zc4,c∉xo:=by decide
 exact this c i;rw[b,if_neg (by decide),if_pos rfl,zwn f];exact⟨_,_,rfl,by decide⟩;rw[b,if_neg (by decide),if_neg (by decide),if_pos rfl];exact⟨_,_,rfl,by decide⟩;rw[b,if_neg (by decide),if_neg (by decide),if_neg (by decide),if_pos rfl];exact⟨_,_,rfl,by decide⟩
theorem zp7(b:s.drop a=w++r)(e:w≠[]):qp s ((a:Int),((a+w.length:Nat):Int))=w/\J4 s ((a:Int),((a+w.length:Nat):Int))=w:=by
 have h:=qw b (by simp[e]);have f:a+w.length<=s.length:=by have:=congrArg Cd b;rw[AI,Ah]at this;omega
 have i:=Bv.2 e;have c:J4 s ((a:Int),((a+w.length:Nat):Int))=w:=by unfold J4;simp only[Ag];rw[b,CI,Cu]
 refine⟨?_,c⟩;rw[zbk (by dsimp only;omega) (by dsimp only;omega) (by dsimp only;omega)];exact c
theorem z8s{nx:List Bs->Bs×Tr->List Bs}:∀(l:List (Bs×Tr)) (had:List Bs),OKs nx (λ_ _=>True) had l
 |[],_=>trivial
 |_::l,_=>⟨trivial,z8s l _⟩
theorem zy2:∀(l:List (Bs×Tr)) (had:List Bs),(l.map (·.1)).Nodup->(∀b∈l,b.1∉had)->OKs (λhad b=>had++[b.1]) (λhad b=>b.1∉had) had l
 |[],_,_,_=>trivial
 |b::l,had,hn,hh=>by rw[As,Ba]at hn;refine⟨hh b Am,zy2 l _ hn.2 λx c e=>?_⟩;rcases Aw.1 e with h|h;exact hh x (Ae _ c) h;rw[AY]at h;exact hn.1 (h ▸ AJ.2 ⟨x,c,rfl⟩)
theorem zy3:∀{ks:List Bt},ks.Nodup->(ks.map lb).Nodup
 |[],_=>C0
 |k::ks,h=>by
  rw[Ba]at h;rw[As,Ba];refine⟨λc=>?_,zy3 h.2⟩;obtain⟨q,b,e⟩:=AJ.1 c;have:q=k:=by rw[<-Y4 q,e,Y4]
  exact h.1 (this ▸ b)
theorem zp8{k:Int}(c:k≠1)(h:Z5 s a=(k,a+w.length,0))(b:s.drop a=w++r)(e:w≠[]):Lex s a (a+w.length) [(k,((a:Int),((a+w.length:Nat):Int)))]/\zw [(k,((a:Int),((a+w.length:Nat):Int)))]=[(k,((a:Int),((a+w.length:Nat):Int)))]:= ⟨Lex.step (T:=[]) h (qw b (by simp[e])) .nil,by rw[ql c];rfl⟩
set_option maxHeartbeats 1000000 in
theorem zwo{ln:Bool}{N:Nat}:∀(n:Nat) (v:Tr) (lv d:Nat),tsz v<=n->Qt okV v=Ta->tdp v<=d->∀(s r:Bs) (a:Nat),s.drop a=jz ln N v lv++r->qg6 r->∃T,Lex s a (a+(jz ln N v lv).length) T/\PV s d v (zw T) (tsz v)
 |0,v,_,_,h,_,_=>by have:=Q6 v;omega
 |n+1,v,lv,0,_,_,hd=>by rw[zj7]at hd;omega
 |n+1,v,lv,d+1,hz,hok,hd=>by
  intro s r a i hr;rw[y5,Ao]at hok;obtain⟨hv,y⟩:=hok;rw[jo,Av]at y;have I:∀x∈v.items,tsz x<=n/\tdp x<=d/\Qt okV x=Ta:=λx U=>⟨by have:=yj U;omega,by have:=zps U;omega,y x U⟩;have eta:v=.mk v.kind v.text v.keys v.items:=by cases v;rfl
  have G:∀{t:Bt},lb t=[]->t=bl []:=λ {t} h=>by rw[<-Y4 t,h]
  rw[Yc]at i ⊢;rcases zkt hv with⟨o,p,h1,z⟩|⟨o,p,h1,z⟩|⟨o,⟨p,ah⟩,h1,z⟩|⟨o,p,h1,z⟩|⟨o,p,h1⟩|⟨o,D,ab,p⟩;rw[if_pos o]at i ⊢;have tk:=zy0 (w:=[110,117,108,108]) (by decide) i hr;obtain⟨L,J⟩:=zp8 (by decide) tk i (by simp);refine⟨_,L,?_⟩;rw[J];refine⟨_,.inl ⟨rfl,show zu 12≠0 by decide,show zu 12≠5 by decide,show zu 12≠6 by decide,?_,?_⟩⟩;rw[eta,o,h1,z,G p];rfl;rw[y0,z];rfl;rw[if_neg (by omega),if_neg (by omega),if_neg (by omega),if_neg (by omega)]at i ⊢;have hw:Qj (lb v.text)=10\/Qj (lb v.text)=11:=by rcases p with e|e <;> (rw[e];decide)
  have l:lb v.text≠[]:=by rcases p with e|e <;> (rw[e];simp)
  have tk:=zy0 (w:=lb v.text) (by omega) i hr;obtain⟨L,J⟩:=zp8 (by omega) tk i l;refine⟨_,L,?_⟩;rw[J];have E:zu (Qj (lb v.text))=2:=by rcases hw with e|e <;> (rw[e];decide)
  refine⟨_,.inl ⟨rfl,?_,?_,?_,?_,?_⟩⟩;dsimp only;rw[E];decide;dsimp only;rw[E];decide;dsimp only;rw[E];decide;dsimp only;rw[E,(zp7 i l).1];unfold Yk;rw[if_pos rfl,Y4];rw[eta,o,h1,z];rw[y0,z];rfl;rw[if_neg (by omega),if_neg (by omega),if_neg (by omega),if_neg (by omega)]at i ⊢;obtain⟨tk,c,t,e,_⟩:=z8q p i hr;have l:lb v.text≠[]:=by rw[e];simp
  obtain⟨L,J⟩:=zp8 (by decide) tk i l;refine⟨_,L,?_⟩;rw[J];refine⟨_,.inl ⟨rfl,show zu 9≠0 by decide,show zu 9≠5 by decide,show zu 9≠6 by decide,?_,?_⟩⟩;dsimp only;rw[show zu 9=3 from rfl,(zp7 i l).1];unfold Yk;rw[if_neg (by decide),if_pos rfl,ah,Y4];rw[eta,o,h1,z];rw[y0,z];rfl;rw[if_neg (by omega),if_pos o,zwn p]at i ⊢;have tk:=z8f p i;obtain⟨L,J⟩:=zp8 (by decide) tk i (by unfold zf7;simp);refine⟨_,L,?_⟩;rw[J];have:=qj4 (d:=d) p i;rw[Y4]at this;rw[show v=.mk 4 v.text [] []from by rw[eta,o,h1,z]];exact this;rw[if_neg (by omega),if_neg (by omega),if_pos o]at i ⊢;have ev:v=.mk 5 (bl []) [] v.items:=by rw[eta,o,h1,G p]
  by_cases A:v.items=[];rw[A]at i ⊢;have i:s.drop a=91::([93]++r):=i;have tk:=Ql (c:=91) (by decide) i;have m:s.drop (a+1)=93::r:=by rw[<-BM,i];rfl
  have S:=Ql (c:=93) (by decide) m;refine⟨_,Lex.step (b:=a+2) tk (qw i (by simp)) (Lex.step (T:=[]) S (qw m (by simp)) .nil),?_⟩;rw[ql (show(2+indexByte ya 91:Int)≠1 by decide),ql (show(2+indexByte ya 93:Int)≠1 by decide)];exact⟨_,.inr (.inl ⟨_,rfl,.inl ⟨show(2+indexByte ya 91:Int)=4 by decide,show(2+indexByte ya 93:Int)=5 by decide,by rw[ev,A]⟩,by rw[y0,A];rfl⟩)⟩;have F:(v.items.map λx=>jz ln N x (lv+1))=(v.items.map λx=>(([]:Bs),x)).map λf=>jz ln N f.2 (lv+1):=by rw[A7];rfl
  have l:(v.items.map λx=>(([]:Bs),x))≠[]:=λe=>A (List.map_eq_nil_iff.1 e);have hw:(91::Xw ln N lv (v.items.map λx=>jz ln N x (lv+1))++[93]:Bs)=91::xg ln N lv 93 ((v.items.map λx=>(([]:Bs),x)).map λf=>jz ln N f.2 (lv+1)):=by rw[AD,ztz (by rw[F];exact λe=>l (List.map_eq_nil_iff.1 e)),F]
  rw[hw]at i ⊢;have tk:=Ql (c:=91) (by decide) i;have m:s.drop (a+1)=xg ln N lv 93 ((v.items.map λx=>(([]:Bs),x)).map λf=>jz ln N f.2 (lv+1))++r:=by rw[<-BM,i];rfl
  obtain⟨T,L,k⟩:=zp6 (.inl rfl) (K:=KA (PV s d)) (nx:=λhad _=>had) (Fresh:=λ_ _=>True) (P:=λf=>jz ln N f.2 (lv+1)) _ [] (a+1) r l (z8s _ _) (λf B=>by obtain⟨x,U,rfl⟩:=AJ.1 B;obtain⟨g1,g2,V⟩:=I x U;have u:=V;rw[y5,Ao]at u;refine⟨zy1 u.1,λhad b q _ M hq=>?_⟩;obtain⟨T,L,k⟩:=zwo n x (lv+1) d g1 V g2 s q b M hq;exact⟨T,L,rfl,k⟩) m;refine⟨_,by rw[Aq,show a+((xg ln N lv 93 ((v.items.map λx=>(([]:Bs),x)).map λf=>jz ln N f.2 (lv+1))).length+1)=a+1+(xg ln N lv 93 ((v.items.map λx=>(([]:Bs),x)).map λf=>jz ln N f.2 (lv+1))).length from by omega];exact Lex.step tk (qw i (by simp)) L,?_⟩;rw[ql (show(2+indexByte ya 91:Int)≠1 by decide)];have em:(v.items.map λx=>(([]:Bs),x)).map (·.2)=v.items:=by rw[A7];exact DY _
  refine⟨_,.inr (.inr (.inl ⟨_,_,_,rfl,show(2+indexByte ya 91:Int)=4 by decide,k,?_,?_⟩))⟩;rw[em];exact ev;rw[em,y0,Nat.add_comm]
  ·rw[if_neg (by omega),if_neg (by omega),if_neg (by omega),if_pos o]at i ⊢;by_cases A:v.items=[];have aa:v.keys=[]:=by rw[A]at ab;exact AO ab
   have ev:v=.mk 6 (bl []) [] []:=by rw[eta,o,A,aa,G p]
   rw[A,aa]at i ⊢;have i:s.drop a=123::([125]++r):=i;have tk:=Ql (c:=123) (by decide) i;have m:s.drop (a+1)=125::r:=by rw[<-BM,i];rfl
   have S:=Ql (c:=125) (by decide) m;refine⟨_,Lex.step (b:=a+2) tk (qw i (by simp)) (Lex.step (T:=[]) S (qw m (by simp)) .nil),?_⟩;rw[ql (show(2+indexByte ya 123:Int)≠1 by decide),ql (show(2+indexByte ya 125:Int)≠1 by decide)];exact⟨_,.inr (.inl ⟨_,rfl,.inr ⟨show(2+indexByte ya 123:Int)=2 by decide,show(2+indexByte ya 125:Int)=3 by decide,ev⟩,by rw[y0,A];rfl⟩)⟩
   ·obtain⟨kvs,O⟩:∃kvs:List (Bs×Tr),kvs=(v.keys.map lb).zip v.items:=⟨_,rfl⟩;have e1:kvs.map (·.1)=v.keys.map lb:=by rw[O,Dt (by rw[Ap];omega)]
    have e2:kvs.map (·.2)=v.items:=by rw[O,List.map_snd_zip (by rw[Ap];omega)]
    have e3:(kvs.map λf=>bl f.1)=v.keys:=by
     have:(kvs.map λf=>bl f.1)=(kvs.map (·.1)).map bl:=by rw[A7];rfl
     rw[this,e1,A7];have:bl ∘ lb=id:=by funext x;exact Y4 x
     rw[this,DY]
    have l:kvs≠[]:=λe=>A (by rw[<-e2,e];rfl);have F:List.zipWith (zf4 ln) v.keys (v.items.map λx=>jz ln N x (lv+1))=kvs.map λf=>zf4 ln (bl f.1) (jz ln N f.2 (lv+1)):=by
     rw[O];have:∀(ks:List Bt) (xs:List Tr),List.zipWith (zf4 ln) ks (xs.map λx=>jz ln N x (lv+1))=((ks.map lb).zip xs).map λf=>zf4 ln (bl f.1) (jz ln N f.2 (lv+1)):=by
      intro ks;induction ks with
      |nil=>intro xs;rfl
      |cons k ks ih=>
       intro xs;cases xs with
       |nil=>rfl
       |cons x xs=>simp only[As,List.zipWith_cons_cons,BR,ih,Y4]
     exact this _ _
    have hw:(123::Xw ln N lv (List.zipWith (zf4 ln) v.keys (v.items.map λx=>jz ln N x (lv+1)))++[125]:Bs)=123::xg ln N lv 125 (kvs.map λf=>zf4 ln (bl f.1) (jz ln N f.2 (lv+1))):=by rw[AD,F,ztz (λe=>l (List.map_eq_nil_iff.1 e))]
    rw[hw]at i ⊢;have tk:=Ql (c:=123) (by decide) i;have m:s.drop (a+1)=xg ln N lv 125 (kvs.map λf=>zf4 ln (bl f.1) (jz ln N f.2 (lv+1)))++r:=by rw[<-BM,i];rfl
    unfold wo at D;rw[Ao,Av]at D;have ae:(kvs.map (·.1)).Nodup:=by rw[e1];exact zy3 (of_decide_eq_true D.2)
    obtain⟨T,L,k⟩:=zp6 (.inr rfl) (K:=KO s (PV s d)) (nx:=λhad f=>had++[f.1]) (Fresh:=λhad f=>f.1∉had) (P:=λf=>zf4 ln (bl f.1) (jz ln N f.2 (lv+1))) kvs [] (a+1) r l (zy2 _ _ ae (λ_ _=>by simp)) (λf B=>by
     have U:f.2∈v.items:=by rw[<-e2];exact AJ.2 ⟨f,B,rfl⟩
     have Q:Z8 f.1=Ta:=by
      have:f.1∈v.keys.map lb:=by rw[<-e1];exact AJ.2 ⟨f,B,rfl⟩
      obtain⟨q,hq,e⟩:=AJ.1 this;rw[<-e];exact D.1 q hq
     obtain⟨g1,g2,V⟩:=I _ U;have Y:zf4 ln (bl f.1) (jz ln N f.2 (lv+1))=zf7 f.1++58::((if ln then [32]else [])++jz ln N f.2 (lv+1)):=by unfold zf4;rw[yh,zwn Q]
     rw[Y];refine⟨⟨_,_,rfl,by decide⟩,λhad b q hf M hq=>?_⟩;rw[AH]at M;have tq:=z8f Q M;have C:=zew M;rw[AD]at C;have tc:=Ql (c:=58) (by decide) C;have Z:s.drop (b+(zf7 f.1).length+1)=(if ln then [32]else [])++(jz ln N f.2 (lv+1)++q):=by rw[<-BM,C];simp
     have u:=V;rw[y5,Ao]at u;obtain⟨c0,t0,e0,af⟩:=zy1 (ln:=ln) (N:=N) (lv:=lv+1) u.1;obtain⟨T1,L1,n1⟩:=zks (λc H=>by
      split at H;rw[AY.1 H];decide
      ·cases H) (λc H=>by
      rw[e0]at H;have H:Td c0=Td c:=H;rw[<-Az H];exact af) Z
     have ai:=zew Z;obtain⟨T2,L2,k2⟩:=zwo n f.2 (lv+1) d g1 V g2 s q _ ai hq;have sl:=zp7 M (by unfold zf7;simp);refine⟨(8,((b:Int),((b+(zf7 f.1).length:Nat):Int)))::(2+indexByte ya 58,(((b+(zf7 f.1).length:Nat):Int),((b+(zf7 f.1).length+1:Nat):Int)))::(T1++T2),?_,?_⟩;refine Lex.step tq (qw M (by unfold zf7;simp)) (Lex.step tc (qw C (by simp)) ?_);have:=L1.append L2;simp only[Ah,Aq]at this ⊢;rw[show b+((zf7 f.1).length+((if ln=Ta then [32]else []:Bs).length+(jz ln N f.2 (lv+1)).length+1))=b+(zf7 f.1).length+1+(if ln=Ta then [32]else []:Bs).length+(jz ln N f.2 (lv+1)).length from by omega];exact this;rw[ql (show(8:Int)≠1 by decide),ql (show(2+indexByte ya 58:Int)≠1 by decide),jv,n1,A8];exact⟨_,_,_,rfl,rfl,show(2+indexByte ya 58:Int)=7 by decide,by dsimp only;rw[sl.2,zyw Q],by dsimp only;rw[sl.1,sl.2],hf,rfl,k2⟩) m
    refine⟨_,by rw[Aq,show a+((xg ln N lv 125 (kvs.map λf=>zf4 ln (bl f.1) (jz ln N f.2 (lv+1)))).length+1)=a+1+(xg ln N lv 125 (kvs.map λf=>zf4 ln (bl f.1) (jz ln N f.2 (lv+1)))).length from by omega];exact Lex.step tk (qw i (by simp)) L,?_⟩;rw[ql (show(2+indexByte ya 123:Int)≠1 by decide)];refine⟨_,.inr (.inr (.inr ⟨_,_,_,rfl,show(2+indexByte ya 123:Int)=2 by decide,k,?_,?_⟩))⟩;rw[e2,e3,eta,o,G p];rw[e2,y0,Nat.add_comm]
theorem zp9(b:zy v=Ta)(c:(jz ln N v 0).length<=65536):∃n:Int,yu (jz ln N v 0)=(v,n,0):=by unfold zy Zi at b;simp only[Ao,decide_eq_true_eq]at b;obtain⟨T,L,k⟩:=zwo (ln:=ln) (N:=N) (tsz v) v 0 32 (Ab _) b.2 b.1.2 (jz ln N v 0) [] 0 (by simp) zyz;rw[AL]at L;exact⟨_,qj3 c L k b.1.1⟩
end
section
variable {xs ys:List Tr} {α:Type} {v:Tr}
theorem z8t(h:xs.Perm ys):Zs xs=Zs ys:=by
 induction h with
 |nil=>rfl
 |cons x _ c=>rw[Zs,Zs,c]
 |swap x y l=>simp only[Zs];omega
 |trans _ _ a b=>rw[a,b]
theorem z8u(h:xs.Perm ys):Xp xs=Xp ys:=by
 induction h with
 |nil=>rfl
 |cons x _ c=>rw[Xp,Xp,c]
 |swap x y l=>simp only[Xp];omega
 |trans _ _ a b=>rw[a,b]
theorem qcn{xs ys:List Nat}(h:xs.Perm ys):xs.sum=ys.sum:=by
 induction h with
 |nil=>rfl
 |cons x _ c=>rw[List.sum_cons,List.sum_cons,c]
 |swap x y l=>simp only[List.sum_cons];omega
 |trans _ _ a b=>rw[a,b]
theorem zqa{p:α->Bool}{xs ys:List α}(h:xs.Perm ys):xs.all p=ys.all p:=by rw[AM,Av,Av];exact⟨λa x b=>a x (h.mem_iff.2 b),λa x b=>a x (h.mem_iff.1 b)⟩
theorem zay:∀(ks:List Bt) (ys:List Tr),ks.Nodup->ks.length=ys.length->(ks.map λq=>(q,zg8 (ks.zip ys) q))=ks.zip ys
 |[],ys,_,_=>by simp
 |k::ks,[],_,h=>by simp at h
 |k::ks,y::ys,hn,h=>by rw[Ba]at hn;rw[As,BR];congr 1;rw[zg8,if_pos rfl];rw[<-zay ks ys hn.2 (by simpa using h)];refine Cy λq b=>?_;have:k≠q:=λe=>hn.1 (e ▸ b);rw[zg8,if_neg this];congr 2;exact zay ks ys hn.2 (by simpa using h)
structure SrtF (v w:Tr):Prop where
 k:w.kind=v.kind
 t:w.text=v.text
 kp:w.keys.Perm v.keys
 ip:w.items.Perm (v.items.map ze)
 zp:(w.keys.zip w.items).Perm (v.keys.zip (v.items.map ze))
theorem qco(b:zn v=Ta)(k:v.kind≠6):v.keys=[]:=by unfold zn at b;simp only[k,if_false]at b;by_cases h1:v.kind=1;simp[h1]at b;exact b.1.2;by_cases i:v.kind=2;simp[i]at b;exact b.1.2;by_cases h:v.kind=3;simp[h]at b;exact b.1.2;by_cases e:v.kind=4;simp[e]at b;exact b.1.2;by_cases c:v.kind=5;simp[c]at b;exact b.2;by_cases f:v.kind=7;simp[f]at b;exact b.1.2;simp[h1,i,h,e,c,f]at b
theorem Qo(b:zn v=Ta)(c:v.kind=6):v.keys.Nodup/\v.keys.length=v.items.length:=by unfold zn wo at b;simp[c]at b;exact⟨b.1.1.2,b.1.2⟩
theorem zt0(f:zn v=Ta):SrtF v (ze v):=by
 rw[y9];by_cases b:v.kind=6;rw[if_pos b];obtain⟨m,i⟩:=Qo f b;have n:=zay v.keys (v.items.map ze) m (by rw[Ap];exact i);have c:=(y8 v.keys).map λq=>(q,zg8 (v.keys.zip (v.items.map ze)) q);rw[n]at c;have e:∀l:List Bt,l.zip (l.map λq=>zg8 (v.keys.zip (v.items.map ze)) q)=l.map λq=>(q,zg8 (v.keys.zip (v.items.map ze)) q):=by
  intro l;induction l with
  |nil=>rfl
  |cons x l k=>rw[As,BR,k,As]
 refine⟨rfl,rfl,y8 _,?_,?_⟩;have:=c.map (·.2);rw[A7,List.map_snd_zip (by rw[Ap];omega)]at this;exact this;show((jr v.keys).zip _).Perm _;rw[e];exact c;rw[if_neg b];have h:=qco f b;exact⟨rfl,rfl,by rw[h],.refl _,by rw[h]⟩
theorem Xb{a:List α}:a.isEmpty=decide (a.length=0):=by cases a <;> simp
theorem zwp{a b:List Bt}(h:a.Perm b):wo a=wo b:=by unfold wo;rw[zqa h];congr 1;rw[AM,decide_eq_true_eq,decide_eq_true_eq];exact h.nodup_iff
theorem zt1{v w:Tr}(h1:w.kind=v.kind)(f:w.text=v.text)(c:w.keys.length=v.keys.length)(b:w.items.length=v.items.length)(e:wo w.keys=wo v.keys):zn w=zn v:=by unfold zn;rw[h1,f,e,Xb,Xb,Xb,Xb,c,b]
theorem zt2(ln:Bool)(nd lv:Nat)(ps:List Bs):(Zh ln nd lv ps).length+(if ps=[]then 0 else 1)=(ps.map λp=>p.length+(1+(yl ln nd lv).length)).sum:=by
 cases ps with
 |nil=>rfl
 |cons p ps=>
  have:∀b:List Bs,(b.flatMap λq=>44::(yl ln nd lv++q)).length=(b.map λp=>p.length+(1+(yl ln nd lv).length)).sum:=by
   intro b;induction b with
   |nil=>rfl
   |cons q b c=>rw[List.flatMap_cons,Ah,c,As,List.sum_cons];simp;omega
  rw[Zh,Ah,Ah,this,As,List.sum_cons,if_neg (by simp)];omega
theorem zt3{ln:Bool}{nd lv:Nat}{ps b:List Bs}(h:(ps.map Cd).Perm (b.map Cd)):(Xw ln nd lv ps).length=(Xw ln nd lv b).length:=by
 have e:(ps=[])↔(b=[]):=by have:=h.length_eq;rw[Ap,Ap]at this;rw[<-Bl,<-Bl,this]
 have h1:=zt2 ln nd (lv+1) ps;have i:=zt2 ln nd (lv+1) b;have f:=qcn (h.map λn=>n+(1+(yl ln nd (lv+1)).length));rw[A7,A7]at f;have f:(ps.map λp=>p.length+(1+(yl ln nd (lv+1)).length)).sum=(b.map λp=>p.length+(1+(yl ln nd (lv+1)).length)).sum:=f;unfold Xw;rw[Ah,Ah];by_cases c:ps=[];rw[if_pos c]at h1 ⊢;rw[if_pos (e.1 c)]at i ⊢;omega;rw[if_neg c]at h1 ⊢;rw[if_neg (λq=>c (e.2 q))]at i ⊢;omega
theorem zku{α β γ:Type}(f:α->β->γ):∀(a:List α) (b:List β),List.zipWith f a b=(a.zip b).map λp=>f p.1 p.2
 |[],_=>by simp
 |_::_,[]=>by simp
 |x::a,y::b=>by rw[List.zipWith_cons_cons,BR,As,zku f a b]
structure SrtG (v:Tr):Prop where
 sz:tsz (ze v)=tsz v
 dp:tdp (ze v)=tdp v
 okv:Qt okV (ze v)=Qt okV v
 nok:Qt zn (ze v)=Ta
 tx:∀m,txB m v->txB m (ze v)
 len:∀(ln:Bool) (N lv:Nat),(jz ln N (ze v) lv).length=(jz ln N v lv).length
theorem zy4{f:Tr->Tr}:∀{l:List Tr},(∀x∈l,tsz (f x)=tsz x)->Zs (l.map f)=Zs l
 |[],_=>rfl
 |x::l,h=>by rw[As,Zs,Zs,h x Am,zy4 λy b=>h y (Ae _ b)]
theorem zy5{f:Tr->Tr}:∀{l:List Tr},(∀x∈l,tdp (f x)=tdp x)->Xp (l.map f)=Xp l
 |[],_=>rfl
 |x::l,h=>by rw[As,Xp,Xp,h x Am,zy5 λy b=>h y (Ae _ b)]
theorem zkv:∀(n:Nat) (v:Tr),tsz v<=n->Qt zn v=Ta->SrtG v
 |0,v,h,_=>by have:=Q6 v;omega
 |n+1,v,hz,hok=>by
  rw[y5,Ao,jo,Av]at hok;obtain⟨i,e⟩:=hok;have S:=zt0 i;have c:∀x∈v.items,SrtG x:=λx b=>zkv n x (by have:=yj b;omega) (e x b);have f:zn (ze v)=zn v:=zt1 S.k S.t S.kp.length_eq (by rw[S.ip.length_eq,Ap]) (zwp S.kp);refine⟨?_,?_,?_,?_,λm h=>?_,λln N lv=>?_⟩;rw[y0,y0 v,z8t S.ip,zy4 λx b=>(c x b).sz];rw[zj7,zj7 v,z8u S.ip,zy5 λx b=>(c x b).dp];rw[y5,y5 _ v,jo,jo,zqa S.ip,DK];have r:okV (ze v)=okV v:=by unfold okV;rw[f,S.k]
  rw[r];congr 1;rw[AM,Av,Av];exact⟨λa x b=>by rw[<-(c x b).okv];exact a x b,λa x b=>by show Qt okV (ze x)=Ta;rw[(c x b).okv];exact a x b⟩;rw[y5,f,i,Cc,jo,zqa S.ip,DK,Av];exact λx b=>(c x b).nok;rw[zm9]at h ⊢;obtain⟨⟨h1,u,s⟩,q⟩:=h;refine⟨⟨by rw[S.t];exact h1,by rw[S.kp.length_eq];exact u,λk e=>s k (S.kp.mem_iff.1 e)⟩,zid.2 λx b=>?_⟩;obtain⟨y,l,rfl⟩:=AJ.1 (S.ip.mem_iff.1 b);exact(c y l).tx m (zid.1 q y l);rw[Yc,Yc (v:=v),S.k,S.t];split;rfl;split;rfl;split;simp only[Ah,Aq];congr 2;refine zt3 ?_;rw[A7,A7];have h1:=S.ip.map λx=>(jz ln N x (lv+1)).length;rw[A7]at h1;refine h1.trans ?_;have:v.items.map ((λx=>(jz ln N x (lv+1)).length) ∘ ze)=v.items.map (Cd ∘ λx=>jz ln N x (lv+1)):=Cy λx b=>(c x b).len ln N (lv+1);rw[this];split;simp only[Ah,Aq];congr 2;refine zt3 ?_;have conv:∀(ks:List Bt) (xs:List Tr),(List.zipWith (zf4 ln) ks (xs.map λx=>jz ln N x (lv+1))).map Cd=(ks.zip xs).map λp=>(zf4 ln p.1 (jz ln N p.2 (lv+1))).length:=by intro ks xs;rw[zku,List.zip_map_right,A7,A7];rfl
  rw[conv,conv];have h1:=S.zp.map λp=>(zf4 ln p.1 (jz ln N p.2 (lv+1))).length;refine h1.trans ?_;rw[List.zip_map_right,A7];have:(v.keys.zip v.items).map ((λp=>(zf4 ln p.1 (jz ln N p.2 (lv+1))).length) ∘ Prod.map id ze)=(v.keys.zip v.items).map λp=>(zf4 ln p.1 (jz ln N p.2 (lv+1))).length:=Cy λp o=>by have:=(c p.2 (List.of_mem_zip o).2).len ln N (lv+1);show(zf4 ln p.1 (jz ln N (ze p.2) (lv+1))).length=_;unfold zf4;simp only[Ah,Aq,this]
  rw[this];rfl
theorem zaz(h:Zf v=Ta):zy (ze v)=zy v:=by unfold Zf at h;rw[Ao]at h;have S:=zkv (tsz v) v (Ab _) h.2;have e:∀w:Tr,zy w=(Zi w&&Qt okV w):=λw=>rfl;rw[e,e,S.okv];unfold Zi;rw[S.sz,S.dp]
theorem jw(h:zy v=Ta):Zf v=Ta:=by have e:zy v=(Zi v&&Qt okV v):=rfl;rw[e,Ao]at h;unfold Zf;rw[h.1,Cc];exact zav (λx b=>by unfold okV at b;rw[Ao]at b;exact b.2) v h.2
theorem zkw(h:Sm v):Sm (Zt v):=by unfold Zt;by_cases b:Zf v=Ta;rw[if_pos b];unfold Zf at b;rw[Ao]at b;have S:=zkv (tsz v) v (Ab _) b.2;exact⟨by rw[S.sz];exact h.sz,S.tx _ h.tx⟩;rw[if_neg b];exact⟨by decide,by rw[zm9];exact⟨⟨by decide,by decide,by decide⟩,trivial⟩⟩
theorem zt4:zy (Zt v)=zy v:=by
 unfold Zt;by_cases b:Zf v=Ta;rw[if_pos b];exact zaz b;rw[if_neg b];cases hr:zy v with
 |true=>exact absurd (jw hr) b
 |false=>rfl
end
end Go.X
end
section
namespace Go.X
open Go Go.X Go.Proofs Go.RowKit
set_option maxRecDepth 100000 in
section
theorem z8v{gl:Fr}(Q:GL gl){v:Tr}(I:Sm v){R:Tr->Prop}(n:R (Zt v)):PC Tp gl 37 [Arg.mk .tree v] [.tree] R:=by
 intro h M vs V ag O
 match vs,O with
 |[u],⟨C,_⟩=>
  have C:RdV M .tree v u:=C;have y:=C;obtain⟨sk,si,rfl,rk,ri⟩:=yz C;apply PX.of;apply zkg v.kind v.text sk si;intro h1;have P:Keep h.size h h1:=Keep.push _ _ (Ab _);have z1:h1.size=h.size+1:=Aj _;have B1:Blk h1 h.size #[.int .i64 v.kind,.string v.text,slV sk,slV si]:=Blk.new _ _ _;clear_value h1;intro o;have k2:Keep h1.size h1 o:=Keep.push _ _ (Ab _);have z2:o.size=h1.size+1:=Aj _;have U:Blk o h1.size #[.int .i64 0,.string ⟨#[]⟩,.slice Te 0 0,.slice Te 0 0]:=Blk.new _ _ _;clear_value o;have J:=B1.ofKeep k2;have E:Keep h.size h o:=P.trans k2 (by omega);have G:Later h M o M:=Later.same ag E;refine⟨v.kind,v.text,sk,si,J.ld (cs:=[_,_,slV sk,slV si]),?_⟩;refine(zvw Q I (R:=λr=>r=Zf v) rfl).go (vs:=[.agg #[.int .i64 v.kind,.string v.text,slV sk,slV si]]) V G.ag (qb y qq) λw h8 D r l t N=>?_;subst N;have z8:=l.keep.size;have H:=U.keep (l.keep.get h1.size (by omega));have Y:=J.keep (l.keep.get h.size (by omega));have F:D h1.size=Te:=by rw[l.old _ (by omega)];exact ag.none (by omega)
  have x:=G.trans l;have stay:∀{g g':zb} {M':Fr},Later h M g M'->M' h1.size=Te->(∀j,j≠h1.size->g'[j]?=g[j]?)->g'.size=g.size->Later h M g' M':=λ {g g' M'} L hn f z=>⟨⟨by have:=L.keep.size;omega,λj Z=>by rw[f j (by omega)];exact L.keep.get j Z⟩,L.le,L.old,λc cs e=>by rw[f c (λh=>by subst h;rw[hn]at e;cases e)];exact L.ag c cs e⟩;refine⟨_,zib t,λb=>?_,λb=>?_⟩;have b:Zf v=Tc:=by simpa using b
  unfold Zt at n;rw[if_neg (by rw[b];simp)]at n;refine j4 (k:=0) (s:=⟨#[]⟩) (sk:=⟨Te,0,0⟩) (si:=⟨Te,0,0⟩) H λg f z B=>⟨_,_,_,_,B.ld (cs:=[.int .i64 0,.string ⟨#[]⟩,slV ⟨Te,0,0⟩,slV ⟨Te,0,0⟩]),?_⟩;exact⟨D,_,stay x F f z,Xl.2 (qf (v:=.mk 0 (bl []) [] []) zf6 zf6),n⟩;have b:Zf v=Ta:=by simpa using b
  unfold Zt at n;rw[if_pos b]at n;unfold Zf Zi at b;simp only[Ao,decide_eq_true_eq]at b;refine⟨v.kind,v.text,sk,si,Y.ld (cs:=[_,_,slV sk,slV si]),?_⟩;refine(zyy (tsz v) v (by omega) (Ab _) b.2 I h8 D _ l.ag (RdV.mono l.le y)).go λw S p q i m hq=>?_;subst hq;obtain⟨xk,xi,rfl,y1,y2⟩:=yz (Xl.1 m);have aa:=i.keep.size;refine⟨_,_,xk,xi,rfl,?_⟩;refine j4 (H.keep (i.keep.get h1.size (by omega))) λg f z B=>⟨_,_,xk,xi,B.ld (cs:=[_,_,slV xk,slV xi]),?_⟩;have A:p h1.size=Te:=by rw[i.old _ (by omega)];exact F
  exact⟨p,_,stay (x.trans i) A f z,Xl.2 (qf y1 y2),n⟩
end
end Go.X
end
section
namespace Go.X
open Go Go.Lib
section
variable {l:List Tr} {m:Nat}
def zuq(k:Bt):Bt:=bl (107::(znd (lb k)).1)
def zqb(v:Tr):Bt:=if v.kind=5 then bl [91]else if v.kind=6 then bl [123]else bl (jz Tc 0 v 0)
mutual
def Zj:Tr->Nat->List (Bt×Int)
 |.mk k s ks xs,n=>(if k=6 then Y0 xs ks n else if k=5 then za0 xs n else [])++[(zqb (.mk k s ks xs),(n:Int))]
def za0:List Tr->Nat->List (Bt×Int)
 |[],_=>[]
 |x::l,n=>Zj x n++za0 l (n+(Zj x n).length)
def Y0:List Tr->List Bt->Nat->List (Bt×Int)
 |[],_,_=>[]
 |x::l,ks,n=>Zj x n++((zuq ks.head!,(n:Int))::Y0 l ks.tail (n+(Zj x n).length+1))
end
theorem zqc(v:Tr)(n:Nat):Zj v n=(if v.kind=6 then Y0 v.items v.keys n else if v.kind=5 then za0 v.items n else [])++[(zqb v,(n:Int))]:=by cases v;rw[Zj]
mutual
def ji:Tr->Nat
 |.mk k _ _ xs=>(if k=6 then zga 1 xs else if k=5 then zga 0 xs else 0)+1
def zga(d:Nat):List Tr->Nat
 |[]=>0
 |x::l=>ji x+d+zga d l
end
theorem z8w(v:Tr):ji v=(if v.kind=6 then zga 1 v.items else if v.kind=5 then zga 0 v.items else 0)+1:=by cases v;rw[ji]
mutual
theorem Za:∀(v:Tr) (n:Nat),(Zj v n).length=ji v
 |.mk k s ks xs,n=>by rw[Zj,ji,Ah,Cq];congr 1;split;exact zy7 xs ks n;split;exact zy6 xs n;rfl
theorem zy6:∀(l:List Tr) (n:Nat),(za0 l n).length=zga 0 l
 |[],_=>by rw[za0,zga];rfl
 |x::l,n=>by rw[za0,zga,Ah,Za x n,zy6 l];omega
theorem zy7:∀(l:List Tr) (ks:List Bt) (n:Nat),(Y0 l ks n).length=zga 1 l
 |[],_,_=>by rw[Y0,zga];rfl
 |x::l,ks,n=>by rw[Y0,zga,Ah,Aq,Za x n,zy7 l];omega
end
theorem zy8:∀(l:List Tr) (m:List Tr) (n:Nat),za0 (l++m) n=za0 l n++za0 m (n+(za0 l n).length)
 |[],m,n=>by rw[za0];rfl
 |x::l,m,n=>by rw[AD,za0,za0,zy8 l m,AH,Ah];congr 3;omega
theorem z8x(h:m<l.length)(n:Nat):za0 (l.take (m+1)) n=za0 (l.take m) n++Zj l[m] (n+(za0 (l.take m) n).length):=by rw[Ay h,zy8,za0,za0,AR]
theorem zy9:∀(l:List Tr) (m:List Tr) (ks:List Bt) (n:Nat),Y0 (l++m) ks n=Y0 l ks n++Y0 m (ks.drop l.length) (n+(Y0 l ks n).length)
 |[],m,ks,n=>by rw[Y0];rfl
 |x::l,m,ks,n=>by rw[AD,Y0,Y0,zy9 l m,AH,AD,Ah,Aq,Aq,<-List.drop_tail];congr 4;omega
theorem z8y{ks:List Bt}(h:m<l.length)(b:m<ks.length)(n:Nat):
  Y0 (l.take (m+1)) ks n=Y0 (l.take m) ks n++(Zj l[m] (n+(Y0 (l.take m) ks n).length)++[(zuq ks[m],((n+(Y0 (l.take m) ks n).length:Nat):Int))]):=by
 rw[Ay h,zy9,Y0,Y0,AN,Cj (by omega)];congr 4;rw[Bw b];rfl
def zgb(X:List (Bt×Int)):List (Bt×Int):=X.take 513
theorem zqd(X:List (Bt×Int)):(zgb X).length<=513:=by unfold zgb;rw[AN];omega
theorem zgc{X:List (Bt×Int)}(h:X.length<=513):zgb X=X:=BE h
theorem zex(X:List (Bt×Int))(f:Nat->List (Bt×Int)):zgb (zgb X++f (zgb X).length)=zgb (X++f X.length):=by
 by_cases h:X.length<=513;rw[zgc h];have b:(zgb X).length=513:=by unfold zgb;rw[AN];omega
 unfold zgb at b ⊢;rw[CH (Nat.le_of_eq b.symm),CH (by omega:513<=X.length),DF];rfl
theorem zza{X:List (Bt×Int)}(h:X.length<=513)(p:Bt×Int):(if X.length<=512 then X++[p]else X)=zgb (X++[p]):=by
 split;rename_i b;rw[zgc (by simp;omega)];rename_i b;have:X.length=513:=by omega
 unfold zgb;rw[CH (by omega),BE h]
end
end Go.X
end
section
namespace Go.X
section
def bsR(P:Program)(t:TypeId)(n:Nat)(u:Value)(h:zb)(K:Value->zb->Prop):Prop:=
 wpN P (do let x <-Instr.buildSlice t n #[(0,u)];pure (C5 x)) h λnx h'=>match nx with
  |.value v=>K v h'
  |.skip=>K undef h'
  |_=>False
end
end Go.X
end
