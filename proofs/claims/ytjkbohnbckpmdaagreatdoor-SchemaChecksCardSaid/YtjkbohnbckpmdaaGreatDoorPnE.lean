/- A part of the proof: nothing is stated here for its own sake. -/
import Derived.Test.YtjkbohnbckpmdaaGreatDoorPnD
import Derived.Sort.KeysCollected
import Derived.Sort.OwnSortedInts
open _root_.Go.Addr renaming add->YK
open _root_.Array renaming getElem?_eq_getElem->zal,getElem?_eq_some_iff->YV,getElem?_setIfInBounds_ne->zb2,getElem?_toList->zav,push->za9,size->ZK,size_push->ZI,size_setIfInBounds->zah
open _root_.Bool renaming and_eq_true->ZE,and_true->zbp,cond_true_left->zby,eq_iff_iff->ZR,not_eq_true'->zcg,or_eq_true->zbb,true_and->zao
open _root_.Go.Builtin renaming append_->YY
open _root_.ByteArray renaming empty->zc1
open _root_.Go.Instr renaming entry->zde,next->zc9,range->zdd,storeAt->YN
open _root_.Int renaming toNat_natCast->YO
open _root_.Go.IntKind renaming wrap->YJ
open _root_.List renaming all_append->zbq,all_cons->zbo,all_eq_false->zcj,all_eq_true->ZJ,all_nil->zdj,append_nil->ZY,drop_eq_getElem_cons->ZM,drop_eq_nil_of_le->zac,drop_length->zbm,drop_zero->za5,eq_nil_of_length_eq_zero->zaa,exists_cons_of_ne_nil->za3,ext_getElem?->zap,flatMap_cons->zcs,getElem?_eq_getElem->YR,getElem?_eq_some_iff->ZH,getElem?_map->zai,getElem?_modify->za7,getElem_map->zcb,getElem_mem->YW,getElem_of_mem->zbx,length->zam,length_append->ZC,length_cons->ZV,length_drop->zab,length_eq_zero_iff->zau,length_map->ZA,length_nil->zb7,length_pos_iff->ZX,length_take->za0,map_append->ZZ,map_cons->zae,map_map->za8,mem_append->ZG,mem_cons->YS,mem_cons_of_mem->YU,mem_cons_self->ZB,mem_flatMap->zbf,mem_iff_getElem->zbr,mem_iff_getElem?->zce,mem_map->za6,mem_of_getElem?->zbd,mem_range->zbc,mem_singleton->zaf,nil_append->zba,nodup_cons->zcp,range->zak,take_length->ZO,take_of_length_le->zag,take_succ_eq_append_getElem->YP,zip_cons_cons->zbe
open _root_.List.cons renaming injEq->za4
open _root_.Nat renaming add_mul->zb0,add_zero->zco,le_mul_of_pos_right->zb6,le_refl->YM,le_trans->zaj,lt_of_lt_of_le->zcc,min_eq_left->zcz,mul_le_mul_right->ZF,mul_one->zb1,one_mul->zdf,zero_add->ZP,zero_le->ZN
open _root_.Option renaming map_some->zc0
open _root_.Option.some renaming inj->ZS
open _root_.Go.Proofs.Tryz renaming prog->ZW
open _root_.UInt8 renaming toNat_inj->zb8
open _root_.Go.Utf8 renaming decode->zci
open _root_.Go.Value renaming int->zdk,string->ZD
open _root_.Go.Value.slice renaming injEq->ZU
set_option linter.all false
set_option maxRecDepth 100000
namespace Go.X
end Go.X
namespace Go.Proofs
end Go.Proofs
open Go Go.X Go.Proofs
open _root_.Bool renaming true->Ta,false->Tb
open _root_.Option renaming some->Tc,none->Td
section
namespace Go.X
open Go Go.X Go.Proofs Go.RowKit
section
variable {g:zc} {i:Nat} {k f t:Int} {x9 x8 x0:Value} {K:Value -> zc -> Prop}
abbrev i7:Ty:=.pair (.int .i64) (.pair (.int .i64) (.int .i64))
theorem Dl:ElemT Tp 162 171 (.agg #[.int .i64 0,.int .i64 0,.int .i64 0]) (sz i7) 24:=⟨by kernel_rfl,⟨Tryz.t171,by kernel_rfl,by kernel_rfl,by kernel_rfl,by kernel_rfl⟩,rfl,by decide⟩
theorem vG:qj Tp 162=Ta:=by kernel_rfl
theorem yA:yb Tp 162=1:=by kernel_rfl
theorem C7:qj Tp 3=Ta:=by kernel_rfl
theorem FU:yb Tp 3=1:=by kernel_rfl
theorem FE:qj Tp 30=Ta:=by kernel_rfl
theorem FZ:yb Tp 30=1:=by kernel_rfl
theorem Gz{M:Fr}(k f t:Int):Rd M i7 (k,(f,t)) (i9 k f t):=⟨[.int .i64 k],[.int .i64 f,.int .i64 t],rfl,rfl,[.int .i64 f],[.int .i64 t],rfl,rfl,rfl⟩
structure TkS (h:zc) (M:Fr) (b2 b3 b4 b5 bc D l:Nat) (rec:fW) (s:Bs) (out:List Tk) (sl:Sl) (bs:List Nat) (g:zc):Prop where
 keep:Keep h.size h g
 c:Blk g bc #[.string (bl s)]
 d:g[D]?=Tc (.deferred (Tc []))
 rc:g[l]?=Tc (.loop (rec .ready Td))
 r2:Blk g b2 #[.slice Td 0 0]
 r3:Blk g b3 #[.int .i64 0]
 r4:Blk g b4 #[.int .i64 0]
 r5:Blk g b5 #[aK sl]
 o:ORow (l+1) g M i7 out sl bs
structure Apart (h:zc) (b2 b3 b4 b5 bc D l:Nat):Prop where
 lo:h.size<=b2
 a3:b2<b3
 a4:b3<b4
 a5:b4<b5
 ac:b5<bc
 aD:bc<D
 al:l=D+1
theorem qw{i j:Nat}{o:Obj}(h:j≠i):(g.setIfInBounds i o)[j]?=g[j]?:=zb2 (Ne.symm h)
theorem set_self{o:Obj}(h:i<g.size):(g.setIfInBounds i o)[i]?=Tc o:=Array.getElem?_setIfInBounds_self_of_lt h
theorem lt_of_some{o:Obj}(h:g[i]?=Tc o):i<g.size:=(YV.1 h).1
section
variable {h : zc} {M : Fr} {b2 b3 b4 b5 bc D l : Nat} {rec : fW} {s : Bs} {out : List Tk} {sl : Sl} {bs : List Nat} {g : zc}
set_option maxRecDepth 100000 in
set_option maxHeartbeats 1000000 in
theorem TkS.round(A:Apart h b2 b3 b4 b5 bc D l)(ag:AgM M h)(S:TkS h M b2 b3 b4 b5 bc D l rec s out sl bs g)(hn:out.length<=100000) (hK:∀g' ah E,TkS h M b2 b3 b4 b5 bc D l rec s (out++[(k,(f,t))]) ah E g'->g.size<=g'.size->(∀j,j<g.size->j≠b5->j≠l->j∉bs->g'[j]?=g[j]?)->K (.bool Ta) g'):
  iF Tp 25 (iN (codeOf Tryz.f145)) (iB (codeOf Tryz.f145)) rec l K [(11,[],.int .i64 0),(10,[],.agg #[.int .i64 k,.int .i64 f,.int .i64 t]),(0,[],x0),(2,[],.pointer (Tc ⟨b2,0,Td⟩)),(3,[],.pointer (Tc ⟨b3,0,Td⟩)),(4,[],.pointer (Tc ⟨b4,0,Td⟩)),(5,[],.pointer (Tc ⟨b5,0,Td⟩)),(8,[],x8),(9,[],x9)] g:=by
 apply BY;intro N;obtain⟨ae,aj,Z⟩:=jo (g:=N) rfl;clear_value N;have ll:=lt_of_some S.rc;have:=A.lo;have:=A.a3;have:=A.a4;have:=A.a5;have:=A.ac;have:=A.aD;have:=A.al;refine kR Z λx q1 q2 q3=>?_;have C:∀j,j<g.size->x[j]?=g[j]?:=λj n=>by rw[q1 j (by omega)];exact ae.get j n
 refine⟨by rw[C l ll];exact S.rc,?_⟩;intro i;have z:∀j,j≠l->i[j]?=x[j]?:=λj n=>qw n;have aa:i[l]?=Tc (.loop (rec .busy Td)):=set_self (by omega);have ak:i.size=x.size:=zah;clear_value i;refine⟨λhx=>by simp at hx,λ_=>?_⟩;have B5:Blk i b5 #[aK sl]:=S.r5.keep (by rw[z b5 (by omega),C b5 (by omega)]);have Bt:Blk i g.size (i9 k f t).toArray:=q3.keep (z g.size (by omega));refine⟨sl,B5.cell rfl,k,f,t,Bt.ld,?_⟩;intro p;obtain⟨y,am,ab⟩:=jo (g:=p) rfl;clear_value p;have G:∀j,j<g.size->j≠l->p[j]?=g[j]?:=λj n I=>by rw[y.get j (by omega),z j I,C j n]
 have L:AgM M p:=λb c e=>by obtain⟨T,m,e'⟩:=(ag.keep S.keep) b c e;have hb:=ag.lt e;exact⟨T,m,by rw[G b (by have:=S.keep.size;omega) (by omega)];exact e'⟩
 have af:ORow (l+1) p M i7 out sl bs:=S.o.frame (λc r=>by have:=S.o.own c r;exact G c this.2.1 (by omega)) (Fr.le.refl _) (λc r=>(S.o.own c r).2.2);refine ORow.app Dl (by omega) L af (by omega) ab (Gz k f t) (by omega) λs' U E w an ai u=>⟨s',rfl,?_⟩;have F:∀c∈bs,l+1<=c:=λc r=>(S.o.own c r).1;have Y:Blk U b5 #[aK sl]:=B5.keep (by rw[u b5 (by omega) (λq=>by have:=F _ q;omega)];exact y.get b5 (by omega));refine yr vG yA Y (by show 0<1;omega) rfl λB u1 u3 V=>?_;have J:∀j,j<g.size->j≠l->j≠b5->j∉bs->B[j]?=g[j]?:=λj n I P q=>by rw[V j P,u j (by omega) q,G j n I]
 have Q:B[l]?=Tc (.loop (rec .busy Td)):=by rw[V l (by omega),u l (by omega) (λq=>by have:=F _ q;omega),y.get l (by omega)];exact aa
 refine⟨Q,hK _ s' E ?_ ?_ ?_⟩;have O:=lt_of_some Q;have H:∀j,j<l->j≠b5->(B.setIfInBounds l (.loop (rec .ready Td)))[j]?=g[j]?:=λj n P=>by rw[qw (by omega)];exact J j (by omega) (by omega) P (λq=>by have:=F _ q;omega)
 refine⟨S.keep.trans ⟨?_,λj n=>H j (by omega) (by omega)⟩ (YM _),S.c.keep (H bc (by omega) (by omega)),(H D (by omega) (by omega)).trans S.d,set_self O,S.r2.keep (H b2 (by omega) (by omega)),S.r3.keep (H b3 (by omega) (by omega)),S.r4.keep (H b4 (by omega) (by omega)),?_,?_⟩;rw[zah];have:=S.keep.size;omega;exact Blk.keep u1 (qw (by omega));refine w.frame (λc r=>?_) (Fr.le.refl _) (λc r=>(w.own c r).2.2);have:=(w.own c r).1;rw[qw (by omega),V c (by omega)];rw[zah];omega;intro j n P I q;rw[qw I];exact J j n I P q
set_option maxRecDepth 100000 in
set_option maxHeartbeats 1000000 in
theorem TkS.err(A:Apart h b2 b3 b4 b5 bc D l)(S:TkS h M b2 b3 b4 b5 bc D l rec s out sl bs g){k f t e:Int}(U:¬e=0) (I:∀g',Keep h.size h g'->g'[D]?=Tc (.deferred (Tc []))->g'[l]?=Tc (.loop (rec .done (Tc .ret)))->Blk g' b2 #[.slice Td 0 0]->Blk g' b3 #[.int .i64 f]->Blk g' b4 #[.int .i64 e]->K (.bool Tb) g'):
  iF Tp 25 (iN (codeOf Tryz.f145)) (iB (codeOf Tryz.f145)) rec l K [(11,[],.int .i64 e),(10,[],.agg #[.int .i64 k,.int .i64 f,.int .i64 t]),(0,[],x0),(2,[],.pointer (Tc ⟨b2,0,Td⟩)),(3,[],.pointer (Tc ⟨b3,0,Td⟩)),(4,[],.pointer (Tc ⟨b4,0,Td⟩)),(5,[],.pointer (Tc ⟨b5,0,Td⟩)),(8,[],x8),(9,[],x9)] g:=by
 apply BY;intro o;obtain⟨B,E,x⟩:=jo (g:=o) rfl;clear_value o;have V:=lt_of_some S.rc;have:=A.lo;have:=A.a3;have:=A.a4;have:=A.a5;have:=A.ac;have:=A.aD;have:=A.al;refine kR x λi G q2 L=>?_;have u:∀j,j<g.size->i[j]?=g[j]?:=λj n=>by rw[G j (by omega)];exact B.get j n
 refine⟨by rw[u l V];exact S.rc,?_⟩;intro c;have q:∀j,j≠l->c[j]?=i[j]?:=λj n=>qw n;have z:c[l]?=Tc (.loop (rec .busy Td)):=set_self (by omega);have F:c.size=i.size:=zah;clear_value c;refine⟨λ_=>?_,λP=>by simp[U]at P⟩;have Bt:Blk c g.size (i9 k f t).toArray:=L.keep (q g.size (by omega));have b:∀j,j<g.size->j≠l->c[j]?=g[j]?:=λj n O=>(q j O).trans (u j n);refine⟨f,?_,?_⟩;rw[qo,qo];exact Bt.cell rfl;refine yr vG yA (S.r2.keep (b b2 (by omega) (by omega))) (by show 0<1;omega) rfl λQ N u3 m=>⟨?_,?_⟩;rw[qo,qo];exact m g.size (by omega);refine yr C7 FU (S.r3.keep ((m b3 (by omega)).trans (b b3 (by omega) (by omega)))) (by show 0<1;omega) rfl λJ H Y r=>?_;refine yr FE FZ (S.r4.keep ((r b4 (by omega)).trans ((m b4 (by omega)).trans (b b4 (by omega) (by omega))))) (by show 0<1;omega) rfl λy C Z w=>?_;have p:y[l]?=Tc (.loop (rec .busy Td)):=by rw[w l (by omega),r l (by omega),m l (by omega)];exact z
 refine⟨p,I _ ?_ ?_ (set_self (lt_of_some p)) ?_ ?_ ?_⟩;refine S.keep.trans ⟨by rw[zah];have:=S.keep.size;omega,λj n=>?_⟩ (YM _);rw[qw (by omega),w j (by omega),r j (by omega),m j (by omega)];exact b j (by have:=S.keep.size;omega) (by omega);rw[qw (by omega),w D (by omega),r D (by omega),m D (by omega),b D (by omega) (by omega)];exact S.d;exact Blk.keep N (by rw[qw (by omega),w b2 (by omega),r b2 (by omega)]);exact Blk.keep H (by rw[qw (by omega),w b3 (by omega)]);exact Blk.keep C (qw (by omega))
end
end
section
variable {M:Fr} {s:Bs} {g g':zc} {k a e lf:Int} {O:Nat -> Prop} {lo bp b c:Nat} {rs:Sl} {cs:Array Value}
theorem MC{t:Ty}{x:El t}{xs:List (El t)}{s:Sl}(h:Rd M (.row t) (x::xs) [aK s]):Rd M (.row t) xs [aK ⟨fF s.a (sz t) 1 s.cap,s.len-1,s.cap-1⟩]:=by
 obtain⟨h1,f,l⟩:=rowLen h;rw[ZV]at h1 f l;refine⟨_,rfl,fF s.a (sz t) 1 s.cap,s.cap-1,?_,⟨by omega,by omega⟩,?_⟩;show aK _=_;unfold aK;rw[h1];rfl;by_cases p:xs=[];grind;have r:=ZX.2 p;obtain⟨b,o,cs,m,k,n⟩:∃b o cs,s.a=Tc ⟨b,o,Td⟩/\M b=Tc cs/\∀i (hi:i<(x::xs).length),Rd M t (x::xs)[i] (cut cs (o+i*sz t) (sz t)):=by obtain⟨w,e,a,c,q,y,u⟩:=h;simp only[za4,and_true]at e;subst e;simp only[aK,ZU]at q;simp_all
 refine .inr ⟨b,o+sz t,cs,?_,k,λi hi=>?_⟩;unfold fF;rw[za (by omega),m,zc0,qo,zdf];have:=n (i+1) (by simp;omega);grind
theorem ng(ag:AgM M g){xs:List Tk}{s:Sl}(H:Rd M (.row i7) xs [aK s]){k:Nat}(m:k<xs.length):∃b o,s.a=Tc ⟨b,o,Td⟩/\ze g ⟨b,o+k*3,Td⟩=Tc (.int .i64 xs[k].1)/\ze g ⟨b,o+k*3+1,Td⟩=Tc (.int .i64 xs[k].2.1)/\ze g ⟨b,o+k*3+2,Td⟩=Tc (.int .i64 xs[k].2.2):=by obtain⟨b,o,cs,n,r,p⟩:=Go.X.rowAt H m;refine⟨b,o,n,?_⟩;obtain⟨c1,c2,e,h1,l,q,h,c,f⟩:=p;have h1:c1=[.int .i64 xs[k].1]:=h1;have c:l=[.int .i64 xs[k].2.1]:=c;have f:q=[.int .i64 xs[k].2.2]:=f;subst h1 c f h;have e:cut cs (o+k*3) 3=i9 xs[k].1 xs[k].2.1 xs[k].2.2:=e;have L:=ku (vs:=i9 xs[k].1 xs[k].2.1 xs[k].2.2) (o:=o+k*3) (i:=0) ag r (by omega);obtain⟨t,u,w,_⟩:=L;simp_all[qo]
def rM(s:Bs)(rs:Sl)(lf last:Int)(sl:Sl)(a e:Int):List Value:=[.string (bl s),aK rs,.int .i64 lf,.int .i64 last,aK sl,.int .i64 a,.int .i64 e]
def hG(bp:Nat)(na:NA)(sl:Sl)(b c:Nat):Prop:=c=bp\/gp na sl b c
structure PW (lo:Nat) (g:zc) (M:Fr) (bp:Nat) (s:Bs) (rest:List Tk) (last a e:Int) (rs:Sl) (lf:Int) (na:NA) (sl:Sl) (b:Nat) (cs:Array Value):Prop where
 blk:Blk g bp (rM s rs lf last sl a e).toArray
 rd:Rd M (.row i7) rest [aK rs]
 ns:NS lo g M na sl b cs
 ag:AgM M g
 bl:lo<=bp/\M bp=Td
 nb:¬gp na sl b bp
def PaS(lo:Nat)(g:zc)(M:Fr)(bp:Nat)(s:Bs)(st:PSt)(a e:Int)(O:Nat->Prop):Prop:=
 ∃(rs:Sl) (lf:Int) (na:NA) (sl:Sl) (b:Nat) (cs:Array Value),PW lo g M bp s st.rest st.last a e rs lf na sl b cs/\na.map (·.1)=st.nodes/\O=hG bp na sl b
structure Stp (g:zc) (O:Nat->Prop) (g':zc) (O':Nat->Prop):Prop where
 le:g.size<=g'.size
 sub:∀c,O' c->O c\/g.size<=c
 fr:∀j,j<g.size->¬O j->g'[j]?=g[j]?
theorem Stp.refl(g:zc)(O:Nat->Prop):Stp g O g O:=⟨YM _,λc h=>.inl h,λj _ _=>rfl⟩
theorem Stp.trans{g g' f:zc}{O O' e:Nat->Prop}(a:Stp g O g' O')(b:Stp g' O' f e):Stp g O f e:=by have:=a.le;have:=b.le;refine⟨by omega,λc h=>?_,λj k i=>?_⟩;rcases b.sub c h with h|h;exact a.sub c h;omega;rw[b.fr j (by omega) (λh=>?_)];exact a.fr j k i;rcases a.sub j h with h|h;exact i h;omega
theorem Stp.keep(k:Keep g.size g g'):Stp g O g' O:=⟨k.size,λc h=>.inl h,λj b _=>k.get j b⟩
theorem PW.own{rest:List Tk}{last a e:Int}{na:NA}{sl:Sl}(H:PW lo g M bp s rest last a e rs lf na sl b cs)(h:hG bp na sl b c):lo<=c/\c<g.size/\M c=Td:=by rcases h with rfl|h;exact⟨H.bl.1,H.blk.lt,H.bl.2⟩;exact H.ns.own h
theorem PaS.own{st:PSt}(H:PaS lo g M bp s st a e O)(h:O c):lo<=c/\c<g.size/\M c=Td:=by obtain⟨rs,lf,na,sl,b,cs,W,_,rfl⟩:=H;exact W.own h
theorem pe(ag:AgM M g)(f:∀j,j<g.size->M j≠Td->g'[j]?=g[j]?):AgM M g':=λb c e=>by obtain⟨T,m,e'⟩:=ag b c e;grind
theorem PaS.frame{st:PSt}(H:PaS lo g M bp s st a e O)(l:g.size<=g'.size)(f:∀c,c<g.size->(O c\/M c≠Td)->g'[c]?=g[c]?):PaS lo g' M bp s st a e O:=by obtain⟨rs,lf,na,sl,b,cs,W,h1,rfl⟩:=H;refine⟨rs,lf,na,sl,b,cs,⟨W.blk.keep (f bp W.blk.lt (.inl (.inl rfl))),W.rd,W.ns.frame l λc h=>f c (W.ns.own h).2.1 (.inl (.inr h)),pe W.ag λj k i=>f j k (.inr i),W.bl,W.nb⟩,h1,rfl⟩
theorem PaS.keep{st:PSt}(H:PaS lo g M bp s st a e O)(k:Keep g.size g g'):PaS lo g' M bp s st a e O:=H.frame k.size λc b _=>k.get c b
theorem PaS.ag{st:PSt}(H:PaS lo g M bp s st a e O):AgM M g:=by obtain⟨rs,lf,na,sl,b,cs,W,_,_⟩:=H;exact W.ag
theorem PW.put{rest rest':List Tk}{last last' a a' e e':Int}{rs rs':Sl}{lf lf':Int}{na:NA}{sl:Sl}(H:PW lo g M bp s rest last a e rs lf na sl b cs)(B:Blk g' bp (rM s rs' lf' last' sl a' e').toArray)(r:Rd M (.row i7) rest' [aK rs'])(l:g'.size=g.size)(f:∀j,j≠bp->g'[j]?=g[j]?):PW lo g' M bp s rest' last' a' e' rs' lf' na sl b cs:= ⟨B,r,H.ns.frame (by omega) λc k=>f c λh=>H.nb (h ▸ k),pe H.ag λj _ i=>f j λh=>i (h ▸ H.bl.2),H.bl,H.nb⟩
section
variable {lo : Nat} {g : zc} {M : Fr} {bp : Nat} {s : Bs} {st : PSt} {a e : Int} {O : Nat -> Prop} {K : Value -> zc -> Prop}
theorem rI(H:PaS lo g M bp s st a e O)(f:K (.int .i64 st.kind) g):XC Tp 211 #[.pointer (Tc ⟨bp,0,Td⟩)] g K:=by
 obtain⟨rs,lf,na,sl,b,cs,W,h1,rfl⟩:=H;apply Pb;have l:=(rowLen W.rd).1;refine⟨_,rfl,rs,by rw[qo];exact W.blk.cell rfl,λc=>?_,λc=>⟨_,rfl,rs,by rw[qo];exact W.blk.cell rfl,?_⟩⟩;have c:rs.len=0:=by simpa using c
 have:st.rest=[]:=zau.1 (by omega);unfold PSt.kind at f;simp_all;have c:rs.len≠0:=by simpa using c
 cases hr:st.rest with
 |nil=>simp_all
 |cons t r=>have rd:=W.rd;rw[hr]at rd;obtain⟨i,o,h,p,m,n⟩:=ng W.ag rd (k:=0) (by simp);refine⟨_,⟨h,by omega,by omega⟩,t.1,?_,?_⟩;grind [qo];unfold PSt.kind at f;simp_all
theorem DR(H:PaS lo g M bp s st a e O)(f:K (.int .i64 (st.here s.length)) g):XC Tp 217 #[.pointer (Tc ⟨bp,0,Td⟩)] g K:=by
 obtain⟨rs,lf,na,sl,b,cs,W,h1,rfl⟩:=H;apply Rp;have l:=(rowLen W.rd).1;refine⟨_,rfl,rs,by rw[qo];exact W.blk.cell rfl,λc=>?_,λc=>⟨_,rfl,rs,by rw[qo];exact W.blk.cell rfl,?_⟩⟩;have c:rs.len=0:=by simpa using c
 have:st.rest=[]:=zau.1 (by omega);unfold PSt.here at f;rw[this]at f;refine⟨_,rfl,bl s,by rw[qo];exact W.blk.cell rfl,?_⟩;rw[zh];exact f;have c:rs.len≠0:=by simpa using c
 cases hr:st.rest with
 |nil=>simp_all
 |cons t r=>have rd:=W.rd;rw[hr]at rd;obtain⟨i,o,h,p,m,n⟩:=ng W.ag rd (k:=0) (by simp);refine⟨_,⟨h,by omega,by omega⟩,t.2.1,?_,?_⟩;simp_all[qo];unfold PSt.here at f;simp_all
theorem HW:qj Tp 3=Ta:=by kernel_rfl
theorem Cs:yb Tp 3=1:=by kernel_rfl
theorem V9:qj Tp 30=Ta:=by kernel_rfl
theorem S9:yb Tp 30=1:=by kernel_rfl
theorem Eh:qj Tp 167=Ta:=by kernel_rfl
theorem AN:yb Tp 167=2:=by kernel_rfl
theorem Ce:qj Tp 162=Ta:=by kernel_rfl
theorem Gi:yb Tp 162=1:=by kernel_rfl
theorem Stp.same(l:g'.size=g.size)(b:O bp)(f:∀j,j≠bp->g'[j]?=g[j]?):Stp g O g' O:=⟨by omega,λc h=>.inl h,λj k i=>f j λe=>i (e ▸ b)⟩
theorem Xe(H:PaS lo g M bp s st a e O){x:Int}(l:∀g',PaS lo g' M bp s st (st.here s.length) x O->Stp g O g' O->K (.bool Tb) g'):XC Tp 147 #[.pointer (Tc ⟨bp,0,Td⟩),.int .i64 x] g K:=by apply VF;refine DR H ⟨_,rfl,_,rfl,?_⟩;obtain⟨rs,lf,na,sl,b,cs,W,h1,rfl⟩:=H;rw[qo];refine yr HW Cs W.blk (by show 5<7;omega) rfl λo n q k=>⟨_,rfl,?_⟩;rw[qo];refine yr V9 S9 n (by show 6<7;omega) rfl λc m p i=>?_;have f:∀j,j≠bp->c[j]?=g[j]?:=λj h=>(i j h).trans (k j h);exact l c ⟨rs,lf,na,sl,b,cs,W.put (rest':=st.rest) (last':=st.last) (a':=st.here s.length) (e':=x) (rs':=rs) (lf':=lf) m W.rd (by omega) f,h1,rfl⟩ (Stp.same (by omega) (.inl rfl) f)
theorem AF(H:PaS lo g M bp s st a e O)(C:st.rest≠[])(w:∀g',PaS lo g' M bp s st.skip a e O->Stp g O g' O->K (.tuple #[]) g'):XC Tp 212 #[.pointer (Tc ⟨bp,0,Td⟩)] g K:=by
 apply UM;obtain⟨rs,lf,na,sl,b,cs,W,h1,rfl⟩:=H;obtain⟨m,_,q⟩:=rowLen W.rd;obtain⟨t,r,l⟩:=za3 C;have rd:=W.rd;rw[l]at rd m q;rw[ZV]at m q;obtain⟨J,o,z,F,E,A⟩:=ng W.ag rd (k:=0) (by simp);refine⟨_,rfl,rs,by rw[qo];exact W.blk.cell rfl,_,⟨z,by omega,by omega⟩,t.2.1,t.2.2,?_,_,rfl,rs,by rw[qo];exact W.blk.cell rfl,.inl rfl,⟨by omega,by omega,by omega,by omega⟩,_,rfl,?_⟩;rw[qo,qo];exact⟨by rw[qo];exact E,by rw[qo];exact A,trivial⟩;rw[qo];refine J5 (vs:=[.int .i64 t.2.1,.int .i64 t.2.2]) Eh W.blk rfl AN (by show 2+2<=7;omega) (λu n=>?_) λL x I y=>⟨_,rfl,?_⟩;simp at n;rcases n with rfl|rfl <;> rfl;rw[qo];refine yr Ce Gi x (by rw[Hk (by show 2+2<=7;omega)];show 1<7;omega) rfl λi c G B=>?_
 have f:∀j,j≠bp->i[j]?=g[j]?:=λj p=>(B j p).trans (y j p);have h:=MC rd;rw[YO,YO]at c;have c:Blk i bp (rM s ⟨fF rs.a (sz i7) 1 rs.cap,rs.len-1,rs.cap-1⟩ t.2.1 t.2.2 sl a e).toArray:=c;have D:st.skip=⟨r,t.2.2,st.nodes⟩:=by unfold PSt.skip;rw[l]
 rw[D]at w;exact w i ⟨_,t.2.1,na,sl,b,cs,W.put c h (by omega) f,h1,rfl⟩ (Stp.same (by omega) (.inl rfl) f)
theorem PSt.ne_of_kind{st:PSt}(h:st.kind=k)(b:k≠0):st.rest≠[]:=λe=>by unfold PSt.kind at h;simp_all
theorem qI(H:PaS lo g M bp s st a e O)(f:k≠0)(h:st.kind=k->∀g',PaS lo g' M bp s st.skip a e O->Stp g O g' O->K (.bool Ta) g')(c:st.kind≠k->K (.bool Tb) g):XC Tp 275 #[.pointer (Tc ⟨bp,0,Td⟩),.int .i64 k] g K:=by
 apply II;refine rI H ⟨_,rfl,λb=>c (by simpa using b),λb=>?_⟩;have b:st.kind=k:=by simpa using b
 exact AF H (PSt.ne_of_kind b f) λg' p q=>⟨rfl,h b g' p q⟩
end
end
section
variable {n bv cv:Nat} {t el ty:TypeId} {zv:Value} {ks:Sl} {K:Value -> zc -> Prop}
theorem NS.cell{lo:Nat}{g:zc}{M:Fr}{na:NA}{sl:Sl}{b:Nat}{cs:Array Value}(H:NS lo g M na sl b cs)(e:n<na.length):sl.a=Tc ⟨b,0,Td⟩/\Blk g b cs/\sl.cap≠0/\n*7+7<=cs.size/\∀(q:Nat) (v:Value),q<7->(gU na[n])[q]?=Tc v->ze g ⟨b,n*7+q,Td⟩=Tc v:=by
 have c:na.map gU≠[]:=λh=>by rw[List.map_eq_nil_iff]at h;rw[h]at e;simp at e
 obtain⟨h1,f⟩:=H.cr.blk c;obtain⟨m,l⟩:=H.cr.el n (gU na[n]) (by rw[zai,YR e];rfl);refine⟨h1,f,by have:=H.len;have:=H.cr.ro.le;omega,by omega,λq v i k=>f.cell ?_⟩;have:=tw l i;rw[k]at this;rw[<-this,zav]
def jK(k:Int)(s':Sl)(b:List Nat)(p:Nd×Ax):Nd×Ax:=((p.1.1,p.1.2.1,p.1.2.2.1,p.1.2.2.2.1++[k],p.1.2.2.2.2),⟨s',b,p.2.ps,p.2.pb⟩)
def oS(k:Sp)(s':Sl)(b:List Nat)(p:Nd×Ax):Nd×Ax:=((p.1.1,p.1.2.1,p.1.2.2.1,p.1.2.2.2.1,p.1.2.2.2.2++[k]),⟨p.2.ks,p.2.kb,s',b⟩)
def wZ(t:Int)(p:Nd×Ax):Nd×Ax:=(nn t p.1,p.2)
theorem wP{f:Nd×Ax->Nd×Ax}{f':Nd->Nd}(h:∀p,(f p).1=f' p.1)(na:NA)(n:Nat):(na.modify n f).map (·.1)=(na.map (·.1)).modify n f':=by
 apply zap;intro i;rw[zai,za7,za7,zai];cases na[i]? with
 |none=>rfl
 |some p=>by_cases e:n=i <;> simp[e,h]
structure NSt (lo:Nat) (g:zc) (M:Fr) (na:NA) (sl:Sl) (b:Nat) (g':zc) (na':NA) (cs':Array Value):Prop where
 ns:NS lo g' M na' sl b cs'
 le:g.size<=g'.size
 sub:∀c,gp na' sl b c->gp na sl b c\/g.size<=c
 fr:∀j,j<g.size->¬gp na sl b j->g'[j]?=g[j]?
section
variable {lo : Nat} {g : zc} {M : Fr} {na : NA} {sl : Sl} {b : Nat} {cs : Array Value}
theorem NS.addK{bytes:Nat}(E:ElemT Tp t el zv (sz (.int .i64)) bytes)(C:bytes<=1000)(ag:AgM M g)(G:lo<=g.size)(H:NS lo g M na sl b cs)(D:n<na.length){k:Int}(Y:Blk g bv #[.int .i64 k])(P:na[n].1.2.2.2.1.length<=1000000)(B:na[n].2.ks=ks) (U:∀(s':Sl) (o:zc) (l:List Nat),Blk o b cs->g.size<=o.size->(∀j,j<g.size->¬gp na sl b j->o[j]?=g[j]?)->(∀p:zc,Blk p b (cs.setIfInBounds (n*7+5) (aK s'))->p.size=o.size->(∀j,j≠b->p[j]?=o[j]?)->NSt lo g M na sl b p (na.modify n (jK k s' l)) (cs.setIfInBounds (n*7+5) (aK s')))->K (.slice s'.a s'.len s'.cap) o):
  xd Tp (YY #[t,t] ty #[.slice ks.a ks.len ks.cap,.slice (Tc ⟨bv,0,Td⟩) 1 cv]) g K:=by
 subst B;obtain⟨h1,z,O,h4,h5⟩:=H.cell D;have w:=YW D;have I:=H.nd _ w;have A:=(H.lb O).2.1;refine ORow.app E C ag I.kk G Y rfl P λs' o l J Q c1 y=>?_;have u:b∉na[n].2.kb:=λh=>H.nb _ w (.inl h);have s:b∉l:=λh=>by rcases c1 b h with h|h;exact u h;omega
 refine U s' o l (z.keep (y b A u)) Q (λj x m=>y j x λh=>m (.inr ⟨_,w,.inl h⟩)) λp Z z2 F=>?_;have r:∀j,j<g.size->j≠b->¬fN na[n] j->p[j]?=g[j]?:=λj x h1 z=>by rw[F j h1,y j x λh=>z (.inl h)]
 have S:NdI lo p M (jK k s' l na[n]):=by refine⟨?_,?_,?_⟩;exact J.frame (λc i=>F c λe=>s (e ▸ i)) (Fr.le.refl _) λc i=>(J.own c i).2.2;exact I.pp.frame (λc i=>by have:=(I.pp.own c i).2.1;rw[F c λe=>H.nb _ w (.inr (e ▸ i))];exact y c this λh=>I.dd c h i) (Fr.le.refl _) λc i=>(I.pp.own c i).2.2;intro c i L;rcases c1 c i with h|h;exact I.dd c h L;have:=(I.pp.own c L).2.1;omega
 have q2:∀c,fN (jK k s' l na[n]) c->fN na[n] c\/g.size<=c:=by intro c i;rcases i with i|i;rcases c1 c i with h|h;exact .inl (.inl h);exact .inr h;exact .inl (.inr i)
 obtain⟨N,V⟩:=H.upd D (f:=jK k s' l) (q:=5) (v:=aK s') (by omega) Z (by omega) rfl S q2 r;exact⟨N,by omega,V,λj x m=>r j x (λe=>m (.inl ⟨O,e⟩)) λh=>m (.inr ⟨_,w,h⟩)⟩
theorem NS.addP{bytes:Nat}(E:ElemT Tp t el zv (sz i0) bytes)(C:bytes<=1000)(ag:AgM M g)(G:lo<=g.size)(H:NS lo g M na sl b cs)(D:n<na.length){k:Sp}(Y:Blk g bv #[.int .i64 k.1,.int .i64 k.2])(P:na[n].1.2.2.2.2.length<=1000000)(B:na[n].2.ps=ks) (U:∀(s':Sl) (o:zc) (l:List Nat),Blk o b cs->g.size<=o.size->(∀j,j<g.size->¬gp na sl b j->o[j]?=g[j]?)->(∀p:zc,Blk p b (cs.setIfInBounds (n*7+6) (aK s'))->p.size=o.size->(∀j,j≠b->p[j]?=o[j]?)->NSt lo g M na sl b p (na.modify n (oS k s' l)) (cs.setIfInBounds (n*7+6) (aK s')))->K (.slice s'.a s'.len s'.cap) o):
  xd Tp (YY #[t,t] ty #[.slice ks.a ks.len ks.cap,.slice (Tc ⟨bv,0,Td⟩) 1 cv]) g K:=by
 subst B;obtain⟨h1,z,O,h4,h5⟩:=H.cell D;have w:=YW D;have I:=H.nd _ w;have A:=(H.lb O).2.1;refine ORow.app E C ag I.pp G Y ⟨_,_,rfl,rfl,rfl⟩ P λs' o l J Q c1 y=>?_;have u:b∉na[n].2.pb:=λh=>H.nb _ w (.inr h);have s:b∉l:=λh=>by rcases c1 b h with h|h;exact u h;omega
 refine U s' o l (z.keep (y b A u)) Q (λj x m=>y j x λh=>m (.inr ⟨_,w,.inr h⟩)) λp Z z2 F=>?_;have r:∀j,j<g.size->j≠b->¬fN na[n] j->p[j]?=g[j]?:=λj x h1 z=>by rw[F j h1,y j x λh=>z (.inr h)]
 have S:NdI lo p M (oS k s' l na[n]):=by refine⟨?_,?_,?_⟩;exact I.kk.frame (λc i=>by have:=(I.kk.own c i).2.1;rw[F c λe=>H.nb _ w (.inl (e ▸ i))];exact y c this λh=>I.dd c i h) (Fr.le.refl _) λc i=>(I.kk.own c i).2.2;exact J.frame (λc i=>F c λe=>s (e ▸ i)) (Fr.le.refl _) λc i=>(J.own c i).2.2;intro c L i;rcases c1 c i with h|h;exact I.dd c L h;have:=(I.kk.own c L).2.1;omega
 have q2:∀c,fN (oS k s' l na[n]) c->fN na[n] c\/g.size<=c:=by intro c i;rcases i with i|i;exact .inl (.inl i);rcases c1 c i with h|h;exact .inl (.inr h);exact .inr h
 obtain⟨N,V⟩:=H.upd D (f:=oS k s' l) (q:=6) (v:=aK s') (by omega) Z (by omega) rfl S q2 r;exact⟨N,by omega,V,λj x m=>r j x (λe=>m (.inl ⟨O,e⟩)) λh=>m (.inr ⟨_,w,h⟩)⟩
theorem NS.toB(H:NS lo g M na sl b cs)(l:n<na.length){x:Int}{i:zc}(w:Blk i b (cs.setIfInBounds (n*7+2) (.int .i64 x)))(z2:i.size=g.size)(k:∀j,j≠b->i[j]?=g[j]?):NSt lo g M na sl b i (na.modify n (wZ x)) (cs.setIfInBounds (n*7+2) (.int .i64 x)):=by
 obtain⟨h1,p,r,y,z⟩:=H.cell l;have m:=YW l;have I:=H.nd _ m;have u:NdI lo i M (wZ x na[n]):=by refine⟨?_,?_,I.dd⟩;exact I.kk.frame (λc h=>k c λe=>H.nb _ m (.inl (e ▸ h))) (Fr.le.refl _) λc h=>(I.kk.own c h).2.2;exact I.pp.frame (λc h=>k c λe=>H.nb _ m (.inr (e ▸ h))) (Fr.le.refl _) λc h=>(I.pp.own c h).2.2
 obtain⟨N,s⟩:=H.upd l (f:=wZ x) (q:=2) (v:=.int .i64 x) (by omega) w (by omega) rfl u (λc h=>.inl h) λj t h1 p=>k j h1;exact⟨N,by omega,s,λj t o=>k j λe=>o (.inl ⟨r,e⟩)⟩
end
end
section
variable {J O O':Nat -> Prop} {g g':zc} {lo bp:Nat} {M:Fr} {s:Bs} {a e:Int}
structure StJ (J:Nat->Prop) (g:zc) (O:Nat->Prop) (g':zc) (O':Nat->Prop):Prop where
 le:g.size<=g'.size
 sub:∀c,O' c->O c\/g.size<=c
 fr:∀j,j<g.size->¬O j->¬J j->g'[j]?=g[j]?
theorem Stp.j{J:Nat->Prop}{g g':zc}{O O':Nat->Prop}(S:Stp g O g' O'):StJ J g O g' O':=⟨S.le,S.sub,λj h1 b _=>S.fr j h1 b⟩
theorem StJ.trans{g g' f:zc}{O O' e:Nat->Prop}(a:StJ J g O g' O')(b:StJ J g' O' f e):StJ J g O f e:=by have:=a.le;have:=b.le;refine⟨by omega,λc h=>?_,λj l k i=>?_⟩;rcases b.sub c h with h|h;exact a.sub c h;omega;rw[b.fr j (by omega) (λh=>?_) i];grind [fr];rcases a.sub j h with h|h;exact k h;omega
def Apt(J:Nat->Prop)(g:zc)(O:Nat->Prop):Prop:=∀j,J j->j<g.size/\¬O j
theorem Apt.step{J D:Nat->Prop}(h:Apt D g O)(S:StJ J g O g' O'):Apt D g' O':=λj c=>by obtain⟨h1,e⟩:=h j c;have:=S.le;refine⟨by omega,λb=>?_⟩;rcases S.sub j b with h|h;exact e h;omega
def Ac(r:PR PSt)(b:Bool)(st':PSt)(a e:Int):Prop:=match r with
 |.inl t=>b=Ta/\st'=t
 |.inr x=>b=Tb/\x=(a,e)
def Eg(r:PR (List Bs×PSt))(b:Bool)(σ:List Bs)(st':PSt)(a e:Int):Prop:=match r with
 |.inl t=>b=Ta/\t=(σ,st')
 |.inr x=>b=Tb/\x=(a,e)
def uf(g:zc)(bp:Nat):Nat:=match ze g ⟨bp,1,Td⟩with
 |some (.slice _ n _)=>n
 |_=>0
theorem PaS.restLen{st:PSt}(H:PaS lo g M bp s st a e O):uf g bp=st.rest.length:=by obtain⟨rs,lf,na,sl,b,cs,W,h1,rfl⟩:=H;unfold uf;rw[W.blk.cell (o:=1) (v:=aK rs) rfl];exact(rowLen W.rd).1
theorem PW.nst{rest:List Tk}{last a e:Int}{rs:Sl}{lf:Int}{na na':NA}{sl:Sl}{b:Nat}{cs cs':Array Value}(W:PW lo g M bp s rest last a e rs lf na sl b cs)(N:NSt lo g M na sl b g' na' cs'):PW lo g' M bp s rest last a e rs lf na' sl b cs'/\Stp g (hG bp na sl b) g' (hG bp na' sl b):=by refine⟨⟨W.blk.keep (N.fr bp W.blk.lt W.nb),W.rd,N.ns,pe W.ag λj f k=>N.fr j f λh=>k (W.ns.own h).2.2,W.bl,λh=>?_⟩,N.le,λc h=>?_,λj f i=>N.fr j f λh=>i (.inr h)⟩;rcases N.sub bp h with h|h;exact W.nb h;have:=W.blk.lt;omega;rcases h with h|h;exact .inl (.inl h);rcases N.sub c h with h|h;exact .inl (.inr h);exact .inr h
theorem JY:ElemT Tp 80 3 (.int .i64 0) (sz (.int .i64)) 8:=⟨by kernel_rfl,⟨Tryz.t3,by kernel_rfl,by kernel_rfl,by kernel_rfl,by kernel_rfl⟩,rfl,by decide⟩
theorem T1:ElemT Tp 174 167 (.agg #[.int .i64 0,.int .i64 0]) (sz i0) 16:=⟨by kernel_rfl,⟨Tryz.t167,by kernel_rfl,by kernel_rfl,by kernel_rfl,by kernel_rfl⟩,rfl,by decide⟩
theorem XS:qj Tp 80=Ta:=by kernel_rfl
theorem To:yb Tp 80=1:=by kernel_rfl
theorem Mr:qj Tp 174=Ta:=by kernel_rfl
theorem MS:yb Tp 174=1:=by kernel_rfl
def EG(lo:Nat)(M:Fr)(bp:Nat)(s:Bs)(F:FuncId)(A C:Array Value)(lv:Int)(kid:gy)(HI:List Bs->zc->Prop)(J D:Nat->Prop):Prop:=
 ∀(σ:List Bs) (g:zc) (st:PSt) (a e:Int) (O:Nat->Prop),PaS lo g M bp s st a e O->HI σ g->Apt D g O->st.nodes.length<=4096->st.T<=200000->(∀t∈st.rest,jF s t) ->
  ∀K:Value->zc->Prop,(∀b g' st' a' e' O' c,PaS lo g' M bp s st' a' e' O'->StJ J g O g' O'->st.nodes.length<=st'.nodes.length->(b=Ta->HI c g')->Eg (kid σ st) b c st' a' e'->K (.bool b) g')->XC Tp F (A++#[.int .i64 lv]++C) g K
section
variable {lo : Nat} {g : zc} {M : Fr} {bp : Nat} {s : Bs} {st : PSt} {a e : Int} {O J D : Nat -> Prop} {K : Value -> zc -> Prop} {HI : List Bs -> zc -> Prop} {kid : gy} {F : FuncId} {A C : Array Value}
set_option maxRecDepth 100000 in
set_option maxHeartbeats 4000000 in
theorem BV(au:∀σ g g',HI σ g->(∀j,D j->g'[j]?=g[j]?)->HI σ g'){E lv:Int}(bg:YJ .i64 (E+1)=lv)(hk:EG lo M bp s F A C lv kid HI J D)(aA:l5 kid)(hF:zx Tp F=Ta) {closing:Int} (hc:closing≠0) (H:PaS lo g M bp s st a e O) (h0:HI [] g) (hJ:Apt D g O) (h4:st.nodes.length<=4096) (hT:st.T<=200000) (hw:∀t∈st.rest,jF s t) {n:Nat} (hn:n<st.nodes.length) (hK:∀b g' st' a' e' O',PaS lo g' M bp s st' a' e' O'->StJ J g O g' O'->st.nodes.length<=st'.nodes.length->Ac (iq s n closing kid st) b st' a' e'->K (.bool b) g'):
  XC Tp 213 #[.pointer (Tc ⟨bp,0,Td⟩),.int .i64 (n:Int),.int .i64 E,.int .i64 closing,.func (.func F) A C] g K:=by
 apply Pi;refine qI H hc (λhy g1 P1 S1=>⟨Ta,rfl,λ_=>?_,λh=>(by cases h)⟩) (λaH=>⟨Tb,rfl,λh=>(by cases h),λ_=>?_⟩);refine hK Ta g1 st.skip a e O P1 S1.j (by rw[Zf];omega) ?_;unfold iq;rw[zb hy];exact⟨rfl,rfl⟩;refine⟨λg'=>∃(f:Nat) (σ:List Bs) (st':PSt) (a' e':Int) (O':Nat->Prop),PaS lo g' M bp s st' a' e' O'/\HI σ g'/\Apt D g' O'/\StJ J g O g' O'/\Okk st st' 0/\st'.rest.length<f/\iq s n closing kid st=gL s n closing kid f σ st',λg'=>uf g' bp,⟨st.rest.length+1,[],st,a,e,O,H,h0,hJ,(Stp.refl g O).j,Okk.refl st,by omega,by unfold iq;rw[za aH]⟩,?_⟩;rintro h6 ⟨f,σ,l,a1,e1,O1,P1,I1,J1,S1,o,hf,P⟩;obtain⟨f,rfl⟩:∃f',f=f'+1:=⟨f-1,by omega⟩;have bj:n<l.nodes.length:=by have:=o.n;omega
 have be:l.nodes.length<=4096:=o.m h4;have a6:l.T<=200000:=by have:=o.t;omega
 have bn:=P1.restLen;have aC:=P1;obtain⟨bz,bA,bu,ar,b1,br,W1,a7,_⟩:=aC;have l1:ar.len=l.nodes.length:=by rw[W1.ns.len,<-a7,ZA]
 refine⟨_,rfl,l.last,by rw[qo,qo];exact W1.blk.cell rfl,_,rfl,ar,by rw[qo];exact W1.blk.cell rfl,hF,?_⟩;rw[bg,l1];refine hk σ h6 l a1 e1 O1 P1 I1 J1 be a6 (λt ht=>hw t (o.w t ht)) _ λb g2 st2 a2 e2 O2 σ2 P2 S2 n2 I2 A2=>⟨b,rfl,λhb=>?_,λhb=>?_⟩;have hb:b=Tb:=by simpa using hb
 subst hb;refine hK Tb g2 st2 a2 e2 O2 P2 (S1.trans S2) (by have:=o.n;omega) ?_;rw[P,gL];cases Z:kid σ l with
 |inl t=>rw[Z]at A2;exact absurd A2.1 (by simp)
 |inr x=>rw[Z]at A2;exact⟨rfl,A2.2⟩
 have hb:b=Ta:=by simpa using hb
 subst hb;have Z:kid σ l=.inl (σ2,st2):=by
  cases Z:kid σ l with
  |inl t=>rw[Z]at A2;rw[A2.2]
  |inr x=>rw[Z]at A2;exact absurd A2.1 (by simp)
 have ay:=aA _ _ _ _ Z;have I2:=I2 rfl;have J2:=J1.step S2;rw[gL,Z]at P;dsimp only at P;have aT:=P2;obtain⟨rs,lf,na,sl,b,cs,W,h1,rfl⟩:=aT;have bo:na.length=st2.nodes.length:=by rw[<-h1,ZA]
 have aa:n<na.length:=by omega
 obtain⟨q1,q2,q3,q4,q5⟩:=W.ns.cell aa;have aZ:fZ na[n].1<=200000:=by
  have h:na[n].1∈st2.nodes:=by rw[<-h1];exact List.mem_map_of_mem (YW aa)
  have:=Af h;have:=ay.t;omega
 unfold fZ at aZ;refine⟨_,rfl,sl,by rw[qo];exact W.blk.cell rfl,⟨b,0,Td⟩,⟨q1,by omega,by have:=W.ns.len;omega⟩,⟨b,n*7,Td⟩,by rw[qo,YO,ZP],na[n].2.ks,?_,?_⟩;rw[qo];exact q5 5 _ (by omega) rfl;intro L;obtain⟨Y,bm,aY⟩:=jo (g:=L) rfl;clear_value L;have aQ:NSt lo g2 M na sl b L na cs:=⟨W.ns.frame Y.size λc hc=>Y.get c (W.ns.own hc).2.1,Y.size,λc h=>.inl h,λj I _=>Y.get j I⟩;obtain⟨U,aV⟩:=W.nst aQ;have ax:lo<=L.size:=by have:=(U.own (.inl rfl));omega
 refine NS.addK JY (by omega) U.ag ax U.ns aa aY (by omega) rfl λs' bD u aN bq bh aJ=>⟨s',rfl,⟨b,n*7,Td⟩,by rw[qo,YO,ZP],?_⟩;rw[qo];refine yr XS To aN (by omega) rfl λak u1 u2 u3=>?_;obtain⟨q,aP⟩:=U.nst (aJ ak u1 u2 u3);have ab:n<(na.modify n (jK (l.nodes.length:Int) s' u)).length:=by rw[List.length_modify];exact aa
 have an:(na.modify n (jK (l.nodes.length:Int) s' u))[n]=jK (l.nodes.length:Int) s' u na[n]:=by rw[List.getElem_modify,zb rfl]
 obtain⟨r1,r2,r3,r4,r5⟩:=q.ns.cell ab;rw[an]at r5;refine⟨⟨b,n*7,Td⟩,by rw[qo,YO,ZP],na[n].2.ps,?_,?_⟩;rw[qo];exact r5 6 _ (by omega) rfl;have a8:PaS lo ak M bp s ⟨st2.rest,st2.last,(na.modify n (jK (l.nodes.length:Int) s' u)).map (·.1)⟩ a2 e2 _:=⟨_,_,_,_,_,_,q,rfl,rfl⟩;refine DR a8 ⟨_,rfl,rfl,rfl,?_⟩;intro V;obtain⟨B,bB,aE⟩:=jo (g:=V) rfl;clear_value V;have aI:=(q.ns.own (.inl ⟨r3,rfl⟩)).2.1;refine⟨by rw[qo];exact B.get b aI,?_⟩;have aM:NSt lo ak M _ sl b V _ _:=⟨q.ns.frame B.size λc hc=>B.get c (q.ns.own hc).2.1,B.size,λc h=>.inl h,λj I _=>B.get j I⟩;obtain⟨S,aG⟩:=q.nst aM;have ap:lo<=V.size:=by have:=(S.own (.inl rfl));omega
 refine NS.addP T1 (by omega) S.ag ap S.ns ab (k:=(l.last,st2.here s.length)) aE (by rw[an];show na[n].1.2.2.2.2.length<=_;omega) (by rw[an];rfl) λs2 bC aL aU bE bF az=>⟨s2,rfl,⟨b,n*7,Td⟩,by rw[qo,YO,ZP],?_⟩;rw[qo];refine yr Mr MS aU (by omega) rfl λz v1 v2 v3=>?_;obtain⟨aF,aO⟩:=S.nst (az z v1 v2 v3);have Q:((na.modify n (jK (l.nodes.length:Int) s' u)).modify n (oS (l.last,st2.here s.length) s2 aL)).map (·.1)=(st2.addKid n (l.nodes.length:Int) (l.last,st2.here s.length)).nodes:=by
  rw[wP (f':=λx=>(x.1,x.2.1,x.2.2.1,x.2.2.2.1,x.2.2.2.2++[(l.last,st2.here s.length)])) (λp=>rfl),wP (f':=λx=>(x.1,x.2.1,x.2.2.1,x.2.2.2.1++[(l.nodes.length:Int)],x.2.2.2.2)) (λp=>rfl),h1];unfold PSt.addKid;apply zap;intro i;rw[za7,za7,za7];cases st2.nodes[i]? with
  |none=>rfl
  |some x=>by_cases e:n=i <;> simp[e,nl]
 have aj:PaS lo z M bp s (st2.addKid n (l.nodes.length:Int) (l.last,st2.here s.length)) a2 e2 _:=⟨_,_,_,_,_,_,aF,Q,rfl⟩;have G:=((aV.trans aP).trans aG).trans aO;have aS:HI σ2 z:=au σ2 g2 z I2 λj I=>G.fr j (J2 j I).1 (J2 j I).2;have ai:=J2.step (G.j (J:=J));have aB:=BX st2 n (l.nodes.length:Int) (l.last,st2.here s.length);have N:(st2.addKid n (l.nodes.length:Int) (l.last,st2.here s.length)).kind=st2.kind:=rfl;have ba:(st2.addKid n (l.nodes.length:Int) (l.last,st2.here s.length)).here s.length=st2.here s.length:=rfl;have y:=(S1.trans S2).trans G.j;have af:st.nodes.length<=(st2.addKid n (l.nodes.length:Int) (l.last,st2.here s.length)).nodes.length:=by have:=o.n;have:=ay.n;omega
 refine qI aj hc (λhy g' P' S'=>⟨Ta,rfl,λ_=>?_,λh=>(by cases h)⟩) (λae=>⟨Tb,rfl,λh=>(by cases h),λ_=>?_⟩);refine hK Ta g' _ _ _ _ P' (y.trans S'.j) (by rw[Zf];exact af) ?_;rw[N]at hy;rw[P,zb hy];exact⟨rfl,rfl⟩;rw[N]at ae;rw[za ae]at P;refine qI aj (by omega) (λhy g' P' S'=>⟨Ta,rfl,λh=>(by simp at h),λ_=>?_⟩) (λah=>⟨Tb,rfl,λ_=>?_,λh=>(by simp at h)⟩);rw[N]at hy;rw[zb hy]at P;have am:=wK aA Z (n:=n) (k:=(l.nodes.length:Int)) (p:=(l.last,st2.here s.length)) (PSt.ne_kind hy (by omega));refine⟨⟨f,σ2,_,_,_,_,P',au σ2 z g' aS (λj I=>S'.fr j (ai j I).1 (ai j I).2),ai.step (S'.j (J:=J)),y.trans S'.j,(o.trans am).le (by omega),?_,P⟩,?_⟩;have:=am.r;omega;have e1:=P'.restLen;have:=am.r;grind;rw[N]at ah;rw[za ah]at P;refine Xe aj λg' P' S'=>⟨Tb,rfl,hK Tb g' _ _ _ _ P' (y.trans S'.j) af ?_⟩;rw[P];exact⟨rfl,by rw[ba]⟩
end
end
section
variable {gl:Fr}
theorem Hv{k:Int}{R:Int->Prop}(h:R (Z3 k)):PC Tp gl 210 [Arg.mk (.int .i64) k] [.int .i64] R:=by
 apply Vb;unfold Z3 at h;refine⟨λf=>?_,λf K n=>?_⟩;rw[zb (by simpa using f)]at h;exact h;have f:¬k=12:=by simpa using f
 rw[za f]at h;have key:∀b:Bool,b=decide (k=10\/k=11)->K b:=λb l=>n b ⟨λh1=>by
   rw[h1]at l;rw[zb (zB l.symm)]at h;exact h,λh1=>by
   rw[h1]at l;rw[za (zC l.symm)]at h;refine⟨λc=>?_,λc=>⟨λe=>?_,λe=>⟨λi=>?_,λi=>⟨λm=>?_,λm=>?_⟩⟩⟩⟩;rw[zb (by simpa using c)]at h;exact h;rw[za (by simpa using c),zb (by simpa using e)]at h;exact h;rw[za (by simpa using c),za (by simpa using e),zb (by simpa using i)]at h;exact h;rw[za (by simpa using c),za (by simpa using e),za (by simpa using i),zb (by simpa using m)]at h;exact h;rw[za (by simpa using c),za (by simpa using e),za (by simpa using i),za (by simpa using m)]at h;exact h⟩
 refine⟨λh1=>key _ ?_,λh1=>key _ ?_⟩;have:k=10:=by simpa using h1
 rw[h1,this];rfl;have:¬k=10:=by simpa using h1
 rw[ZR,beq_iff_eq,zA];omega
def zH(lo:Nat)(M:Fr)(bp:Nat)(s:Bs)(lv:Int)(val:gj):Prop:=
 ∀(key:Sp) (g:zc) (st:PSt) (a e:Int) (O:Nat->Prop),PaS lo g M bp s st a e O->st.nodes.length<=4096->st.T<=200000->(∀t∈st.rest,jF s t) ->
  ∀K:Value->zc->Prop,(∀b g' st' a' e' O',PaS lo g' M bp s st' a' e' O'->Stp g O g' O'->st.nodes.length<=st'.nodes.length->Ac (val key st) b st' a' e'->K (.bool b) g')->XC Tp 146 #[.pointer (Tc ⟨bp,0,Td⟩),.int .i64 lv,.agg #[.int .i64 key.1,.int .i64 key.2]] g K
section
variable {lo : Nat} {g : zc} {M : Fr} {bp : Nat} {s : Bs} {lv : Int} {val : gj}
theorem IK(k:zH lo M bp s lv val):EG lo M bp s 214 #[.pointer (Tc ⟨bp,0,Td⟩)] #[] lv (i6 val) (λ_ _=>True) (λ_=>False) (λ_=>False):=by
 intro σ g st a e O P I J l m f K n;show XC Tp _ #[.pointer (Tc ⟨bp,0,Td⟩),.int .i64 lv] g K;apply MO;refine k (0,0) g st a e O P l m f _ λb g' st' a' e' O' o i h c=>⟨b,rfl,n b g' st' a' e' O' σ o i.j h (λ_=>trivial) ?_⟩;unfold i6;cases hr:val (0,0) st with
 |inl t=>rw[hr]at c;exact⟨c.1,by rw[c.2]⟩
 |inr x=>rw[hr]at c;exact c
theorem Bj:MapT Tp 105 9 4 (.bool Tb):=⟨by kernel_rfl,by kernel_rfl,⟨Tryz.t4,by kernel_rfl,by kernel_rfl⟩⟩
def tv(m:Nat)(σ:List Bs)(g:zc):Prop:=∃l,MapAt g m l/\∀k:Bs,fh l (bl k)=if k∈σ then Tc (.bool Ta)else Td
theorem GD{M:Fr}{r:Bt×Int×Int}{v:Value}(h:Yf M [.str,.int .i64,.int .i64] r v):v=.tuple #[.string r.1,.int .i64 r.2.1,.int .i64 r.2.2]:=by obtain⟨vs,⟨l,rest,rfl,f,k,b,rfl,c,i,rfl,e⟩,rfl⟩:=h;rw[xt f,yj c,yj e];rfl
set_option maxRecDepth 100000 in
set_option maxHeartbeats 2000000 in
theorem U3(hg:GL gl)(hM:Fr.le gl M)(hs:s.length<=65536)(hv:zH lo M bp s lv val){m:Nat}{J:Nat->Prop}(hm:J m){σ:List Bs}{st:PSt}{a e:Int}{O:Nat->Prop}(P:PaS lo g M bp s st a e O)(I:tv m σ g)(hJ:Apt J g O)(h4:st.nodes.length<=4096)(hT:st.T<=200000)(hw:∀t∈st.rest,jF s t)(ai:∀j,J j->M j=Td){K:Value->zc->Prop} (hK:∀b g' st' a' e' O' σ',PaS lo g' M bp s st' a' e' O'->StJ (λj=>j=m) g O g' O'->st.nodes.length<=st'.nodes.length->(b=Ta->tv m σ' g')->Eg (gS s val σ st) b σ' st' a' e'->K (.bool b) g'):
  XC Tp 216 #[.pointer (Tc ⟨bp,0,Td⟩),.int .i64 lv,.map (Tc m)] g K:=by
 have A:=hJ m hm;apply VY;refine rI P ⟨_,rfl,λq=>?_,λq=>?_⟩;have q:¬st.kind=8:=by simpa using q
 refine Xe P λg' Q G=>⟨Tb,rfl,hK Tb g' st _ _ O σ Q G.j (YM _) (λh=>(by cases h)) ?_⟩;unfold gS;cases U:st.rest with
 |nil=>exact⟨rfl,rfl⟩
 |cons t r=>
  have:¬t.1=8:=by unfold PSt.kind at q;rw[U]at q;exact q
  dsimp only;rw[za this];exact⟨rfl,rfl⟩
 have q:st.kind=8:=by simpa using q
 have E:=PSt.ne_kind q (by omega);obtain⟨t,r,er⟩:=za3 E;have am:t.1=8:=by unfold PSt.kind at q;rw[er]at q;exact q
 obtain⟨w1,w2,w3,_⟩:=hw t (by rw[er];simp);have an:=kL E;have P0:=P;obtain⟨rs,lf,na,sl,b,cs,W,h1,eO⟩:=P0;have rd:=W.rd;have hl:=(rowLen W.rd).1;rw[er]at rd hl;rw[ZV]at hl;obtain⟨tb,o,e1,e2,e3,e4⟩:=ng W.ag rd (k:=0) (by simp);refine⟨_,rfl,rs,by rw[qo];exact W.blk.cell rfl,_,⟨e1,by omega,by omega⟩,t.2.1,t.2.2,?_,?_⟩;rw[qo,qo];exact⟨by rw[qo];exact e3,by rw[qo];exact e4,trivial⟩;intro aa;obtain⟨aB,aH,aC⟩:=jo (g:=aa) rfl;clear_value aa;refine J5 (vs:=[.int .i64 t.2.1,.int .i64 t.2.2]) Eh aC rfl AN (YM _) (λu hu=>?_) λV y aF aE=>⟨_,rfl,?_⟩;simp at hu;rcases hu with rfl|rfl <;> rfl;have y:Blk V g.size #[.int .i64 t.2.1,.int .i64 t.2.2]:=y;have z:Keep g.size g V:=⟨by omega,λj hj=>(aE j (by omega)).trans (aB.get j hj)⟩;have ax:=P.keep z;have ay:=W.blk.keep (z.get bp W.blk.lt);refine⟨bl s,by rw[qo];exact ay.cell rfl,t.2.1,by rw[qo];exact y.cell rfl,t.2.2,by rw[qo];exact y.cell rfl,⟨w1,by omega,by rw[zh];exact w3⟩,?_⟩;have ex:(bl s).extract t.2.1.toNat t.2.2.toNat=bl (fH s t.2):=by rw[qp];rfl
 rw[ex];have aJ:(fH s t.2).length<=65536:=by unfold fH;rw[za0,zab];omega
 refine(xM hg (t:=fH s t.2) (by omega) (R:=λr=>r=(bl (fw (fH s t.2)).1,((fw (fH s t.2)).2.1:Int),(fw (fH s t.2)).2.2)) rfl).go hM ax.ag (zm (a:=Arg.mk .str _) (rdStr _) zz) λv Y M' rr L au U=>?_;subst U;rw[GD au];refine⟨_,_,_,rfl,?_⟩;have f:Keep g.size g Y:=z.trans L.keep z.size;have af:=P.keep f;obtain⟨l,ml,mk⟩:=I;have D:MapAt Y m l:=ml.keep (f.get m A.1);have i:=Wk Bj D (bl (fw (fH s t.2)).1) Tb;rw[za (by simp)]at i;have az:gQ l (bl (fw (fH s t.2)).1) (.bool Tb)=.bool (decide ((fw (fH s t.2)).1∈σ)):=by unfold gQ;rw[mk];by_cases C:(fw (fH s t.2)).1∈σ;rw[zb C];simp[C];rw[za C];simp[C]
 rw[az]at i;have S:gS s val σ st=if(fw (fH s t.2)).1∈σ then st.err s 7
   else if st.skip.kind=7 then match val t.2 st.skip.skip with
    |.inl st'=>.inl (σ++[(fw (fH s t.2)).1],st')
    |.inr e=>.inr e
   else st.skip.err s 2:=by
  unfold gS;rw[er];dsimp only;exact(zb am).trans rfl
 refine⟨_,i,λN=>?_,λN=>?_⟩;have N:=zB N;refine Xe af λg' Q G=>⟨Tb,rfl,hK Tb g' st _ _ O σ Q ((Stp.keep (O:=O) f).trans G).j (YM _) (λh=>(by cases h)) ?_⟩;rw[S,zb N];exact⟨rfl,rfl⟩;have N:=zC N;rw[za N]at S;refine Gm Bj D (bl (fw (fH s t.2)).1) (.bool Ta) λB aA aG F=>?_;have aj:PaS lo B M bp s st a e O:=af.frame (by omega) λc hc ho=>F c λh=>by subst h;rcases ho with ho|ho;exact A.2 ho;exact ho (ai _ hm)
 have Z:StJ (λj=>j=m) g O B O:=⟨by have:=f.size;omega,λc h=>.inl h,λj hj hn hJ=>(F j hJ).trans (f.get j hj)⟩;have H:∀g',g'[m]?=B[m]?->tv m (σ++[(fw (fH s t.2)).1]) g':=λg' ap=>by
  refine⟨_,aA.keep ap,λk=>?_⟩;rw[Hm,mk];by_cases hk:(fw (fH s t.2)).1=k;subst hk;simp;have ak:¬bl (fw (fH s t.2)).1=bl k:=λh=>hk (QK.1 h);rw[za ak];have:(k∈σ++[(fw (fH s t.2)).1])↔k∈σ:=by simp;intro h;exact absurd h.symm hk
  simp only[this]
 have ae:m<B.size:=by have:=A.1;have:=f.size;omega
 refine AF aj E λg3 P3 S3=>⟨rfl,?_⟩;refine qI P3 (by omega) (λh7 g4 P4 S4=>⟨Ta,rfl,λh=>(by simp at h),λ_=>?_⟩) (λh7=>⟨Tb,rfl,λ_=>?_,λh=>(by simp at h)⟩);rw[zb h7]at S;have ar:=kL (PSt.ne_kind h7 (by omega));have p:=an.trans ar;have ah:¬O g.size:=λh=>by have:=(P.own h).2.1;omega
 have B4:Blk g4 g.size #[.int .i64 t.2.1,.int .i64 t.2.2]:=by refine y.keep ?_;have aI:=z.size;rw[S4.fr _ (by have:=S3.le;have:=f.size;have:=L.keep.size;omega) ah,S3.fr _ (by have:=f.size;have:=L.keep.size;omega) ah,F _ (by have:=A.1;omega)];exact L.keep.get _ (by omega)
 refine⟨t.2.1,t.2.2,B4.ld (cs:=[.int .i64 t.2.1,.int .i64 t.2.2]),?_⟩;refine hv t.2 g4 st.skip.skip a e O P4 (by have:=p.m h4;exact this) (by have:=p.t;omega) (λx q=>hw x (p.w x q)) _ λb g' st' a' e' O' Q G n' A'=>⟨b,rfl,?_⟩;have ab:=(S3.trans S4).trans G;refine hK b g' st' a' e' O' _ Q (Z.trans ab.j) (by have:=p.n;omega) (λ_=>H g' (ab.fr m ae λh=>A.2 h)) ?_;rw[S];cases U:val t.2 st.skip.skip with
 |inl x=>rw[U]at A';exact⟨A'.1,by rw[A'.2]⟩
 |inr x=>rw[U]at A';exact A'
 rw[za h7]at S;refine Xe P3 λg' Q G=>⟨Tb,rfl,hK Tb g' _ _ _ O σ Q (Z.trans (S3.trans G).j) (by rw[Zf];exact YM _) (λh=>(by cases h)) ?_⟩;rw[S];exact⟨rfl,rfl⟩
end
end
end Go.X
end
section
namespace Go.X
section
variable {h:zc} {sk si:Sl} {bk bb:List Nat} {b bv cv:Nat} {cs:Array Value} {K:Value -> zc -> Prop}
theorem OTp.row{v:Tr}{f:Nat->List Nat}(H:OTp h v sk si bk bb b cs f){h':zc}(k:∀c∈bb,h'[c]?=h[c]?):RowO h' si b cs 4:=by refine⟨by have:=H.hn;omega,?_⟩;rcases H.hz with⟨h0,_,l⟩|⟨e,i,m,n⟩;exact .inl ⟨by rw[H.hn.1,h0];rfl,l⟩;exact .inr ⟨i,m.keep (k b (by rw[e];simp)),n⟩
theorem KA(x:Tr)(sk si:Sl):∀u∈Qt x sk si,u.oneCell'=Ta:=by intro u b;simp[Qt]at b;rcases b with rfl|rfl|rfl|rfl <;> simp[Value.oneCell',aK]
theorem Kb{ks:List Bt}(H:OKeys h ks bk sk){s:Bt}(B:Blk h bv #[.string s])(y:ks.length<=1048576) (D:∀(f:Sl) (h':zc) (q:Nat),OKeys h' (ks++[s]) [q] f->(q∈bk\/h.size<=q)->h.size<=h'.size->(∀c,c<h.size->c∉bk->h'[c]?=h[c]?)->K (.slice f.a f.len f.cap) h'):
  xd Tp (YY #[22,22] 22 #[.slice sk.a sk.len sk.cap,.slice (Tc ⟨bv,0,Td⟩) 1 cv]) h K:=by
 obtain⟨n,E,F,r⟩:=H;obtain⟨b,cs,o,x,k⟩:∃b cs,RowO h sk b cs 1/\(b∈bk\/h.size<=b)/\cut cs 0 (sk.len*1)=ks.map ZD:=by rcases r with⟨rfl,rfl,h0⟩|⟨b,cs,rfl,A,i,p,C⟩;refine⟨h.size,#[],⟨by omega,.inl ⟨n,h0⟩⟩,.inr (YM _),?_⟩;rw[n];rfl;exact⟨b,cs,⟨by omega,.inr ⟨A,i,by omega⟩⟩,.inl (by simp),by rw[n,zb1];exact C⟩
 have z:∀c∈bk,c<h.size:=by intro c l;rcases r with⟨_,rfl,_⟩|⟨b,cs,rfl,_,i,_⟩;cases l;simp at l;subst l;exact i.lt
 refine sq (vs:=[.string s]) elemStr o B rfl (λu t=>by simp at t;subst t;simp[Value.oneCell']) (by omega) (by omega) λs' h' w cs' N=>?_;rw[k]at N;have m:(ks++[s]).length=sk.len+1:=by simp[n]
 refine D s' h' w ⟨by rw[m];exact N.len,by rw[m];omega,by rw[m];exact N.cap,.inr ⟨w,cs',rfl,N.a,N.blk,by have:=N.size;omega,?_⟩⟩ ?_ N.grow λc l y=>N.old c l λe=>?_;rw[m];have:=N.cut;rw[zb1]at this;rw[this];simp;rcases N.new with e|e;rw[e];exact x;exact .inr e;rcases N.new with i|i;rcases x with p|p;exact y (by rw[e,i];exact p);omega;omega
theorem WO{g h:zc}{x:Tr}{y:Nat->List Nat}(H:OTp g x sk si bk bb b cs y)(C:∀c∈bb,h[c]?=g[c]?){w:Tr}{q p:Sl}(A:Blk h bv (Qt w q p).toArray)(u:x.items.length<=1000000000) (B:∀(f:Sl) (h':zc) (i:Nat) (cs':Array Value),f.a=Tc ⟨i,0,Td⟩->f.len=x.items.length+1->x.items.length+1<=f.cap->Blk h' i cs'->f.cap*4<=cs'.size->cut cs' 0 ((x.items.length+1)*4)=cut cs 0 (x.items.length*4)++Qt w q p -> ((i=b/\b∈bb)\/h.size<=i)->h.size<=h'.size->(∀c,c<h.size->c∉bb->h'[c]?=h[c]?)->K (.slice f.a f.len f.cap) h'):
  xd Tp (YY #[23,23] 23 #[.slice si.a si.len si.cap,.slice (Tc ⟨bv,0,Td⟩) 1 cv]) h K:=by
 have k:=H.hn.1;obtain⟨b0,n,r⟩:∃b0,RowO h si b0 cs 4/\((b0=b/\b∈bb)\/b0=h.size):=by have l:=OTp.row H (h':=h) C;rcases H.hz with⟨h0,_,z⟩|⟨s,_⟩;exact⟨h.size,⟨l.le,.inl ⟨by rw[k,h0];rfl,z⟩⟩,.inr rfl⟩;exact⟨b,l,.inl ⟨rfl,by rw[s];simp⟩⟩
 refine sq (vs:=Qt w q p) sj n A rfl (KA w q p) (by omega) (by omega) λs' h' i cs' N=>?_;rw[k]at N;have m:(i=b/\b∈bb)\/h.size<=i:=by rcases N.new with e|e;rcases r with⟨o,t⟩|o;exact .inl ⟨by rw[e,o],t⟩;exact .inr (by omega);exact .inr e
 refine B s' h' i cs' N.a N.len N.cap N.blk N.size N.cut m N.grow λc D u=>N.old c D λe=>?_;rcases m with⟨o,t⟩|o;exact u (by rw[e,o];exact t);omega
end
section
variable {g':zc} {s:Bt} {bv cv:Nat} {K:zc -> Prop}
structure BT (lo hi:Nat) (g:zc) (b0:Nat) (v:Tr) (sk si:Sl) (bk bb:List Nat) (b:Nat) (cs:Array Value) (bf:Nat->List Nat):Prop where
 box:Blk g b0 (Qt v sk si).toArray
 p:OTp g v sk si bk bb b cs bf
 ok:∀c∈bk,lo<=c/\c<hi/\c≠b0
 ob:∀c∈bb,lo<=c/\c<hi/\c≠b0
 oi:∀i,i<v.items.length->∀c∈bf i,lo<=c/\c<hi/\c≠b0
 lb:lo<=b0
 hg:hi<=g.size
def Own(lo hi:Nat)(g:zc)(b0:Nat)(v:Tr)(sk si:Sl):Prop:=∃(bk bb:List Nat) (b:Nat) (cs:Array Value) (c:Nat->List Nat),BT lo hi g b0 v sk si bk bb b cs c
section
variable {lo hi : Nat} {g : zc} {b0 : Nat} {v : Tr} {sk si : Sl}
theorem Own.box(H:Own lo hi g b0 v sk si):Blk g b0 (Qt v sk si).toArray:=by obtain⟨bk,bb,b,cs,c,B⟩:=H;exact B.box
theorem BT.move{bk bb:List Nat}{b:Nat}{cs:Array Value}{e:Nat->List Nat}(B:BT lo hi g b0 v sk si bk bb b cs e)(f:∀c,c∈bk\/c∈bb\/(∃i,i<v.items.length/\c∈e i)->g'[c]?=g[c]?):OTp g' v sk si bk bb b cs e:= ⟨B.p.keys.frame λc k=>f c (.inl k),B.p.hn,by rcases B.p.hz with h|⟨h1,l,n,m⟩;exact .inl h;exact .inr ⟨h1,l,n.keep (f b (.inr (.inl (by rw[h1];simp)))),m⟩,λi hi=>(B.p.hi i hi).frame λc k=>f c (.inr (.inr ⟨i,hi,k⟩)),B.p.nk,B.p.d1,B.p.d2,B.p.d3,B.p.d4⟩
theorem Own.keep(H:Own lo hi g b0 v sk si)(k:Keep g.size g g'):Own lo hi g' b0 v sk si:=by obtain⟨bk,bb,b,cs,f,B⟩:=H;have l:=k.size;have h:=B.hg;refine⟨bk,bb,b,cs,f,B.box.ofKeep k,B.move λc e=>k.get c ?_,B.ok,B.ob,B.oi,B.lb,by omega⟩;rcases e with e|e|⟨i,hi,e⟩;have:=(B.ok c e).2.1;omega;have:=(B.ob c e).2.1;omega;have:=(B.oi i hi c e).2.1;omega
theorem Own.ot(H:Own lo hi g b0 v sk si):∃bs:List Nat,OT g v bs (Qt v sk si)/\∀c∈bs,lo<=c/\c≠b0:=by obtain⟨bk,bb,b,cs,f,B⟩:=H;refine⟨_,B.p.ot,λc e=>?_⟩;rcases Na.1 e with h|h|⟨i,hi,h⟩;exact⟨(B.ok c h).1,(B.ok c h).2.2⟩;exact⟨(B.ob c h).1,(B.ob c h).2.2⟩;exact⟨(B.oi i hi c h).1,(B.oi i hi c h).2.2⟩
theorem Own.new{k:Int}(B:Blk g b0 (Qt (.mk k s [] []) ⟨Td,0,0⟩ ⟨Td,0,0⟩).toArray)(h:lo<=b0)(e:hi<=g.size):Own lo hi g b0 (.mk k s [] []) ⟨Td,0,0⟩ ⟨Td,0,0⟩:= ⟨[],[],0,#[],λ_=>[],B,⟨⟨rfl,ZN _,ZN _,.inl ⟨rfl,rfl,rfl⟩⟩,⟨rfl,ZN _,ZN _⟩,.inl ⟨rfl,rfl,rfl⟩,λi hi=>absurd hi (Nat.not_lt_zero i),List.nodup_nil,λc b=>(by cases b),λc b=>(by cases b),λc b=>(by cases b),λi j hi=>absurd hi (Nat.not_lt_zero i)⟩,λc b=>(by cases b),λc b=>(by cases b),λi hi=>absurd hi (Nat.not_lt_zero i),h,e⟩
theorem vZ:qj Tp 22=Ta:=by kernel_rfl
theorem xT:yb Tp 22=1:=by kernel_rfl
theorem te:qj Tp 23=Ta:=by kernel_rfl
theorem sC:yb Tp 23=1:=by kernel_rfl
theorem Own.key(H:Own lo hi g b0 v sk si)(S:lo<=g.size)(y:v.keys.length<=1048576)(U:Blk g bv #[.string s]) (O:∀(g':zc) (s':Sl),Own lo g'.size g' b0 (.mk v.kind v.text (v.keys++[s]) v.items) s' si->Keep lo g g'->g.size<=g'.size->K g'):
  xd Tp (YY #[22,22] 22 #[.slice sk.a sk.len sk.cap,.slice (Tc ⟨bv,0,Td⟩) 1 cv]) g (λw D=>∃x:Sl,w=.slice x.a x.len x.cap/\XRunU Tp (YN 22 (.pointer (Tc ⟨b0,2,Td⟩)) (.slice x.a x.len x.cap)) D K):=by
 obtain⟨bk,bb,b,cs,A,B⟩:=H;refine Kb B.p.keys U y λs' D k I E z1 G=>⟨s',rfl,?_⟩;have C:=B.box.lt;have Y:=B.hg;have m:∀c∈bk,lo<=c/\c<g.size/\c≠b0:=λc f=>by have:=B.ok c f;exact⟨this.1,by omega,this.2.2⟩
 have n:∀c∈bb,lo<=c/\c<g.size/\c≠b0:=λc f=>by have:=B.ob c f;exact⟨this.1,by omega,this.2.2⟩
 have o:∀i,i<v.items.length->∀c∈A i,lo<=c/\c<g.size/\c≠b0:=λi hi c f=>by have:=B.oi i hi c f;exact⟨this.1,by omega,this.2.2⟩
 have t:b0∉bk:=λh=>(m b0 h).2.2 rfl;refine yr vZ xT (B.box.keep (G b0 C t)) (by show 2<4;omega) rfl λF P Z J=>?_;have M:k<D.size:=by obtain⟨_,_,_,h|⟨V,cs',e,_,h,_⟩⟩:=I;exact absurd h.1 (by simp);rw[za4]at e;rw[e.1];exact h.lt
 have r:lo<=k/\k≠b0:=by rcases E with h|h;exact⟨(m k h).1,(m k h).2.2⟩;exact⟨by omega,by omega⟩
 have q:∀c,c<g.size->c∉bk->c≠k:=λc f y e=>by subst e;rcases E with h|h;exact y h;omega
 have z:∀c,c<g.size->c∉bk->c≠b0->F[c]?=g[c]?:=λc f y h0=>(J c h0).trans (G c f y);have u:∀i,i<v.items.length->∀c∈A i,c∉bk:=λi hi c f h=>B.p.d2 c h i hi f;refine O F s' ⟨[k],bb,b,cs,A,P,⟨I.frame λc f=>J c ?_,B.p.hn,?_,λi hi=>(B.p.hi i hi).frame λc f=>z c (o i hi c f).2.1 (u i hi c f) (o i hi c f).2.2,by simp,λc f=>?_,λc f i hi l=>?_,B.p.d3,B.p.d4⟩,λc f=>?_,λc f=>?_,λi hi c f=>?_,B.lb,YM _⟩ ⟨by omega,λj hj=>z j (by omega) (λh=>?_) ?_⟩ (by omega);rw[zaf.1 f];exact r.2;rcases B.p.hz with h|⟨h1,L,Q,N⟩;exact .inl h;have l:b∈bb:=by rw[h1];simp
 exact .inr ⟨h1,L,Q.keep (z b (n b l).2.1 (λh=>B.p.d1 b h l) (n b l).2.2),N⟩;rw[zaf.1 f];intro l;exact q k (n k l).2.1 (λh=>B.p.d1 k h l) rfl;rw[zaf.1 f]at l;exact q k (o i hi k l).2.1 (u i hi k l) rfl;rw[zaf.1 f];exact⟨r.1,by omega,r.2⟩;have:=n c f;exact⟨this.1,by omega,this.2.2⟩;have:=o i hi c f;exact⟨this.1,by omega,this.2.2⟩;have:=(m j h).1;omega;have:=B.lb;omega
theorem Own.item(H:Own lo hi g b0 v sk si)(aa:lo<=g.size)(A:v.items.length<=1000000){w:Tr}{L I:Sl}(hv:Blk g bv (Qt w L I).toArray){bw:List Nat}(G:OT g w bw (Qt w L I))(Y:bv∉bw)(F:∀c∈bw,lo<=c/\c≠b0/\hi<=c) (hK:∀(g':zc) (s':Sl),Own lo g'.size g' b0 (.mk v.kind v.text v.keys (v.items++[w])) sk s'->Keep lo g g'->g.size<=g'.size->K g'):
  xd Tp (YY #[23,23] 23 #[.slice si.a si.len si.cap,.slice (Tc ⟨bv,0,Td⟩) 1 cv]) g (λu Q=>∃x:Sl,u=.slice x.a x.len x.cap/\XRunU Tp (YN 23 (.pointer (Tc ⟨b0,3,Td⟩)) (.slice x.a x.len x.cap)) Q K):=by
 obtain⟨bk,bb,b,cs,z,B⟩:=H;refine WO B.p (λc f=>rfl) hv (by omega) λs' Q l cs' e1 e2 e3 U V Z D z1 O=>⟨s',rfl,?_⟩;have M:=B.box.lt;have hg:=B.hg;have q:∀c∈bk,lo<=c/\c<g.size/\c≠b0:=λc f=>by have:=B.ok c f;exact⟨this.1,by omega,this.2.2⟩
 have s:∀c∈bb,lo<=c/\c<g.size/\c≠b0:=λc f=>by have:=B.ob c f;exact⟨this.1,by omega,this.2.2⟩
 have r:∀i,i<v.items.length->∀c∈z i,lo<=c/\c<g.size/\c≠b0:=λi hi c f=>by have:=B.oi i hi c f;exact⟨this.1,by omega,this.2.2⟩
 have o:∀c∈bw,c∉bk/\c∉bb/\∀i,i<v.items.length->c∉z i:=λc f=>by have h1:=(F c f).2.2;exact⟨λh=>by have:=(B.ok c h).2.1;omega,λh=>by have:=(B.ob c h).2.1;omega,λi hi h=>by have:=(B.oi i hi c h).2.1;omega⟩
 have C:b0∉bb:=λh=>(B.ob b0 h).2.2 rfl;refine yr te sC (B.box.keep (O b0 M C)) (by show 3<4;omega) rfl λJ u1 u2 P=>?_;have n:lo<=l/\l≠b0:=by rcases D with⟨h,m⟩|h;rw[h];exact⟨(s b m).1,(s b m).2.2⟩;exact⟨by omega,by omega⟩
 have t:∀c,c<g.size->c∉bb->c≠l:=λc f A e=>by subst e;rcases D with⟨h,m⟩|h;rw[h]at A;exact A m;omega
 have E:∀c,c<g.size->c∉bb->c≠b0->J[c]?=g[c]?:=λc f A h0=>(P c h0).trans (O c f A);have y:∀i,i<v.items.length->∀c∈z i,c∉bb:=λi hi c f h=>B.p.d3 c h i hi f;have N:=OTp.ins (h':=J) B.p (k:=v.items.length) (YM _) (w:=w) (bw:=bw) (cw:=Qt w L I) (G.frame λc f=>E c (G.lt c f) (o c f).2.1 (F c f).2.1) (λi hi c f=>E c (r i hi c f).2.1 (y i hi c f) (r i hi c f).2.2) e1 (U.keep (P l n.2)) e2 e3 V (by omega)
  (by
   have S:(cut cs 0 (v.items.length*4)).length<=v.items.length*4:=by unfold cut;rw[za0];omega
   rw[Z,zag S,zac S,ZY])
  (λi hi m=>t l (r i hi l m).2.1 (y i hi l m) rfl) (λm=>t l (G.lt l m) (o l m).2.1 rfl) (λc f i hi=>(o c f).2.2 i hi)
  (B.p.keys.frame λc f=>E c (q c f).2.1 (B.p.d1 c f) (q c f).2.2) B.p.nk (λm=>t l (q l m).2.1 (B.p.d1 l m) rfl) (λc f i hi=>B.p.d2 c f i hi) (λc f m=>(o c m).1 f)
 rw[ZO,zbm]at N;refine hK J s' ⟨bk,[l],l,cs',_,u1,N,λc f=>?_,λc f=>?_,λi hi c f=>?_,B.lb,YM _⟩ ⟨by omega,λj hj=>E j (by omega) (λh=>?_) ?_⟩ (by omega);have:=q c f;exact⟨this.1,by omega,this.2.2⟩;rw[zaf.1 f];exact⟨n.1,by have:=U.lt;omega,n.2⟩;have f:c∈(if i<v.items.length then z i else if i=v.items.length then bw else z (i-1)):=f;have hi:i<v.items.length+1:=by
  have:(v.items++[w]).length=v.items.length+1:=by simp
  rw[<-this];exact hi
 split at f;rename_i h;have:=r i h c f;exact⟨this.1,by omega,this.2.2⟩;rw[zb (by omega)]at f;have:=G.lt c f;exact⟨(F c f).1,by omega,(F c f).2.1⟩;have:=(s j h).1;omega;have:=B.lb;omega
end
end
end Go.X
end
section
namespace Go.X
open Go Go.X Go.Proofs Go.RowKit
section
variable {M:Fr} {g:zc} {s:Sl} {k b f:Nat} {t:Bs} {u:Value}
theorem PK(ag:AgM M g){xs:List Int}(H:Rd M (.row (.int .i64)) xs [aK s])(c:k<xs.length):∃b o,s.a=Tc ⟨b,o,Td⟩/\ze g ⟨b,o+k*1,Td⟩=Tc (.int .i64 xs[k]):=by obtain⟨b,o,cs,e,h,f⟩:=Go.X.rowAt H c;exact⟨b,o,e,nM ag h f⟩
theorem A9(ag:AgM M g){xs:List Nd}(H:Rd M (.row ie) xs [aK s])(u:k<xs.length):∃(b o:Nat) (ks ps:Sl),s.a=Tc ⟨b,o,Td⟩/\zd g ⟨b,o+k*7,Td⟩ 0 [.int .i64 xs[k].1,.int .i64 xs[k].2.1.1,.int .i64 xs[k].2.1.2,.int .i64 xs[k].2.2.1.1,.int .i64 xs[k].2.2.1.2,aK ks,aK ps]/\Rd M (.row (.int .i64)) xs[k].2.2.2.1 [aK ks]:=by
 obtain⟨b,o,cs,G,B,I⟩:=Go.X.rowAt H u;obtain⟨c1,O,y,m,c2,Q,L,⟨z,p,A,a2,f⟩,P,N,D,⟨r,F,C,l,h⟩,J,E,x,n,t⟩:=I;have m:c1=[.int .i64 xs[k].1]:=m;have a2:z=[.int .i64 xs[k].2.1.1]:=a2;have f:p=[.int .i64 xs[k].2.1.2]:=f;have l:r=[.int .i64 xs[k].2.2.1.1]:=l;have h:F=[.int .i64 xs[k].2.2.1.2]:=h;obtain⟨ks,rfl⟩:∃ks:Sl,J=[aK ks]:=by obtain⟨w,e,a,c,q,_⟩:=n;exact⟨⟨a,_,c⟩,by rw[e,q];rfl⟩
 obtain⟨ps,rfl⟩:∃ps:Sl,E=[aK ps]:=by obtain⟨w,e,a,c,q,_⟩:=t;exact⟨⟨a,_,c⟩,by rw[e,q];rfl⟩
 subst m a2 f l h A C x D L;refine⟨b,o,ks,ps,G,?_,n⟩;exact ku (o:=o+k*7) (i:=0) ag B (by rw[zco];exact y)
theorem Iu{nodes:List Nd}(h:RdV M mX (bl t,nodes) u):∃sl:Sl,u=.agg #[.string (bl t),aK sl]/\Rd M (.row ie) nodes [aK sl]:=by
 obtain⟨cs,rfl,c1,c2,rfl,b,f⟩:=h;have b:c1=[.string (bl t)]:=b;subst b;obtain⟨sl,rfl⟩:∃sl:Sl,c2=[aK sl]:=by obtain⟨w,e,a,c,q,_⟩:=f;exact⟨⟨a,_,c⟩,by rw[e,q];rfl⟩
 exact⟨sl,rfl,f⟩
theorem Uv{nodes:List Nd}{sl:Sl}(h:Rd M (.row ie) nodes [aK sl]):RdV M mX (bl t,nodes) (.agg #[.string (bl t),aK sl]):=⟨[.string (bl t),aK sl],rfl,[_],[_],rfl,rfl,h⟩
theorem T0{gl:Fr}(q:GL gl)(C:t.length<=65536){nodes:List Nd}{x:Nd}(z:nodes[k]?=Tc x){R:Bt->Prop}(h:R (bl (pa t x))):PC Tp gl 150 [Arg.mk mX (bl t,nodes),Arg.mk (.int .i64) (k:Int)] [.str] R:=by
 intro h0 M vs m ag A
 match vs,A with
 |[u1,u2],⟨a1,a2,_⟩=>obtain⟨sl,rfl,rd⟩:=Iu a1;obtain rfl:=yj (i:=(k:Int)) a2;obtain⟨u,rfl⟩:=ZH.1 z;apply PX.of;apply Oj (bl t) sl (k:Int);intro h1;have e:Later h0 M h1 M:=Later.push ag _;have n:Blk h1 h0.size #[.string (bl t),aK sl]:=Blk.new _ _ _;clear_value h1;obtain⟨b,o,ks,ps,B,l,_⟩:=A9 e.ag (rd.mono e.le) u;have D:=(rowLen rd).1;refine⟨bl t,sl,n.ld (cs:=[.string (bl t),aK sl]),sl,n.cellAdd (o:=0) (k:=1) rfl,⟨b,o,Td⟩,⟨B,by omega,by omega⟩,nodes[k].2.2.1.1,nodes[k].2.2.1.2,?_,?_⟩;simp only[zd,qo,Nat.add_assoc,Nat.reduceAdd,YO]at l ⊢;simp_all;refine(FN (gl:=gl) (t:=t) (nodes:=nodes) (p:=nodes[k].2.2.1) (R:=λr=>r=bl (w9 t nodes[k].2.2.1)) rfl).go (vs:=[.agg #[.string (bl t),aK sl],.agg #[.int .i64 nodes[k].2.2.1.1,.int .i64 nodes[k].2.2.1.2]]) (m.trans e.le) e.ag (zm (Uv (rd.mono e.le)) (zm (a:=Arg.mk i0 _) ⟨[_,_],rfl,[_],[_],rfl,rfl,rfl⟩ zz)) λw g M2 r L c f=>?_;subst f;refine⟨_,iP c,?_⟩;have:=Ds t nodes[k].2.2.1;refine(xM q (t:=w9 t nodes[k].2.2.1) (by omega) (R:=λr=>R r.1) h).go (vs:=[.string (bl (w9 t nodes[k].2.2.1))]) (m.trans (e.le.trans L.le)) L.ag (zm (a:=Arg.mk .str _) (rdStr _) zz) λw E y r s c f=>?_;exact⟨_,_,_,GD c,y,r.1,e.trans (L.trans s),Yu.2 (rdStr _),f⟩
theorem Uq:qj Tp 176=Ta:=by kernel_rfl
theorem LI:yb Tp 176=7:=by kernel_rfl
theorem No:qj Tp 25=Ta:=by kernel_rfl
theorem NX:yb Tp 25=4:=by kernel_rfl
theorem Yn{x y z w:Value}(B:Blk g b #[x,y,z,w]){k:Int}{s:Bt}{sk si:Sl}{K:zc->Prop}(f:∀g',(∀j,j≠b->g'[j]?=g[j]?)->g'.size=g.size->Blk g' b #[.int .i64 k,.string s,aK sk,aK si]->K g'):
  XRunU Tp (YN 25 (.pointer (Tc ⟨b,0,Td⟩)) (.agg #[.int .i64 k,.string s,aK sk,aK si])) g K:=by
 refine J5 (vs:=[.int .i64 k,.string s,aK sk,aK si]) No B rfl NX (YM _) (λu c=>?_) λg' e i h=>f g' h i e;simp at c;rcases c with rfl|rfl|rfl|rfl <;> rfl
def X7(t:Bs)(nodes:List Nd)(f:Nat)(x:Nd)(n:Nat):Tr:=.mk x.1 (bl (iL x.1 (w9 t x.2.1))) (if x.1=6 then(x.2.2.2.1.take n).map λc=>bl (pQ t nodes c)else []) ((x.2.2.2.1.take n).map λc=>kj t nodes f c.toNat)
theorem OA{nodes:List Nd}{x:Nd}(b:nodes[k]?=Tc x):X7 t nodes f x x.2.2.2.1.length=kj t nodes (f+1) k:=by unfold X7;rw[kj,b,ZO]
theorem Sg{nodes:List Nd}{x:Nd}{n:Nat}(b:n<x.2.2.2.1.length):X7 t nodes f x (n+1)=.mk x.1 (bl (iL x.1 (w9 t x.2.1))) (if x.1=6 then(X7 t nodes f x n).keys++[bl (pQ t nodes x.2.2.2.1[n])]else(X7 t nodes f x n).keys) ((X7 t nodes f x n).items++[kj t nodes f x.2.2.2.1[n].toNat]):=by unfold X7;rw[YP b,ZZ,ZZ];simp_all
section
variable {t : Bs} {nodes : List Nd} {lvs : List Nat} {gl : Fr}
theorem uP{u v:Value}(B:Blk g b #[u,v]):zd g ⟨b,0,Td⟩ 0 [u,v]:=B.ld (cs:=[u,v])
def My(F:FuncId)(t:Bs)(nodes:List Nd)(gl:Fr)(k:Nat)(c:List Value)(v:Tr):Prop:=
 ∀(h:zc) (M:Fr) (e:Sl),Fr.le gl M->AgM M h->Rd M (.row ie) nodes [aK e]->∀(K:Value->zc->Prop),(∀(h':zc) (bs:List Nat) (sk si:Sl),Keep h.size h h'->OT h' v bs (Qt v sk si)->(∀b∈bs,h.size<=b)->K (.agg #[.int .i64 v.kind,.string v.text,aK sk,aK si]) h') ->
  XC Tp F ([Value.agg #[.string (bl t),aK e],zdk .i64 (k:Int)]++c).toArray h K
set_option maxRecDepth 100000 in
set_option maxHeartbeats 4000000 in
theorem Cm(hg:GL gl)(ht:t.length<=65536)(G:GoodN lvs nodes)(bq:∀x∈nodes,x.2.2.2.1.length<=200000):∀(f k l:Nat) (L:Int),lvs[k]?=Tc l->33-l<=f->1<=L->L<=(l:Int)->My 89 t nodes gl k [.int .i64 L] (kj t nodes f k)
 |0,k,l,L,hl,hf,_,_=>by have:=G.lv k l hl;omega
 |f+1,k,l,L,hl,hf,hL1,hL2=>by
  intro h M J hM ag rd K hK;have aE:k<nodes.length:=by have:=(ZH.1 hl).1;have:=G.len;omega
  have hx:nodes[k]?=Tc nodes[k]:=YR aE;have cc:=G.lv k l hl;have ab:=G.kid k l nodes[k] hx hl;have bC:=bq _ (YW aE);generalize bA:nodes[k]=x at hx ab bC;have cp:=(rowLen rd).1;show XC Tp _ #[.agg #[.string (bl t),aK J],.int .i64 (k:Int),.int .i64 L] h K;apply Rf;intro h1 F;have k1:Keep h.size h h1:=Keep.push _ _ (YM _);have k2:Keep h1.size h1 F:=Keep.push _ _ (YM _);have z1:h1.size=h.size+1:=ZI _;have z2:F.size=h1.size+1:=ZI _;have D1:Blk h1 h.size #[.string (bl t),aK J]:=Blk.new _ _ _;have R2:Blk F h1.size #[.int .i64 0,.string ⟨#[]⟩,.slice Td 0 0,.slice Td 0 0]:=Blk.new _ _ _;clear_value h1 F;have aP:Keep h.size h F:=k1.trans (c:=F) (m:=h.size) ⟨k2.size,λj q=>k2.get j (by omega)⟩ (YM _);have D2:=D1.keep (k2.get h.size (by omega));have bB:=ag.keep aP;obtain⟨nb,no,ks,ps,e1,e2,e3⟩:=A9 bB rd aE;rw[bA]at e2 e3;have bY:=(rowLen e3).1;refine⟨J,by rw[qo];exact D2.cell rfl,_,⟨e1,by omega,by omega⟩,x.1,x.2.1.1,x.2.1.2,x.2.2.1.1,x.2.2.1.2,ks,ps,?_,?_⟩;rw[qo,YO];exact e2;intro bm;obtain⟨bV,cd,bE⟩:=jo (g:=bm) rfl;clear_value bm;refine J5 (vs:=gU (x,⟨ks,[],ps,[]⟩)) Uq bE rfl LI (YM _) (D4 _) λb z b6 bJ=>?_;have z:Blk b F.size #[.int .i64 x.1,.int .i64 x.2.1.1,.int .i64 x.2.1.2,.int .i64 x.2.2.1.1,.int .i64 x.2.2.1.2,aK ks,aK ps]:=z;have N:Keep F.size F b:=⟨by omega,λj q=>(bJ j (by omega)).trans (bV.get j q)⟩;have Z:Keep h.size h b:=aP.trans (c:=b) (m:=h.size) ⟨N.size,λj q=>N.get j (by omega)⟩ (YM _);have aH:=D2.keep (N.get h.size (by omega));have bG:=R2.keep (N.get h1.size (by omega));intro aV a7;have aS:∀(P:Nat) (Y:zc),b.size<=P->Keep b.size b Y->Blk Y P #[.int .i64 x.1,.string (bl (iL x.1 (w9 t x.2.1))),.slice Td 0 0,.slice Td 0 0]->aV ⟨P,0,Td⟩ Y:=by
   intro P Y bU aT a1;refine a7 ⟨P,0,Td⟩ Y ?_;have bP:=z.keep (aT.get F.size (by omega));have bO:=a1.lt;refine⟨ks,by rw[qo];exact bP.cell rfl,λi s=>∃(n:Nat) (sk si:Sl),i=(n:Int)/\n<=x.2.2.2.1.length/\Own b.size s.size s P (X7 t nodes f x n) sk si/\Keep b.size b s,λi _=>x.2.2.2.1.length-i.toNat,⟨0,⟨Td,0,0⟩,⟨Td,0,0⟩,rfl,by omega,?_,aT⟩,?_⟩;have e0:X7 t nodes f x 0=.mk x.1 (bl (iL x.1 (w9 t x.2.1))) [] []:=by unfold X7;simp
   rw[e0];exact Own.new a1 bU (YM _);rintro i s ⟨n,sk,si,rfl,hn,B,A⟩;have bn:=z.keep (A.get F.size (by omega));have be:=aH.keep (A.get h.size (by omega));have bQ:=bG.keep (A.get h1.size (by omega));have ax:Keep h.size h s:=Z.trans (c:=s) (m:=h.size) ⟨A.size,λj q=>A.get j (by omega)⟩ (YM _);have ay:=ag.keep ax;have co:=A.size;refine⟨λaa=>?_,λbT=>?_⟩;have aa:n<x.2.2.2.1.length:=by have:=zB aa;omega
   obtain⟨j,ej,ck,aA⟩:=ab _ (YW aa);have q:j<nodes.length:=by have:=(ZH.1 aA).1;have:=G.len;omega
   have b8:=G.lv j (l+1) aA;obtain⟨ib,io,f1,f2⟩:=PK ay e3 aa;rw[ej]at f2;refine⟨ks,by rw[qo];exact bn.cell rfl,_,⟨f1,by omega,by omega⟩,(j:Int),by rw[qo,YO];exact f2,J,λ_=>by rw[qo];exact be.cell rfl,?_⟩;have hc:(bif (bif (decide ((j:Int)<0))then Ta else(decide ((j:Int)>=((J.len:Nat):Int))))then Ta else(decide (L>32)))=Tb:=by rw[zE (by omega),zG,zE (by omega),zG,zE (by omega)]
   rw[hc];refine⟨λh=>(by cases h),λ_=>?_⟩;intro bS bg;have a8:nodes[j]?=Tc nodes[j]:=YR q;have aU:pQ t nodes x.2.2.2.1[n]=pa t nodes[j]:=by unfold pQ;rw[ej,YO,a8]
   have ah:=Sg (t:=t) (nodes:=nodes) (f:=f) aa;rw[aU,ej,YO]at ah;have body:∀(o:zc) (aC:List Bt) (aF:Sl),aC=(if x.1=6 then(X7 t nodes f x n).keys++[bl (pa t nodes[j])]else(X7 t nodes f x n).keys)->Own b.size o.size o P (.mk x.1 (bl (iL x.1 (w9 t x.2.1))) aC (X7 t nodes f x n).items) aF si->Keep b.size b o->bS o:=by
    intro o aC aF bF aJ ae;refine bg o ?_;have b9:=ae.size;have bM:=aH.keep (ae.get h.size (by omega));have bo:Keep h.size h o:=Z.trans (c:=o) (m:=h.size) ⟨ae.size,λj q=>ae.get j (by omega)⟩ (YM _);have ai:=aJ.box.lt;refine⟨si,by rw[qo];exact aJ.box.cell rfl,bl t,J,uP bM,?_⟩;rw[cR (by omega)];refine Cm hg ht G bq f j (l+1) (L+1) aA (by omega) (by omega) (by omega) o M J hM (ag.keep bo) rd _ λca bw wk wi ar ow aB=>⟨_,_,_,_,rfl,?_⟩;have cu:=ar.size;refine⟨by rw[qo];exact ar.get P ai,?_⟩;intro S;obtain⟨au,cb,bL⟩:=jo (g:=S) rfl;clear_value S;refine⟨by rw[qo];exact(au.get P (by omega)).trans (ar.get P ai),?_⟩;have D:Keep o.size o S:=ar.trans (c:=S) (m:=o.size) ⟨au.size,λj q=>au.get j (by omega)⟩ (YM _);have aY:Keep b.size b S:=ae.trans (c:=S) (m:=b.size) ⟨D.size,λj q=>D.get j (by omega)⟩ (YM _);have aM:(X7 t nodes f x n).items.length<=1000000:=by unfold X7;simp;omega
    rw[qo];refine Own.item (aJ.keep D) (by omega) aM bL (ow.frame λc hc=>au.get c (ow.lt c hc)) (λhm=>by have:=ow.lt _ hm;omega) (λc hc=>⟨by have:=aB c hc;omega,by have:=aB c hc;omega,aB c hc⟩) λg' s2 O' k' z'=>⟨⟨n+1,aF,s2,by rw[cR (by omega)];omega,by omega,?_,aY.trans (c:=g') (m:=b.size) k' (YM _)⟩,?_⟩;rw[ah,<-bF];exact O';show x.2.2.2.1.length-(YJ .i64 ((n:Int)+1)).toNat<x.2.2.2.1.length-(n:Int).toNat;rw[cR (by omega)];omega
   refine⟨x.1,by rw[qo];exact bn.cell rfl,λh6=>?_,λh6=>?_⟩;have h6:x.1=6:=by simpa using h6
   have af:=B.box.lt;refine⟨sk,by rw[qo];exact B.box.cell rfl,bl t,J,uP be,?_⟩;refine(T0 hg ht (nodes:=nodes) (k:=j) a8 (R:=λr=>r=bl (pa t nodes[j])) rfl).go hM ay (zm (a:=Arg.mk mX _) ⟨[.string (bl t),aK J],rfl,[.string (bl t)],[aK J],rfl,rfl,rd⟩ (zm (a:=Arg.mk (.int .i64) _) (Z2 _ _) zz)) λv b7 M' r Lt hv hr=>⟨r,iP hv,?_⟩;subst hr;have ap:=Lt.keep;have cm:=ap.size;refine⟨by rw[qo];exact ap.get P af,?_⟩;intro V;obtain⟨aG,cg,bD⟩:=jo (g:=V) rfl;clear_value V;refine⟨by rw[qo];exact(aG.get P (by omega)).trans (ap.get P af),?_⟩;have C:Keep s.size s V:=ap.trans (c:=V) (m:=s.size) ⟨aG.size,λj q=>aG.get j (by omega)⟩ (YM _);have br:Keep b.size b V:=A.trans (c:=V) (m:=b.size) ⟨C.size,λj q=>C.get j (by omega)⟩ (YM _);have ba:(X7 t nodes f x n).keys.length<=1048576:=by unfold X7;simp[h6];omega
   rw[qo];refine Own.key (B.keep C) (by omega) ba bD λg' s2 O' k' z'=>body g' _ s2 (by rw[zb h6]) O' (br.trans (c:=g') (m:=b.size) k' (YM _));have h6:¬x.1=6:=by simpa using h6
   exact body s (X7 t nodes f x n).keys sk (by rw[za h6]) B A;have bu:n=x.2.2.2.1.length:=by have:=zC bT;omega
   subst bu;have eN:=OA (t:=t) (f:=f) hx;rw[eN]at B;refine⟨_,_,sk,si,B.box.ld (cs:=Qt _ sk si),?_⟩;refine Yn bQ λg2 f2 z2 B2=>⟨_,_,sk,si,B2.ld (cs:=[_,_,aK sk,aK si]),?_⟩;obtain⟨bs,ot,aL⟩:=B.ot;refine hK g2 bs sk si (ax.trans (c:=g2) (m:=h.size) ⟨by omega,λj q=>f2 j (by omega)⟩ (YM _)) (ot.frame λc hc=>f2 c (by have:=(aL c hc).1;omega)) λc hc=>by have:=(aL c hc).1;omega
  have cn:=Ds t x.2.1;have bh:∀{g:zc} {Q:Value->zc->Prop},AgM M g->(∀g',Keep g.size g g'->Q (.string (bl (w9 t x.2.1))) g')->XC Tp 149 #[.agg #[.string (bl t),aK J],.agg #[.int .i64 x.2.1.1,.int .i64 x.2.1.2]] g Q:=λ {g Q} agg hQ=>by refine(FN (gl:=gl) (t:=t) (nodes:=nodes) (p:=x.2.1) (R:=λr=>r=bl (w9 t x.2.1)) rfl).go hM agg (zm (a:=Arg.mk mX _) ⟨[.string (bl t),aK J],rfl,[.string (bl t)],[aK J],rfl,rfl,rd⟩ (zm (a:=Arg.mk i0 _) ⟨[.int .i64 x.2.1.1,.int .i64 x.2.1.2],rfl,_,_,rfl,rfl,rfl⟩ zz)) λv g' M' r L hv hr=>?_;subst hr;rw[iP hv];exact hQ g' L.keep
  have aI:∀{g:zc} {Q:Value->zc->Prop},AgM M g->(∀g',Keep g.size g g'->Q (.string (bl (iL x.1 (w9 t x.2.1)))) g')->XC Tp 148 #[.int .i64 x.1,.string (bl (w9 t x.2.1))] g Q:=λ {g Q} agg hQ=>by refine(WP hg (k:=x.1) (t:=w9 t x.2.1) (by omega) (R:=λr=>r=bl (iL x.1 (w9 t x.2.1))) rfl).go hM agg (zm (a:=Arg.mk (.int .i64) _) (Z2 _ _) (zm (a:=Arg.mk .str _) (rdStr _) zz)) λv g' M' r L hv hr=>?_;subst hr;rw[iP hv];exact hQ g' L.keep
  have y:=ag.keep Z;have u:∀(hh hA:zc),Keep b.size b hh->Keep hh.size hh hA->Blk hA hh.size #[.int .i64 0,.string ⟨#[]⟩,.slice Td 0 0,.slice Td 0 0]->XRunU Tp (YN 25 (.pointer (Tc ⟨hh.size,0,Td⟩)) (.agg #[.int .i64 x.1,.string (bl (iL x.1 (w9 t x.2.1))),.slice Td 0 0,.slice Td 0 0])) hA (λg=>aV ⟨hh.size,0,Td⟩ g):=λhh hA kh kA BA=>
   Yn (sk:=⟨Td,0,0⟩) (si:=⟨Td,0,0⟩) BA λg2 f2 z2 B2=>aS hh.size g2 kh.size (kh.trans (c:=g2) (m:=b.size) ⟨by have:=kh.size;have:=kA.size;omega,λj q=>by have:=kh.size;rw[f2 j (by omega)];exact kA.get j (by omega)⟩ (YM _)) B2
  have O:∀{g:zc},Keep b.size b g->g[F.size]?=b[F.size]?:=λk=>k.get F.size (by omega);refine⟨x.1,by rw[qo];exact z.cell rfl,x.1,by rw[qo];exact z.cell rfl,bl t,J,uP aH,x.2.1.1,x.2.1.2,?_,bh y λbN e=>⟨_,rfl,by rw[qo];exact O e,by rw[qo];exact O e,aI (y.keep e) λw U=>⟨_,rfl,?_,?_,?_⟩,?_⟩,?_⟩;rw[qo];exact⟨by rw[qo];exact z.cell rfl,by rw[qo];exact z.cell rfl,trivial⟩;rw[qo];exact O (e.trans (c:=w) (m:=b.size) ⟨U.size,λj q=>U.get j (by have:=e.size;omega)⟩ (YM _));intro bH;have kk:Keep b.size b w:=e.trans (c:=w) (m:=b.size) ⟨U.size,λj q=>U.get j (by have:=e.size;omega)⟩ (YM _);exact u w bH kk (Keep.push _ _ (YM _)) (Blk.new _ _ _);intro aQ;have kk:Keep b.size b w:=e.trans (c:=w) (m:=b.size) ⟨U.size,λj q=>U.get j (by have:=e.size;omega)⟩ (YM _);have aN:Keep w.size w aQ:=Keep.push _ _ (YM _);refine⟨by rw[qo];exact(aN.get F.size (by have:=kk.size;omega)).trans (O kk),?_⟩;exact u w aQ kk aN (Blk.new _ _ _);intro an;obtain⟨az,cy,bz⟩:=jo (g:=an) rfl;clear_value an;have cj:=e.size;have I:Keep b.size b an:=e.trans (c:=an) (m:=b.size) ⟨az.size,λj q=>az.get j (by omega)⟩ (YM _);refine⟨by rw[qo];exact O I,by rw[qo];exact O I,aI (y.keep I) λbj am=>⟨_,rfl,?_,?_⟩⟩;rw[qo];exact O (I.trans (c:=bj) (m:=b.size) ⟨am.size,λj q=>am.get j (by omega)⟩ (YM _));exact u bN bj e ⟨by have:=am.size;omega,λj q=>by rw[am.get j (by omega)];exact az.get j q⟩ (bz.keep (am.get _ (by omega)));intro aZ;obtain⟨E,cq,bI⟩:=jo (g:=aZ) rfl;clear_value aZ;refine⟨by rw[qo];exact O E,E.get h.size (by omega),by rw[qo];exact O E,by rw[qo];exact O E,bh (y.keep E) λa6 aj=>⟨_,rfl,?_⟩⟩;have bZ:=aj.size;have H:Keep b.size b a6:=E.trans (c:=a6) (m:=b.size) ⟨aj.size,λj q=>aj.get j (by omega)⟩ (YM _);refine⟨by rw[qo];exact O H,by rw[qo];exact O H,aI (y.keep H) λaO ak=>⟨_,rfl,?_,?_⟩⟩;rw[qo];exact O (H.trans (c:=aO) (m:=b.size) ⟨ak.size,λj q=>ak.get j (by omega)⟩ (YM _));exact u b aO (Keep.refl _ _) ⟨by have:=ak.size;omega,λj q=>by rw[ak.get j (by omega),aj.get j (by omega)];exact E.get j q⟩ ((bI.keep (aj.get _ (by omega))).keep (ak.get _ (by omega)))
end
end
section
theorem XD:qj Tp 78=Ta:=by kernel_rfl
theorem Pp:yb Tp 78=3:=by kernel_rfl
section
variable {t : Bs} {nodes : List Nd} {lvs : List Nat} {gl : Fr}
end
end
section
theorem Fq:ElemT Tp 22 9 (.string ⟨#[]⟩) (sz .str) 16:=⟨by kernel_rfl,⟨Tryz.t9,by kernel_rfl,by kernel_rfl,by kernel_rfl,by kernel_rfl⟩,rfl,by decide⟩
section
variable {lo : Nat} {g : zc} {M gl : Fr} {bp : Nat} {s : Bs} {l : List Tk} {st : PSt} {a e : Int} {O : Nat -> Prop} {K : Value -> zc -> Prop} {val : gj}
end
end
section
theorem MN:ElemT Tp 112 176 (.agg #[.int .i64 0,.int .i64 0,.int .i64 0,.int .i64 0,.int .i64 0,.slice Td 0 0,.slice Td 0 0]) 7 88:=⟨by kernel_rfl,⟨Tryz.t176,by kernel_rfl,by kernel_rfl,by kernel_rfl,by kernel_rfl⟩,rfl,by decide⟩
theorem Tq:qj Tp 112=Ta:=by kernel_rfl
theorem RZ:yb Tp 112=1:=by kernel_rfl
theorem N7:qj Tp 105=Ta:=by kernel_rfl
theorem Us:yb Tp 105=1:=by kernel_rfl
section
variable {lo : Nat} {M gl : Fr} {bp : Nat} {s : Bs}
set_option maxRecDepth 100000 in
set_option maxHeartbeats 4000000 in
theorem Ri(hg:GL gl)(hM:Fr.le gl M)(hs:s.length<=65536):∀d:Nat,d<=32->zH lo M bp s (33-(d:Int)) (ft s d):=by
 intro d;induction d with
 |zero=>intro hd key g st a e O P h4 hT hw K hK;apply Qu;intro h1 Y;have k1:Keep g.size g h1:=Keep.push _ _ (YM _);have k2:Keep h1.size h1 Y:=Keep.push _ _ (YM _);have z1:h1.size=g.size+1:=ZI _;have B1:Blk h1 g.size #[.pointer (Tc ⟨bp,0,Td⟩)]:=Blk.new _ _ _;clear_value h1 Y;have q:Keep g.size g Y:=k1.trans k2 (by omega);have B2:=B1.keep (k2.get g.size (by omega));refine⟨_,B2.cell rfl,rI (P.keep q) ⟨_,rfl,?_⟩⟩;refine(Hv (k:=st.kind) (R:=λr=>r=Z3 st.kind) rfl).go hM (P.keep q).ag (zm (a:=Arg.mk (.int .i64) _) (Z2 _ _) zz) λv h8 M' r L hv hr=>⟨r,i3 hv,?_⟩;subst hr;have B:=L.keep;have k8:Keep g.size g h8:=q.trans B q.size;have H:=B2.keep (B.get g.size (by have:=q.size;have:=k2.size;omega));refine⟨λu=>⟨_,H.cell rfl,?_⟩,λu=>⟨λhy=>⟨_,H.cell rfl,?_⟩,λhy=>?_⟩⟩;refine Xe (P.keep k8) λg' E n=>⟨Tb,rfl,hK Tb g' st _ _ O E ((Stp.keep (O:=O) k8).trans n) (YM _) ?_⟩;rw[ft,zb (by simpa using u)];exact⟨rfl,rfl⟩;refine Xe (P.keep k8) λg' E n=>⟨Tb,rfl,hK Tb g' st _ _ O E ((Stp.keep (O:=O) k8).trans n) (YM _) ?_⟩;rw[ft,za (by simpa using u)];exact⟨rfl,rfl⟩;exact absurd (zC hy) (by omega)
 |succ d ih=>
  intro hd key g st a e O P h4 hT hw K hK;have ih:=ih (by omega);have aE:=pB s d;apply Qu;intro h1 Y;have k1:Keep g.size g h1:=Keep.push _ _ (YM _);have k2:Keep h1.size h1 Y:=Keep.push _ _ (YM _);have z1:h1.size=g.size+1:=ZI _;have z2:Y.size=h1.size+1:=ZI _;have B1:Blk h1 g.size #[.pointer (Tc ⟨bp,0,Td⟩)]:=Blk.new _ _ _;have Bk2:Blk Y h1.size #[.int .i64 key.1,.int .i64 key.2]:=Blk.new _ _ _;clear_value h1 Y;have q:Keep g.size g Y:=k1.trans k2 (by omega);have B2:=B1.keep (k2.get g.size (by omega));refine⟨_,B2.cell rfl,rI (P.keep q) ⟨_,rfl,?_⟩⟩;refine(Hv (k:=st.kind) (R:=λr=>r=Z3 st.kind) rfl).go hM (P.keep q).ag (zm (a:=Arg.mk (.int .i64) _) (Z2 _ _) zz) λv h8 M' r L hv hr=>⟨r,i3 hv,?_⟩;subst hr;have B:=L.keep;have k8:Keep g.size g h8:=q.trans B q.size;have z8:Y.size<=h8.size:=B.size;have H:=B2.keep (B.get g.size (by omega));have bu:=Bk2.keep (B.get h1.size (by omega));have P8:=P.keep k8;have S8:Stp g O h8 O:=Stp.keep k8;refine⟨λu=>⟨_,H.cell rfl,?_⟩,λu=>⟨λhy=>?_,λhy=>?_⟩⟩;refine Xe P8 λg' E n=>⟨Tb,rfl,hK Tb g' st _ _ O E (S8.trans n) (YM _) ?_⟩;rw[ft,zb (by simpa using u)];exact⟨rfl,rfl⟩;have:=zB hy;omega;have u:¬Z3 st.kind=0:=by simpa using u
  have Z:=vF u;obtain⟨t,r,er⟩:=za3 Z;have br:=P8;obtain⟨rs,lf,na,sl,b,cs,W,ay,eO⟩:=br;have aN:na.length=st.nodes.length:=by rw[<-ay,ZA]
  have ae:sl.len=st.nodes.length:=by rw[W.ns.len,aN]
  refine⟨_,H.cell rfl,_,rfl,sl,by rw[qo];exact W.blk.cell rfl,?_⟩;rw[ae];refine⟨λhz=>⟨_,H.cell rfl,?_⟩,λhz=>?_⟩;refine Xe P8 λg' E n=>⟨Tb,rfl,hK Tb g' st _ _ O E (S8.trans n) (YM _) ?_⟩;have hz:st.nodes.length=4096:=by have:=zB hz;omega
  rw[ft,za u,zb hz];exact⟨rfl,rfl⟩;have hz:¬st.nodes.length=4096:=λh=>by simp_all
  have eV:ft s (d+1) key st=match i5 s (ft s d) st.nodes.length (Z3 st.kind) (st.open key)with
   |.inl st'=>.inl (st'.setTo st.nodes.length)
   |.inr e=>.inr e:=by rw[ft,za u,za hz];try rfl
  have rd:=W.rd;have hl:=(rowLen W.rd).1;rw[er]at rd hl;rw[ZV]at hl;obtain⟨tb,o,e1,e2,e3,e4⟩:=ng W.ag rd (k:=0) (by simp);have be:st.kind=t.1:=by unfold PSt.kind;rw[er]
  have aS:bp<h8.size:=W.blk.lt;have aH:∀c,O c->c<g.size:=λc h=>(P.own h).2.1;refine⟨_,H.cell rfl,_,rfl,sl,by rw[qo];exact W.blk.cell rfl,_,H.cell rfl,_,H.cell rfl,_,rfl,sl,by rw[qo];exact W.blk.cell rfl,_,H.cell rfl,_,rfl,rs,by rw[qo];exact W.blk.cell rfl,_,⟨e1,by omega,by omega⟩,t.2.1,t.2.2,?_,key.1,key.2,bu.ld (cs:=[.int .i64 key.1,.int .i64 key.2]),rfl,rfl,rfl,?_⟩;rw[qo,qo];exact⟨by rw[qo];exact e3,by rw[qo];exact e4,trivial⟩;intro S;obtain⟨A,bN,a7⟩:=jo (g:=S) rfl;clear_value S;refine⟨by rw[qo];exact A.get bp aS,A.get g.size (by omega),A.get g.size (by omega),?_⟩;have aQ:NSt lo h8 M na sl b S na cs:=⟨W.ns.frame A.size λc hc=>A.get c (W.ns.own hc).2.1,A.size,λc h=>.inl h,λj F _=>A.get j F⟩;obtain⟨C,ba⟩:=W.nst aQ;have an:lo<=S.size:=by have:=(C.own (.inl rfl));omega
  refine NS.push MN (by omega) C.ag an C.ns (x:=(Z3 st.kind,t.2,key,[],[])) rfl rfl a7 (by omega) λs' bM b' cs' aJ bG aC aa=>⟨s',rfl,_,rfl,?_⟩;have bq:¬gp na sl b g.size:=λh=>by have:=aH g.size (by rw[eO];exact .inr h);omega
  refine⟨(aa g.size (by omega) bq).trans (A.get g.size (by omega)),?_⟩;rw[qo];have ak:¬gp (na++[((Z3 st.kind,t.2,key,[],[]),gA)]) s' b' bp:=λh=>by rcases aC bp h with h|h;exact W.nb h;omega
  have aA:=C.blk.keep (aa bp (by omega) C.nb);refine yr Tq RZ aA (by show 4<7;omega) rfl λah u1 u2 u3=>?_;have bh:PW lo ah M bp s st.rest st.last a e rs lf (na++[((Z3 st.kind,t.2,key,[],[]),gA)]) s' b' cs':=by refine⟨u1,W.rd,aJ.frame (by omega) λc hc=>u3 c λh=>ak (h ▸ hc),pe C.ag λj F hm=>?_,W.bl,ak⟩;rw[u3 j λh=>hm (h ▸ W.bl.2)];exact aa j F λh=>hm (C.ns.own h).2.2
  have aI:Stp S (hG bp na sl b) ah (hG bp (na++[((Z3 st.kind,t.2,key,[],[]),gA)]) s' b'):=by refine⟨by omega,λc h=>?_,λj F hn=>?_⟩;rcases h with h|h;exact .inl (.inl h);rcases aC c h with h|h;exact .inl (.inr h);exact .inr h;rw[u3 j λh=>hn (.inl h)];exact aa j F λh=>hn (.inr h)
  have aB:PaS lo ah M bp s ⟨st.rest,st.last,st.nodes++[(Z3 st.kind,t.2,key,[],[])]⟩ a e (hG bp (na++[((Z3 st.kind,t.2,key,[],[]),gA)]) s' b'):=⟨rs,lf,_,_,_,_,bh,by simp_all,rfl⟩;have G:Stp h8 O ah (hG bp (na++[((Z3 st.kind,t.2,key,[],[]),gA)]) s' b'):=by rw[eO];exact ba.trans aI
  generalize hG bp (na++[((Z3 st.kind,t.2,key,[],[]),gA)]) s' b'=O45 at aB G;have ab:¬O g.size:=λh=>by grind
  have aM:=H.keep (G.fr g.size (by omega) ab);refine⟨_,aM.cell rfl,AF aB Z λf I a8=>⟨rfl,?_⟩⟩;have aG:(⟨st.rest,st.last,st.nodes++[(Z3 st.kind,t.2,key,[],[])]⟩:PSt).skip=st.open key:=by unfold PSt.skip PSt.open;rw[be];dsimp only;rw[er]
  rw[aG]at I;have z:=G.trans a8;have a6:=z.le;have aj:∀c,c<h8.size->¬O c->¬O45 c:=λc hc hn h=>by rcases G.sub c h with h|h;exact hn h;omega
  have ai:=H.keep (z.fr g.size (by omega) ab);have U:=EQ (key:=key) Z hz;have aO:(st.open key).nodes.length=st.nodes.length+1:=uy Z;intro aY ap;have fin:∀(bb:Bool) (g':zc) (st':PSt) (a' e':Int) (O':Nat->Prop),PaS lo g' M bp s st' a' e' O'->Stp g O g' O'->(st.open key).nodes.length<=st'.nodes.length->g'[g.size]?=f[g.size]?->Ac (i5 s (ft s d) st.nodes.length (Z3 st.kind) (st.open key)) bb st' a' e'->aY bb g':=by
   intro bb g' st' a' e' O' E n n' bj V;refine ap bb g' ?_;have B':=ai.keep bj;obtain⟨bH,bI,az,aP,b1,bD,W1,Q,bL⟩:=E;have aF:st.nodes.length<az.length:=by
    have:az.length=st'.nodes.length:=by rw[<-Q,ZA]
    omega
   obtain⟨q1,q2,q3,q4,q5⟩:=W1.ns.cell aF;refine⟨_,B'.cell rfl,_,rfl,aP,by rw[qo];exact W1.blk.cell rfl,_,B'.cell rfl,_,rfl,st'.last,by rw[qo,qo];exact W1.blk.cell rfl,⟨b1,0,Td⟩,⟨q1,by omega,by have:=W1.ns.len;omega⟩,?_⟩;rw[qo,qo,qo,YO,ZP,ae];refine yr HW Cs q2 (by omega) rfl λg2 u1 u2 u3=>?_;obtain⟨W2,S2⟩:=W1.nst (W1.ns.toB aF u1 u2 u3);refine hK bb g2 (st'.setTo st.nodes.length) a' e' _ ⟨_,_,_,_,_,_,W2,?_,rfl⟩ (n.trans (by grind)) (by rw[xA];omega) ?_;rw[wP (f':=nn st'.last) (λp=>rfl),Q];rfl;rw[eV];cases hr:i5 s (ft s d) st.nodes.length (Z3 st.kind) (st.open key)with
   |inl x=>rw[hr]at V;exact⟨V.1,by rw[V.2]⟩
   |inr x=>rw[hr]at V;exact V
  have au:YJ .i64 (33-((d+1:Nat):Int)+1)=33-(d:Int):=by rw[cR (by omega)];omega
  have bJ:=U.t;refine⟨λh5=>⟨_,ai.cell rfl,_,ai.cell rfl,?_⟩,λh5=>⟨λh6=>?_,λh6=>?_⟩⟩;have h5:Z3 st.kind=5:=by simpa using h5
  refine BV (J:=λ_=>False) (D:=λ_=>False) (HI:=λ_ _=>True) (kid:=i6 (ft s d)) (λ_ _ _ _ _=>trivial) au (IK ih) (Dz aE) (by kernel_rfl) (by omega) I trivial (λj F=>F.elim) (U.m h4) (by omega) (λx u=>hw x (U.w x u)) (by omega) λbb g' st' a' e' O' E n n' V=>⟨bb,rfl,fin bb g' st' a' e' O' E ?_ n' ?_ ?_⟩;exact(S8.trans z).trans ⟨n.le,n.sub,λj F hn=>n.fr j F hn (λh=>h)⟩;exact n.fr g.size (by omega) (aj _ (by omega) ab) (λh=>h);rw[ae]at V;unfold i5;grind;have h5:¬Z3 st.kind=5:=by simpa using h5
  have h6:Z3 st.kind=6:=by simpa using h6
  intro i af;have aV:Keep f.size f i:=Keep.push _ _ (YM _);have ar:Keep i.size i af:=Keep.push _ _ (YM _);have bB:i.size=f.size+1:=ZI _;have bC:af.size=i.size+1:=ZI _;have bn:MapAt i f.size []:=MapAt.new _;have aU:Blk af i.size #[.map Td]:=Blk.new _ _ _;clear_value i af;refine yr N7 Us aU (by simp) rfl λam u1 u2 u3=>?_;have N:Keep f.size f am:=⟨by omega,λj F=>by rw[u3 j (by omega),ar.get j (by omega),aV.get j F]⟩;have bm:MapAt am f.size []:=(bn.keep (ar.get _ (by omega))).keep (u3 _ (by omega));have bo:=I.keep N;have ax:=ai.keep (N.get g.size (by omega));have bF:Stp f O45 am O45:=Stp.keep N;have bA:∀c,O45 c->c<f.size:=λc h=>(I.own h).2.1;have bg:∀c,g.size<=c->M c=Td:=λc hc=>by
   cases e:M c with
   |none=>rfl
   |some x=>have:=P.ag.lt e;omega
  refine⟨_,ax.cell rfl,?_⟩;refine BV (J:=λj=>j=f.size) (D:=λj=>j=g.size\/j=i.size\/j=f.size) (HI:=λσ g'=>Blk g' g.size #[.pointer (Tc ⟨bp,0,Td⟩)]/\Blk g' i.size #[.map (Tc f.size)]/\tv f.size σ g') (kid:=gS s (ft s d)) (λσ x y u hf=>⟨u.1.keep (hf _ (.inl rfl)),u.2.1.keep (hf _ (.inr (.inl rfl))),?_⟩) au ?_ (Df aE) (by kernel_rfl) (by omega) bo ⟨ax,u1,[],bm,λk=>rfl⟩ (λj F=>?_) (U.m h4) (by omega) (λx u=>hw x (U.w x u)) (by omega) λbb g' st' a' e' O' E n n' V=>⟨bb,rfl,fin bb g' st' a' e' O' E ?_ n' ?_ ?_⟩;obtain⟨l,ml,mk⟩:=u.2.2;exact⟨l,ml.keep (hf _ (.inr (.inr rfl))),mk⟩;intro σ x bE a1 e1 O1 P1 I1 J1 bz aT aL K1 aZ;show XC Tp _ #[.int .i64 (33-(d:Int)),.pointer (Tc ⟨g.size,0,Td⟩),.pointer (Tc ⟨i.size,0,Td⟩)] x K1;apply X5;refine⟨_,I1.1.cell rfl,_,I1.2.1.cell rfl,?_⟩;refine U3 hg hM hs ih (J:=λj=>j=g.size\/j=i.size\/j=f.size) (.inr (.inr rfl)) P1 I1.2.2 J1 bz aT aL (λj F=>bg j (by omega)) λbb g' st' a' e' O' σ' E n n' H' V=>⟨bb,rfl,aZ bb g' st' a' e' O' σ' E n n' (λhb=>⟨I1.1.keep ?_,I1.2.1.keep ?_,H' hb⟩) V⟩;have:=J1 g.size (.inl rfl);exact n.fr _ this.1 this.2 (by omega);have:=J1 i.size (.inr (.inl rfl));exact n.fr _ this.1 this.2 (by omega);grind;refine(S8.trans z).trans ⟨by have:=n.le;omega,λc h=>?_,λj F hn=>?_⟩;rcases n.sub c h with h|h;exact .inl h;omega;rw[n.fr j (by omega) hn (by omega)];exact N.get j F;rw[n.fr g.size (by omega) (aj _ (by omega) ab) (by omega)];exact N.get _ (by omega);rw[ae]at V;unfold i5;grind;have h5:¬Z3 st.kind=5:=by simpa using h5
  have h6:¬Z3 st.kind=6:=by simpa using h6
  refine fin Ta f (st.open key) a e O45 I (S8.trans z) (YM _) rfl ?_;unfold i5;rw[za h5,za h6];exact⟨rfl,rfl⟩
end
end
section
variable {s:Bs} {f a t:Nat} {k:Int}
theorem TkS.frame{h:zc}{M:Fr}{b2 b3 b4 b5 bc D l:Nat}{rec:fW}{out:List Tk}{sl:Sl}{bs:List Nat}{g g':zc}(S:TkS h M b2 b3 b4 b5 bc D l rec s out sl bs g)(A:Apart h b2 b3 b4 b5 bc D l)(m:g.size<=g'.size)(f:∀j,j<g.size->g'[j]?=g[j]?):TkS h M b2 b3 b4 b5 bc D l rec s out sl bs g':=by have i:=lt_of_some S.rc;have:=A.lo;have:=A.a3;have:=A.a4;have:=A.a5;have:=A.ac;have:=A.aD;have:=A.al;have k:=S.keep.size;exact⟨⟨by omega,λj e=>(f j (by omega)).trans (S.keep.get j e)⟩,S.c.keep (f _ (by omega)),(f _ (by omega)).trans S.d,(f _ i).trans S.rc,S.r2.keep (f _ (by omega)),S.r3.keep (f _ (by omega)),S.r4.keep (f _ (by omega)),S.r5.keep (f _ (by omega)),S.o.frame (λc b=>f c (S.o.own c b).2.1) (Fr.le.refl _) λc b=>(S.o.own c b).2.2⟩
theorem SU{o:List Tk}(b:a<s.length)(h:fc s a=(k,t,0)):gG (f+1) s a o=gG f s t (o++[(k,((a:Int),(t:Int)))]):=by rw[gG,zb b,h];rfl
theorem IZ{k e:Int}{o:List Tk}(b:a<s.length)(h:fc s a=(k,t,e))(c:¬e=0):gG (f+1) s a o=([],t,e):=by rw[gG,zb b,h];simp only;rw[za c]
theorem I8{o:List Tk}(b:¬a<s.length):gG f s a o=(o,a,0):=by
 cases f with
 |zero=>rfl
 |succ f=>rw[gG,za b]
section
variable {h : zc} {M gl : Fr} {b2 b3 b4 b5 bc D l : Nat} {rec : fW} {s : Bs} {sl : Sl} {bs : List Nat} {g : zc}
abbrev SC(b2 b3 b4 b5:Nat)(x9 x8 x0:Value):aR:=[(0,[],x0),(2,[],.pointer (Tc ⟨b2,0,Td⟩)),(3,[],.pointer (Tc ⟨b3,0,Td⟩)),(4,[],.pointer (Tc ⟨b4,0,Td⟩)),(5,[],.pointer (Tc ⟨b5,0,Td⟩)),(8,[],x8),(9,[],x9)]
set_option maxRecDepth 100000 in
set_option maxHeartbeats 4000000 in
theorem JU(A:Apart h b2 b3 b4 b5 bc D l)(hg:GL gl)(hM:Fr.le gl M)(ag:AgM M h)(S:TkS h M b2 b3 b4 b5 bc D l rec s [] sl bs g){x9 x8 x0:Value} (p:∀{v1 v2:Value} {P:zc} {K:Value->zc->Prop},P[l]?=Tc (.loop (rec .ready Td))->iF Tp 25 (iN (codeOf Tryz.f145)) (iB (codeOf Tryz.f145)) rec l K (putO (putO (SC b2 b3 b4 b5 x9 x8 x0) (Tc 10) [] v1) (Tc 11) [] v2) P->YX Tp l #[v1,v2] P K) {Q:zc->Prop} (hN:∀g out sl bs,TkS h M b2 b3 b4 b5 bc D l rec s out sl bs g->xz s=(out,s.length,0)->out.length<=100000->Q g) (hE:∀(g:zc) (t:Nat) (e:Int),¬e=0->xz s=([],t,e)->Keep h.size h g->g[D]?=Tc (.deferred (Tc []))->g[l]?=Tc (.loop (rec .done (Tc .ret)))->Blk g b2 #[.slice Td 0 0]->Blk g b3 #[.int .i64 (t:Int)]->Blk g b4 #[.int .i64 e]->Q g):
  jG Tp 273 #[.func (.yield l) #[] #[],.pointer (Tc ⟨bc,0,Td⟩)] g (λ_ g'=>Q g'):=by
 have:=A.lo;have:=A.a3;have:=A.a4;have:=A.a5;have:=A.ac;have:=A.aD;have:=A.al;apply IT;refine⟨bl s,S.c.cell rfl,λn=>?_,λu=>?_⟩;have q:65536<s.length:=by rw[zh]at n;simp at n;omega
 refine p S.rc (TkS.err A S (by omega) λg' B q2 r q4 q5 q6=>⟨Tb,rfl,?_⟩);refine hE g' 0 3 (by omega) ?_ B q2 r q4 q5 q6;unfold xz;rw[zb q];have C:s.length<=65536:=by rw[zh]at u;simp at u;omega
 have hR:xz s=gG s.length s 0 []:=by unfold xz;rw[za (by omega)]
 refine⟨λk g'=>∃(a f:Nat) (out:List Tk) (ah:Sl) (L:List Nat),k=(a:Int)/\a<=s.length/\s.length-a<=f/\out.length<=a/\xz s=gG f s a out/\TkS h M b2 b3 b4 b5 bc D l rec s out ah L g',λk _=>s.length-k.toNat,⟨0,s.length,[],sl,bs,rfl,by omega,by omega,YM _,hR,S⟩,?_⟩;rintro k g1 ⟨a,f,out,O,G,rfl,ha,hf,ho,N,m⟩;refine⟨bl s,m.c.cell rfl,λw=>⟨bl s,m.c.cell rfl,?_⟩,λz=>?_⟩;have i:a<s.length:=by rw[zh]at w;simp at w;omega
 obtain⟨f,rfl⟩:∃f',f=f'+1:=⟨f-1,by omega⟩;have aa:AgM M g1:=ag.keep m.keep;refine WW hg hM aa C i λg2 k2=>?_;obtain⟨tk,t,e,b⟩:∃k t e,fc s a=(k,t,e):=⟨_,_,_,rfl⟩;have z2:=k2.size;by_cases y:e=0;subst y;have hp:=Cp i (by rw[b]);rw[b]at hp;have ai:a<t:=hp.1;have Y:t<=s.length:=hp.2;have U:ke s a=.tuple #[.agg #[.int .i64 tk,.int .i64 (a:Int),.int .i64 (t:Int)],.int .i64 0]:=by unfold ke;rw[b,zb rfl]
 refine⟨tk,a,t,0,U,?_⟩;intro F;obtain⟨V,z3,B3⟩:=jo (g:=F) rfl;clear_value F;refine kR B3 λZ B q2 r=>⟨tk,a,t,r.ld,?_⟩;have I:∀j,j<g1.size->Z[j]?=g1[j]?:=λj J=>by rw[B j (by omega),V.get j (by omega),k2.get j J]
 have E:=m.frame A (by omega) I;have ll:=lt_of_some m.rc;refine p E.rc (TkS.round A ag E (by omega) λg5 af ab S5 z5 f5=>⟨Ta,rfl,λH=>by simp at H,λ_=>?_⟩);refine⟨t,?_,⟨t,f,_,af,ab,rfl,Y,by omega,?_,?_,S5⟩,?_⟩;rw[qo,qo];refine(r.keep (f5 g2.size (by omega) (by omega) (by omega) λhm=>?_)).cell rfl;have:=(m.o.own g2.size hm).2.1;omega;rw[ZC];show out.length+1<=t;omega;rw[N,SU i b];show s.length-(t:Int).toNat<s.length-(a:Int).toNat;rw[YO,YO];omega;have U:=pW b y;refine⟨0,t,t,e,U,?_⟩;intro F;obtain⟨V,z3,B3⟩:=jo (g:=F) rfl;clear_value F;refine kR B3 λZ B q2 r=>⟨0,t,t,r.ld,?_⟩;have I:∀j,j<g1.size->Z[j]?=g1[j]?:=λj J=>by rw[B j (by omega),V.get j (by omega),k2.get j J]
 have E:=m.frame A (by omega) I;refine p E.rc (TkS.err A E y λg5 w1 w2 w3 w4 w5 w6=>⟨Tb,rfl,λ_=>?_,λH=>by simp at H⟩);exact hE g5 t e y (by rw[N,IZ i b y]) w1 w2 w3 w4 w5 w6;have x:¬a<s.length:=by rw[zh]at z;simp at z;omega
 have ae:a=s.length:=by omega
 exact hN g1 out O G m (by rw[N,I8 x,ae]) (by omega)
end
end
end Go.X
end
section
namespace Go.X
open Go Go.X Go.Proofs Go.RowKit
set_option maxRecDepth 100000 in
set_option maxHeartbeats 4000000 in
section
theorem V3{gl M:Fr}(hg:GL gl)(hM:Fr.le gl M){h:zc}(ag:AgM M h){s:Bs}{K:Value->zc->Prop} (V:∀(h':zc) (M':Fr) (t:Sl),Later h M h' M'->Rd M' (.row i7) (xz s).1 [aK t]->K (.tuple #[aK t,.int .i64 ((xz s).2.1:Nat),.int .i64 (xz s).2.2]) h'):
  XC Tp 145 #[.string (bl s)] h K:=by
 apply V6;intro h1 m r y;have k1:Keep h.size h h1:=Keep.push _ _ (YM _);have k2:Keep h1.size h1 m:=Keep.push _ _ (YM _);have I:Keep m.size m r:=Keep.push _ _ (YM _);have D:Keep r.size r y:=Keep.push _ _ (YM _);have z1:h1.size=h.size+1:=ZI _;have z2:m.size=h1.size+1:=ZI _;have z3:r.size=m.size+1:=ZI _;have z4:y.size=r.size+1:=ZI _;have B1:Blk h1 h.size #[.slice Td 0 0]:=Blk.new _ _ _;have B2:Blk m h1.size #[.int .i64 0]:=Blk.new _ _ _;have B3:Blk r m.size #[.int .i64 0]:=Blk.new _ _ _;have B4:Blk y r.size #[.slice Td 0 0]:=Blk.new _ _ _;clear_value y r m h1;apply Vy;intro b;obtain⟨B,z5,B5⟩:=jo (g:=b) rfl;clear_value b;refine⟨_,rfl,_,_,rfl,by kernel_rfl,λrec F=>?_⟩;have e5:∀j,j<h.size->b[j]?=h[j]?:=λj i=>by rw[B.get j (by omega),D.get j (by omega),I.get j (by omega),k2.get j (by omega),k1.get j i]
 have A:Apart h h.size h1.size m.size r.size y.size b.size (b.size+1):=⟨by omega,by omega,by omega,by omega,by omega,by omega,rfl⟩;obtain⟨g0,l⟩:∃g0,g0=(b.push (.deferred (Tc []))).push (.loop (rec .ready Td)):=⟨_,rfl⟩;have gz:g0.size=b.size+2:=by rw[l,ZI,ZI]
 have x:∀j,j<b.size->g0[j]?=b[j]?:=λj i=>by rw[l,Array.getElem?_push_lt (by rw[ZI];omega)];rw[Array.getElem_push_lt i,zal i]
 have gD:g0[b.size]?=Tc (.deferred (Tc [])):=by rw[l,Array.getElem?_push_lt (by rw[ZI];omega),Array.getElem_push_eq]
 have E:g0[b.size+1]?=Tc (.loop (rec .ready Td)):=by
  rw[l];have:b.size+1=(b.push (.deferred (Tc []))).size:=by rw[ZI]
  rw[this,Array.getElem?_push_size]
 rw[<-l];clear l;have S:TkS h M h.size h1.size m.size r.size y.size b.size (b.size+1) rec s [] ⟨Td,0,0⟩ [] g0:= ⟨⟨by omega,λj i=>(x j (by omega)).trans (e5 j i)⟩,B5.keep (x _ (by omega)),gD,E,B1.keep (by rw[x _ (by omega),B.get _ (by omega),D.get _ (by omega),I.get _ (by omega),k2.get _ (by omega)]),B2.keep (by rw[x _ (by omega),B.get _ (by omega),D.get _ (by omega),I.get _ (by omega)]),B3.keep (by rw[x _ (by omega),B.get _ (by omega),D.get _ (by omega)]),B4.keep (by rw[x _ (by omega),B.get _ (by omega)]),.nil⟩;refine JU A hg hM ag S (x9:=_) (x8:=_) (x0:=_) F ?_ ?_;intro g out sl bs p z ho;have ll:=lt_of_some p.rc;refine .inl ⟨p.rc,?_⟩;obtain⟨k,f⟩:∃k,k=g.setIfInBounds (b.size+1) (.loop (rec .exhausted Td)):=⟨_,rfl⟩;have z6:k.size=g.size:=by rw[f,zah]
 have n:∀j,j≠b.size+1->k[j]?=g[j]?:=λj i=>by rw[f];exact qw i
 rw[<-f];clear f;refine⟨sl,(p.r5.keep (n _ (by omega))).cell rfl,?_⟩;refine yr vG yA (p.r2.keep (n _ (by omega))) (by show 0<1;omega) rfl λg7 u1 u3 O=>?_;refine yr C7 FU (p.r3.keep ((O _ (by omega)).trans (n _ (by omega)))) (by show 0<1;omega) rfl λg8 Z v3 J=>?_;refine yr FE FZ (p.r4.keep ((J _ (by omega)).trans ((O _ (by omega)).trans (n _ (by omega))))) (by show 0<1;omega) rfl λu w1 w3 Q=>?_;have H:∀j,j≠b.size+1->j≠h.size->j≠h1.size->j≠m.size->u[j]?=g[j]?:=λj a1 a2 a3 a4=>by rw[Q j a4,J j a3,O j a2,n j a1]
 refine⟨(H _ (by omega) (by omega) (by omega) (by omega)).trans p.d,?_⟩;have q:∀j,j≠b.size->(u.setIfInBounds b.size (.deferred Td))[j]?=u[j]?:=λj i=>qw i;have P:Blk (u.setIfInBounds b.size (.deferred Td)) h.size #[aK sl]:=u1.keep (by rw[q _ (by omega),Q _ (by omega),J _ (by omega)]);have L:Blk (u.setIfInBounds b.size (.deferred Td)) h1.size #[.int .i64 (((bl s).size:Nat):Int)]:=Z.keep (by rw[q _ (by omega),Q _ (by omega)]);have N:Blk (u.setIfInBounds b.size (.deferred Td)) m.size #[.int .i64 0]:=w1.keep (q _ (by omega));refine⟨sl,P.cell rfl,_,L.cell rfl,0,N.cell rfl,?_⟩;have C:Keep h.size h (u.setIfInBounds b.size (.deferred Td)):=by have:=p.keep.size;refine⟨by rw[zah];omega,λj i=>?_⟩;rw[q j (by omega),H j (by omega) (by omega) (by omega) (by omega)];exact p.keep.get j i
 have G:=p.o.own;have ox:=p.o.frame (h':=u.setIfInBounds b.size (.deferred Td)) (λc w=>by have:=G c w;rw[q c (by omega),H c (by omega) (by omega) (by omega) (by omega)]) (Fr.le.refl M) λc w=>(G c w).2.2;have:=V _ (MxL M (u.setIfInBounds b.size (.deferred Td)) bs) sl (MxL.later ag C λc w=>by have:=G c w;omega) (by rw[z];exact ox.rd (ag.keep C) (λc w=>w) (by omega));rw[z]at this;rw[zh];exact this;intro g t e he z U Y gr q2 q3 q4;refine .inr ⟨gr,?_⟩;obtain⟨k,f⟩:∃k,k=g.setIfInBounds (b.size+1) (.loop (rec .exhausted (Tc .ret))):=⟨_,rfl⟩;have z6:k.size=g.size:=by rw[f,zah]
 have n:∀j,j≠b.size+1->k[j]?=g[j]?:=λj i=>by rw[f];exact qw i
 rw[<-f];clear f;refine⟨(n _ (by omega)).trans Y,?_⟩;have q:∀j,j≠b.size->(k.setIfInBounds b.size (.deferred Td))[j]?=k[j]?:=λj i=>qw i;have P:Blk (k.setIfInBounds b.size (.deferred Td)) h.size #[.slice Td 0 0]:=q2.keep (by rw[q _ (by omega),n _ (by omega)]);have L:Blk (k.setIfInBounds b.size (.deferred Td)) h1.size #[.int .i64 (t:Int)]:=q3.keep (by rw[q _ (by omega),n _ (by omega)]);have N:Blk (k.setIfInBounds b.size (.deferred Td)) m.size #[.int .i64 e]:=q4.keep (by rw[q _ (by omega),n _ (by omega)]);refine⟨⟨Td,0,0⟩,P.cell rfl,_,L.cell rfl,e,N.cell rfl,?_⟩;have C:Keep h.size h (k.setIfInBounds b.size (.deferred Td)):=by have:=U.size;refine⟨by rw[zah];omega,λj i=>?_⟩;rw[q j (by omega),n j (by omega)];exact U.get j i
 have:=V _ M ⟨Td,0,0⟩ (Later.same ag C) (by rw[z];exact⟨_,rfl,Td,0,rfl,⟨by simp,by simp⟩,.inl rfl⟩);rw[z]at this;exact this
end
end Go.X
end
section
namespace Go.X
open Go Go.X Go.Proofs Go.RowKit
section
theorem EB:∀(f:Nat) (s:Bs) (a:Nat) (o:List Tk),(gG f s a o).1.length<=o.length+f
 |0,s,a,o=>Nat.le_add_right _ _
 |f+1,s,a,o=>by rw[gG];split;split;have:=EB f s (fc s a).2.1 (o++[((fc s a).1,((a:Int),((fc s a).2.1:Int)))]);grind;simp;simp
end
section
variable {lo b:Nat} {g:zc} {M:Fr} {cs:Array Value}
def iW(na:NA)(b:Nat):List Nat:=if na.length=0 then []else b::na.flatMap λp=>p.2.kb++p.2.pb
theorem N3{na:NA}{sl:Sl}(H:NS lo g M na sl b cs){c:Nat}(h:c∈iW na b):lo<=c:=by unfold iW at h;split at h;cases h;rename_i h0;rcases YS.1 h with rfl|h;exact(H.lb (H.cell (n:=0) (by omega)).2.2.1).1;obtain⟨p,e,f⟩:=zbf.1 h;exact((H.nd p e).own (ZG.1 f)).1
theorem xV{na:NA}(h:0<na.length):iW na b=b::na.flatMap λp=>p.2.kb++p.2.pb:=by unfold iW;rw[za (by omega)]
theorem NS.rd{na:NA}{sl:Sl}(H:NS lo g M na sl b cs)(ag:AgM M g)(x:na.length<=4096)(m:∀p∈na,fZ p.1<=1000000):Rd (MxL M g (iW na b)) (.row ie) (na.map (·.1)) [aK sl]:=by have o:=H.len;have h:=H.cr.ro.le;refine⟨_,rfl,sl.a,sl.cap,?_,⟨by rw[ZA];omega,by rw[ZA];omega⟩,?_⟩;show aK _=_;unfold aK;rw[ZA,o];by_cases h0:na=[];left;rw[h0];rfl;have e:0<na.length:=ZX.2 h0;obtain⟨h1,k,w,s,u⟩:=H.cell e;refine .inr ⟨b,0,cs,h1,MxL.at (by rw[xV e];exact ZB) k,λi hi=>?_⟩;rw[ZA]at hi;have f:=YW hi;obtain⟨t,r⟩:=H.cr.el i (gU na[i]) (by rw[zai,YR hi];rfl);rw[ZP,show sz ie=7 from rfl,r,zcb];have I:=H.nd _ f;have n:=m _ f;unfold fZ at n;have l:=I.kk.rd ag (all:=iW na b) (λc h=>by rw[xV e];exact YU _ (zbf.2 ⟨_,f,ZG.2 (.inl h)⟩)) (by omega);have q:=I.pp.rd ag (all:=iW na b) (λc h=>by rw[xV e];exact YU _ (zbf.2 ⟨_,f,ZG.2 (.inr h)⟩)) (by omega);refine⟨[.int .i64 na[i].1.1],[.int .i64 na[i].1.2.1.1,.int .i64 na[i].1.2.1.2,.int .i64 na[i].1.2.2.1.1,.int .i64 na[i].1.2.2.1.2,aK na[i].2.ks,aK na[i].2.ps],rfl,rfl,?_⟩;refine⟨[.int .i64 na[i].1.2.1.1,.int .i64 na[i].1.2.1.2],[.int .i64 na[i].1.2.2.1.1,.int .i64 na[i].1.2.2.1.2,aK na[i].2.ks,aK na[i].2.ps],rfl,⟨_,_,rfl,rfl,rfl⟩,?_⟩;refine⟨[.int .i64 na[i].1.2.2.1.1,.int .i64 na[i].1.2.2.1.2],[aK na[i].2.ks,aK na[i].2.ps],rfl,⟨_,_,rfl,rfl,rfl⟩,?_⟩;exact⟨[aK na[i].2.ks],[aK na[i].2.ps],rfl,l,q⟩
theorem zS{x:Bs}{l:List Nd}{sl:Sl}(i j:Int)(h:Rd M (.row ie) l [aK sl]):Yf M [.pair .str (.row ie),.int .i64,.int .i64] ((bl x,l),i,j) (.tuple #[.agg #[.string (bl x),aK sl],.int .i64 i,.int .i64 j]):=by refine⟨[.agg #[.string (bl x),aK sl],.int .i64 i,.int .i64 j],⟨_,_,rfl,?_,_,_,rfl,Z2 _ i,_,rfl,Z2 _ j⟩,rfl⟩;exact⟨[.string (bl x),aK sl],rfl,[.string (bl x)],[aK sl],rfl,rfl,h⟩
theorem py{T:Ty}:Rd M (.row T) [] [aK ⟨Td,0,0⟩]:=⟨_,rfl,Td,0,rfl,⟨by simp,by simp⟩,.inl rfl⟩
theorem XU:qj Tp 114=Ta:=by kernel_rfl
theorem UV:yb Tp 114=2:=by kernel_rfl
theorem pY{x y:Value}(B:Blk g b #[x,y]){u:Bt}{v:Sl}{K:zc->Prop}(f:∀g',(∀j,j≠b->g'[j]?=g[j]?)->g'.size=g.size->Blk g' b #[.string u,aK v]->K g'):
  XRunU Tp (YN 114 (.pointer (Tc ⟨b,0,Td⟩)) (.agg #[.string u,aK v])) g K:=by
 refine J5 (vs:=[.string u,aK v]) XU B rfl UV (YM _) (λw c=>?_) λg' e i h=>f g' h i e;simp at c;rcases c with rfl|rfl <;> rfl
theorem IG{l:List Tk}{k:Nat}(b:k<l.length):j6 (l.take (k+1))=j6 (l.take k)++(if l[k].1≠1 then [l[k]]else []):=by unfold j6;rw[YP b,List.filter_append];congr 1;by_cases h:l[k].1=1;simp[h];simp[h]
end
section
variable {s:Bs}
theorem Cw(h:(xz s).2.2=0):s.length<=65536/\(xz s).1.length<=s.length:=by unfold xz at h ⊢;split at h;simp at h;rename_i b;rw[za b];have:=EB s.length s 0 [];simp_all
set_option maxRecDepth 100000 in
set_option maxHeartbeats 4000000 in
theorem LN{gl:Fr}(hg:GL gl){R:(Bt×List Nd)×Int×Int->Prop}(hR:R ((bl (eU s).1.1,(eU s).1.2),(eU s).2.1,(eU s).2.2)):
  PC Tp gl 88 [Arg.mk .str (bl s)] [.pair .str (.row ie),.int .i64,.int .i64] R:=by
 intro h M vs hM ag ha
 match vs,ha with
 |[u1],⟨a1,_⟩=>
  obtain rfl:=xt (s:=bl s) a1;apply PX.of;apply Px;intro h1;obtain⟨k1,z1,B1⟩:=jo (g:=h1) rfl;clear_value h1;have aT:AgM M h1:=ag.keep k1;refine V3 hg hM aT λf M1 t G rt=>⟨t,_,_,rfl,?_⟩;have B3:=B1.keep (G.keep.get h.size (by omega));have z3:=G.keep.size;have k3:Keep h.size h f:=k1.trans (c:=f) (m:=h.size) ⟨z3,λj w=>G.keep.get j (by omega)⟩ (YM _);have bL:∀b,b<h.size->M1 b=M b:=λb y=>G.old b (by omega);have aM:M h.size=Td:=by
   cases e:M h.size with
   |none=>rfl
   |some x=>have:=ag.lt e;omega
  have ah:M1 h.size=Td:=by rw[G.old _ (by omega)];exact aM
  refine⟨λU=>?_,λU=>?_⟩;have U:¬(xz s).2.2=0:=by simpa using U
  have H:eU s=(([],[]),((xz s).2.1:Int),(xz s).2.2):=by unfold eU;rw[za U]
  rw[H]at hR;refine pY (u:=⟨#[]⟩) (v:=⟨Td,0,0⟩) B3 λh7 f7 z7 B7=>⟨_,_,B7.ld (cs:=[.string ⟨#[]⟩,aK ⟨Td,0,0⟩]),?_⟩;exact⟨M,_,Later.same ag ⟨by omega,λj w=>by rw[f7 j (by omega)];exact k3.get j w⟩,zS (x:=[]) (l:=[]) _ _ py,hR⟩;have U:(xz s).2.2=0:=by simpa using U
  obtain⟨hs,aS⟩:=Cw U;have H:eU s=match ft s 32 (0,0) ⟨j6 (xz s).1,0,[]⟩with
   |.inl st=>if st.rest=[]then((s,st.nodes),(s.length:Int),0)else(([],[]),st.here s.length,2)
   |.inr e=>(([],[]),e.1,e.2):=by unfold eU;rw[zb U];rfl
  have az:=Pt (NE s);generalize (xz s).1=tl at rt aS H az;have rl:=(rowLen rt).1;intro am;obtain⟨aO,bu,a6⟩:=jo (g:=am) rfl;clear_value am;have br:∀c,f.size<=c->M1 c=Td:=λc i=>by
   cases e:M1 c with
   |none=>rfl
   |some x=>have:=G.ag.lt e;omega
  refine⟨λk g=>∃(n:Nat) (rs:Sl) (bs:List Nat),k=(n:Int)/\n<=tl.length/\ORow (f.size+1) g M1 i7 (j6 (tl.take n)) rs bs/\Blk g f.size (rM s rs 0 0 ⟨Td,0,0⟩ 0 0).toArray/\Keep f.size f g,λk _=>tl.length-k.toNat,⟨0,⟨Td,0,0⟩,[],rfl,by omega,.nil,a6,aO⟩,?_⟩;rintro k g ⟨n,rs,bs,rfl,hn,ro,Bp,kg⟩;have agg:AgM M1 g:=G.ag.keep kg;have zg:f.size+1<=g.size:=by have:=Bp.lt;omega
  refine⟨λL=>?_,λbm=>?_⟩;have L:n<tl.length:=by have:=zB L;omega
  obtain⟨tb,o,e1,e2,e3,e4⟩:=ng agg rt L;have ax:=IG L;refine⟨_,⟨e1,by omega,by omega⟩,tl[n].1,tl[n].2.1,tl[n].2.2,?_,?_⟩;rw[qo,YO];exact⟨by rw[qo];exact e2,by rw[qo];exact e3,by rw[qo];exact e4,trivial⟩;intro ay;obtain⟨bo,bA,aQ⟩:=jo (g:=ay) rfl;clear_value ay;refine kR aQ λaa q1 q2 q3=>⟨tl[n].1,by rw[qo];exact q3.cell rfl,?_⟩;have Z:Keep g.size g aa:=⟨by omega,λj w=>(q1 j (by omega)).trans (bo.get j w)⟩;have D:=ro.frame (λc i=>Z.get c (ro.own c i).2.1) (Fr.le.refl M1) λc i=>(ro.own c i).2.2;have V:=Bp.keep (Z.get _ (by omega));have ar:Keep f.size f aa:=kg.trans (c:=aa) (m:=f.size) ⟨by omega,λj w=>Z.get j (by omega)⟩ (YM _);have ab:YJ .i64 ((n:Int)+1)=((n+1:Nat):Int):=by rw[cR (by omega)];omega
  rw[ab];refine⟨λy=>⟨_,rfl,rs,by rw[qo];exact V.cell rfl,tl[n].1,tl[n].2.1,tl[n].2.2,q3.ld,?_⟩,λy=>?_⟩;have y:tl[n].1≠1:=by simpa using y
  rw[zb y]at ax;intro J;obtain⟨O,bO,aG⟩:=jo (g:=J) rfl;clear_value J;refine⟨by rw[qo];exact O.get f.size (by omega),?_⟩;have ak:=D.frame (λc i=>O.get c (D.own c i).2.1) (Fr.le.refl M1) λc i=>(D.own c i).2.2;have aj:=V.keep (O.get _ (by omega));have S:Keep f.size f J:=ar.trans (c:=J) (m:=f.size) ⟨by omega,λj w=>O.get j (by omega)⟩ (YM _);have aU:(j6 (tl.take n)).length<=n:=by have:(j6 (tl.take n)).length<=(tl.take n).length:=List.length_filter_le _ _;rw[za0]at this;omega
  refine ORow.app Dl (by omega) (G.ag.keep S) ak (by omega) aG (Gz _ _ _) (by omega) λs' bD aI aA bF c29 ai=>⟨s',rfl,_,rfl,?_⟩;rw[qo];have aE:f.size∉bs:=λQ=>by have:=(ro.own _ Q).1;omega
  refine yr Ce Gi (aj.keep (ai _ (by omega) aE)) (by show 1<7;omega) rfl λbg u1 u2 u3=>⟨⟨n+1,s',aI,rfl,by omega,?_,u1,?_⟩,?_⟩;rw[ax];exact aA.frame (λc i=>u3 c λe=>by grind) (Fr.le.refl M1) λc i=>(aA.own c i).2.2;refine S.trans (c:=bg) (m:=f.size) ⟨by omega,λj w=>?_⟩ (YM _);rw[u3 j (by omega),ai j (by omega) λQ=>by have:=(ro.own j Q).1;omega];grind;grind;have aF:n=tl.length:=by have:=zC bm;omega
  subst aF;rw[ZO]at ro;have aU:(j6 tl).length<=tl.length:=List.length_filter_le _ _;have bj:=ro.rd agg (all:=bs) (λc i=>i) (by omega);have aJ:AgM (MxL M1 g bs) g:=MxL.ag agg bs;have bz:∀c∈bs,f.size+1<=c:=λc i=>(ro.own c i).1;have a8:∀c,c∉bs->MxL M1 g bs c=M1 c:=λc i=>by unfold MxL;rw[za i]
  have aV:Fr.le gl (MxL M1 g bs):=hM.trans (G.le.trans (Y4 agg bs));have P:PaS f.size g (MxL M1 g bs) f.size s ⟨j6 tl,0,[]⟩ 0 0 (hG f.size [] ⟨Td,0,0⟩ 0):=by refine⟨rs,0,[],⟨Td,0,0⟩,0,#[],⟨Bp,bj,.nil,aJ,⟨YM _,?_⟩,?_⟩,rfl,rfl⟩;grind;rintro(⟨h1,_⟩|⟨p,hp,_⟩);exact h1 rfl;cases hp
  have hT:(⟨j6 tl,0,[]⟩:PSt).T<=200000:=by unfold PSt.T;simp;omega
  have aZ:=Ri (lo:=f.size) (M:=MxL M1 g bs) (bp:=f.size) (s:=s) hg aV hs 32 (YM _) (0,0) g _ 0 0 _ P (by simp) hT az;refine aZ _ λb aH st' a' e' O' P' S' n' B=>⟨b,rfl,?_⟩;intro aP an;have fin:∀(ok:Bool) (z:zc) (r:PSt) (a1 e1:Int) (O1:Nat->Prop),PaS f.size z (MxL M1 g bs) f.size s r a1 e1 O1->Stp g (hG f.size [] ⟨Td,0,0⟩ 0) z O1->(ok=Tb->eU s=(([],[]),a1,e1))->(ok=Ta->eU s=((s,r.nodes),(s.length:Int),0)/\r.nodes.length<=4096/\r.T<=200000)->aP ok z:=by
   intro ok z r a1 e1 O1 P1 S1 hf ht;refine an ok z ?_;have be:∀c,c<f.size->¬hG f.size [] ⟨Td,0,0⟩ 0 c:=λc i=>by rintro(h1|⟨h1,_⟩|⟨p,hp,_⟩);omega;exact h1 rfl;cases hp
   have Y:∀j,j<f.size->z[j]?=f[j]?:=λj w=>(S1.fr j (by omega) (be j w)).trans (kg.get j w);have bE:=S1.le;have Bd:=B3.keep (Y h.size (by omega));have a7:=P1;obtain⟨ae,ba,A,C,b1,ap,I,q,bn⟩:=a7;have bG:=I.blk.lt;refine⟨λho=>⟨_,rfl,a1,by rw[qo];exact I.blk.cell rfl,_,rfl,e1,by rw[qo];exact I.blk.cell rfl,rfl,rfl,?_⟩,λho=>⟨_,rfl,C,by rw[qo];exact I.blk.cell rfl,?_⟩⟩;have ho:ok=Tb:=by simpa using ho
   refine pY (u:=⟨#[]⟩) (v:=⟨Td,0,0⟩) Bd λbM aC bN aN=>?_;have E:=aC f.size (by omega);refine⟨by rw[qo];exact E,by rw[qo];exact E,by rw[qo];exact E,_,_,aN.ld (cs:=[.string ⟨#[]⟩,aK ⟨Td,0,0⟩]),?_⟩;rw[hf ho]at hR;exact⟨M,_,Later.same ag ⟨by omega,λj w=>by rw[aC j (by omega),Y j (by omega)];exact k3.get j w⟩,zS (x:=[]) (l:=[]) _ _ py,hR⟩;have ho:ok=Ta:=by simpa using ho
   obtain⟨bh,bJ,bI⟩:=ht ho;refine pY (u:=bl s) (v:=C) Bd λN af bH bq=>⟨_,_,bq.ld (cs:=[.string (bl s),aK C]),?_⟩;rw[bh]at hR;rw[zh];have aY:MxL M1 g bs h.size=Td:=by rw[a8 _ λQ=>by grind];exact ah
   have au:NS f.size N (MxL M1 g bs) A C b1 ap:=I.ns.frame (by omega) λc i=>af c λe=>by have:=(I.ns.own i).1;omega
   have F:AgM (MxL M1 g bs) N:=pe I.ag λj w Q=>af j λe=>Q (e ▸ aY);have bC:A.length=r.nodes.length:=by rw[<-q,ZA]
   have aB:=au.rd F (by omega) λp hp=>by
    have:p.1∈r.nodes:=by rw[<-q];exact List.mem_map_of_mem hp
    have:=Af this;omega
   rw[q]at aB;refine⟨MxL (MxL M1 g bs) N (iW A b1),_,⟨⟨by omega,λj w=>by rw[af j (by omega),Y j (by omega)];exact k3.get j w⟩,?_,λc i=>?_,MxL.ag F _⟩,zS _ _ aB,hR⟩;exact G.le.trans ((Y4 agg bs).trans (Y4 F _));have h1:c∉iW A b1:=λQ=>by have:=N3 au Q;omega
   have e1:MxL (MxL M1 g bs) N (iW A b1) c=MxL M1 g bs c:=by unfold MxL;rw[za h1]
   grind
  have aL:=P';obtain⟨ae,ba,A,C,b1,ap,I,q,bn⟩:=aL;have bB:=(rowLen I.rd).1;refine⟨_,λ_=>rfl,ae,λ_=>by rw[qo];exact I.blk.cell rfl,λi=>?_,λi=>?_⟩;have y:b=Ta/\0<st'.rest.length:=by
   cases b with
   |false=>simp at i
   |true=>grind
  refine Xe P' λg' P2 S2=>⟨Tb,rfl,fin Tb g' st' _ _ O' P2 (S'.trans S2) (λ_=>?_) (λh=>(by cases h))⟩;rw[H];cases hr:ft s 32 (0,0) ⟨j6 tl,0,[]⟩with
  |inl x=>rw[hr]at B;rw[B.2]at y ⊢;grind
  |inr x=>rw[hr]at B;rw[B.1]at y;grind
  refine fin b aH st' a' e' O' P' S' (λy=>?_) (λy=>?_);rw[H];cases hr:ft s 32 (0,0) ⟨j6 tl,0,[]⟩with
  |inl x=>rw[hr]at B;rw[B.1]at y;cases y
  |inr x=>rw[hr]at B;rw[B.2]
  subst y;have hz:st'.rest=[]:=by
   have:¬0<ae.len:=by simpa using i
   exact zau.1 (by omega)
  cases hr:ft s 32 (0,0) ⟨j6 tl,0,[]⟩with
  |inl x=>rw[hr]at B H;have okv:=pB s 32 _ _ _ hr;rw[<-B.2]at okv H;dsimp only at H;rw[zb hz]at H;exact⟨H,okv.m (by simp),by have:=okv.t;omega⟩
  |inr x=>rw[hr]at B;exact absurd B.1 (by simp)
end
end Go.X
end
section
namespace Go.X
section
theorem MI(D:Bt)(h:zc)(R:Value->zc->Prop) (H:let b:=h.push (.cells tC 25);XC Tp 88 #[.string D] b (λc d=>∃e f g i,c=.tuple #[.agg #[.string e,aK f],iV g,iV i]/\let j:=d.push (.cells #[.string (⟨#[]⟩:Bt),.slice Td 0 0] 114);XRunU Tp (YN 114 (.pointer (Tc ⟨d.size,0,Td⟩)) (.agg #[.string e,aK f])) j (λk=>((i != 0)=Ta->XRunU Tp (YN 25 (.pointer (Tc ⟨h.size,0,Td⟩)) (tZ)) k (λl=>∃m n o p,zd l ⟨h.size,0,Td⟩ 0 (tL m n o p)/\R (.tuple #[tA m n o p,iV g,iV i]) l))/\((i != 0)=Tb->∃q r,zd k ⟨d.size,0,Td⟩ 0 [.string q,aK r]/\XC Tp 89 #[.agg #[.string q,aK r],iV 0,iV 1] k (λs t=>∃u v w x,s=tA u v w x/\XRunU Tp (YN 25 (.pointer (Tc ⟨h.size,0,Td⟩)) (tA u v w x)) t (λy=>∃z A B C,zd y ⟨h.size,0,Td⟩ 0 (tL z A B C)/\R (.tuple #[tA z A B C,iV g,iV 0]) y)))))):
  XC Tp 48 #[.string D] h R:=
 XF ⟨[],[],[]⟩ [.cell 2 25,.tmp 3,.tmp 4] 22 Tryz.func48 H
end
end Go.X
end
section
namespace Go.X
open Go Go.X Go.Proofs Go.RowKit
section
variable {s:Bs} {M:Fr}
theorem I5(h:(eU s).2.2=0):(xz s).2.2=0:=by unfold eU at h;split at h;assumption;exact h
theorem Rc{x:Bs×List Nd}{i j:Int}{v:Value}(h:Yf M [.pair .str (.row ie),.int .i64,.int .i64] ((bl x.1,x.2),i,j) v):∃sl:Sl,v=.tuple #[.agg #[.string (bl x.1),aK sl],.int .i64 i,.int .i64 j]/\Rd M (.row ie) x.2 [aK sl]:=by
 obtain⟨vs,⟨r,rest,rfl,m,p,f,rfl,l,o,rfl,n⟩,rfl⟩:=h;rw[yj l,yj n];obtain⟨cs,rfl,c1,c2,rfl,b,k⟩:=m;have b:c1=[.string (bl x.1)]:=b;subst b;obtain⟨sl,rfl⟩:∃sl:Sl,c2=[aK sl]:=by obtain⟨w,e,a,c,q,_⟩:=k;exact⟨⟨a,_,c⟩,by rw[e,q];rfl⟩
 exact⟨sl,rfl,k⟩
set_option maxRecDepth 100000 in
set_option maxHeartbeats 2000000 in
theorem XJ{gl:Fr}(J:GL gl){h:zc}(I:Fr.le gl M)(ag:AgM M h){K:Value->zc->Prop} (t:∀(h':zc) (bs:List Nat) (sk si:Sl),Keep h.size h h'->OT h' (J6 s).1 bs (Qt (J6 s).1 sk si)->(∀b∈bs,h.size<=b)->K (.tuple #[.agg #[.int .i64 (J6 s).1.kind,.string (J6 s).1.text,aK sk,aK si],.int .i64 (J6 s).2.1,.int .i64 (J6 s).2.2]) h'):
  XC Tp 48 #[.string (bl s)] h K:=by
 apply MI;intro h1;obtain⟨H,z1,R1⟩:=jo (g:=h1) rfl;clear_value h1;refine(LN J (s:=s) (R:=λr=>r=((bl (eU s).1.1,(eU s).1.2),(eU s).2.1,(eU s).2.2)) rfl).go I (ag.keep H) (zm (a:=Arg.mk .str _) (rdStr _) zz) λv w M' r L hv hr=>?_;subst hr;obtain⟨sl,rfl,rd⟩:=Rc hv;refine⟨_,sl,_,_,rfl,?_⟩;have A:=L.keep;have z3:=A.size;have E:Keep h.size h w:=H.trans (c:=w) (m:=h.size) ⟨z3,λj o=>A.get j (by omega)⟩ (YM _);have Q:=R1.keep (A.get h.size (by omega));intro O;obtain⟨V,z8,S⟩:=jo (g:=O) rfl;clear_value O;refine pY (u:=bl (eU s).1.1) (v:=sl) S λn f9 z9 N=>?_;have q:Keep w.size w n:=⟨by omega,λj o=>(f9 j (by omega)).trans (V.get j o)⟩;have l:Keep h.size h n:=E.trans (c:=n) (m:=h.size) ⟨q.size,λj o=>q.get j (by omega)⟩ (YM _);have P:=Q.keep (q.get h.size (by omega));refine⟨λe=>?_,λe=>?_⟩;have e:¬(eU s).2.2=0:=by simpa using e
 have D:J6 s=(.mk 0 (bl []) [] [],(eU s).2.1,(eU s).2.2):=by unfold J6;rw[za e]
 rw[D]at t;refine Yn (k:=0) (s:=⟨#[]⟩) (sk:=⟨Td,0,0⟩) (si:=⟨Td,0,0⟩) P λg f z B=>⟨_,_,_,_,B.ld (cs:=[.int .i64 0,.string ⟨#[]⟩,aK ⟨Td,0,0⟩,aK ⟨Td,0,0⟩]),?_⟩;obtain⟨bs,ot,y⟩:=(Own.new (lo:=h.size) (hi:=g.size) (b0:=h.size) (k:=0) (s:=bl []) B (YM _) (YM _)).ot;exact t g bs ⟨Td,0,0⟩ ⟨Td,0,0⟩ (l.trans (c:=g) (m:=h.size) ⟨by omega,λj o=>f j (by omega)⟩ (YM _)) ot (λb p=>(y b p).1);have e:(eU s).2.2=0:=by simpa using e
 obtain⟨lvs,G,e1,Z,e3,e4⟩:=WR e;obtain⟨hs,Y⟩:=Cw (I5 e);have D:J6 s=(kj s (eU s).1.2 33 0,(s.length:Int),0):=by unfold J6;rw[zb e]
 rw[D]at t;rw[e1]at N;rw[Z];refine⟨_,sl,N.ld (cs:=[.string (bl s),aK sl]),?_⟩;have C:AgM M' n:=L.ag.keep q;refine Cm J hs G (λx e=>by have:=e4 x e;unfold fZ at this;omega) 33 0 1 1 rfl (by omega) (by omega) (by omega) n M' sl (I.trans L.le) C rd _ λaa bs sk si i ot p=>⟨_,_,sk,si,rfl,?_⟩;have U:=i.size;refine Yn (P.keep (i.get h.size (by omega))) λg f z B=>⟨_,_,sk,si,B.ld (cs:=[_,_,aK sk,aK si]),?_⟩;exact t g bs sk si (l.trans (c:=g) (m:=h.size) ⟨by omega,λj o=>by rw[f j (by omega)];exact i.get j (by omega)⟩ (YM _)) (ot.frame λc F=>f c (by have:=p c F;omega)) (λc F=>by have:=p c F;omega)
end
section
section
variable {t : Bs} {nodes : List Nd} {lvs : List Nat} {gl : Fr}
theorem zX(i:GL gl){s:Bs}{R:Tr×Int×Int->Prop}(c:R (J6 s)):PC Tp gl 48 [Arg.mk .str (bl s)] [.tree,.int .i64,.int .i64] R:=by
 intro h M vs e ag b
 match vs,b with
 |[u1],⟨a1,_⟩=>obtain rfl:=xt (s:=bl s) a1;apply PX.of;exact XJ i e ag λh' bs sk si k ot f=>⟨MxL M h' bs,_,MxL.later ag k f,⟨[_,_,_],⟨_,_,rfl,ot.rdv,_,_,rfl,Z2 _ _,_,rfl,Z2 _ _⟩,rfl⟩,c⟩
end
end
end Go.X
end
section
namespace Go.X.U
section
def lG(o:Oper):Option Bool:=match o.op with
 |.fieldAddr _ _ _=>Tc Ta
 |.indexAddr _ _ _=>Tc Ta
 |.move _=>Tc Ta
 |.assign _=>Tc Ta
 |.load _ _=>Tc Tb
 |.binOp _ _ _ _ _=>Tc Ta
 |.call c=>match c.callee with
  |.builtin .len=>Tc Ta
  |_=>Td
 |_=>Td
def oa(o:Oper):Bool:=match lG o with
 |some _=>Ta
 |none=>Tb
def jj(o:Oper):Bool:=match lG o with
 |some b=>!b
 |none=>Tb
end
end Go.X.U
end
section
namespace Go.X
section
def mA(l:List Int):List Value:=l.map (zdk .i64)
theorem RX(M:Fr)(xs:List Int):RowC M (.int .i64) xs (mA xs):=by
 refine⟨by simp[sz,mA],λi hi=>?_⟩;simp only[sz,zb1];have b:i<(mA xs).length:=by unfold mA;simpa using hi
 rw[ZM b,List.take_succ_cons,List.take_zero];simp only[mA,zcb];rfl
end
end Go.X
end
section
namespace Go.X
open Go Go.X Go.Proofs Go.RowKit
section
variable {f:FuncId} {args:Array Value} {h:zc} {g:Bool}
def fP(k:Int)(s:Bt)(a b:Sl):Value:=.agg #[.int .i64 k,.string s,aK a,aK b]
theorem Rq{k f:Int}{s s':Bt}{a b a' e:Sl}(h:fP k s a b=fP f s' a' e):k=f/\s=s'/\a=a'/\b=e:=by unfold fP aK at h;injection h with h;simp only[Array.mk.injEq,za4,and_true]at h;obtain⟨h1,c,l,i⟩:=h;injection h1 with _ h1;injection c with c;injection l with e1 e2 e3;injection i with f1 f2 f3;refine⟨h1,c,?_,?_⟩;cases a;cases a';simp_all;cases b;cases e;simp_all
theorem se(i:g=Ta){Kt:Int->Bt->Sl->Sl->zc->Prop}(E:XC Tp f args h λv h'=>∃k s a b,v=fP k s a b/\Kt k s a b h'):
  ∃J:Value->zc->Prop,(g=Ta->XC Tp f args h λv h'=>∃k:Int,∃s:Bt,∃a:Sl,∃b:Sl,v=fP k s a b/\J (fP k s a b) h')/\(g=Tb->∃k:Int,∃s:Bt,∃a:Sl,∃b:Sl,J (fP k s a b) h) /\ (g=Ta->∀v h',J v h'->∃k:Int,∃s:Bt,∃a:Sl,∃b:Sl,v=fP k s a b)/\∀k:Int,∀s:Bt,∀a:Sl,∀b:Sl,∀h',J (fP k s a b) h'->Kt k s a b h':=by
 refine⟨λv h'=>∃k s a b,v=fP k s a b/\Kt k s a b h',λ_=>XC.mono E λv h' ⟨k,s,a,b,e,H⟩=>⟨k,s,a,b,e,k,s,a,b,rfl,H⟩,λc=>(by rw[i]at c;cases c),λ_ v h' ⟨k,s,a,b,e,_⟩=>⟨k,s,a,b,e⟩,λk s a b h' ⟨m,s',a',l,e,H⟩=>?_⟩;obtain⟨rfl,rfl,rfl,rfl⟩:=Rq e;exact H
theorem Xx(c:g=Ta){Kt:Bool->zc->Prop}(E:XC Tp f args h λv h'=>∃r,v=.bool r/\Kt r h'):
  ∃J:Value->zc->Prop,(g=Ta->XC Tp f args h λv h'=>∃r:Bool,v=.bool r/\J (.bool r) h')/\(g=Tb->∃r:Bool,J (.bool r) h)/\(g=Ta->∀v h',J v h'->∃r:Bool,v=.bool r)/\∀r:Bool,∀h',J (.bool r) h'->Kt r h':=by
 refine⟨λv h'=>∃r,v=.bool r/\Kt r h',λ_=>XC.mono E λv h' ⟨r,e,H⟩=>⟨r,e,r,rfl,H⟩,λb=>(by rw[c]at b;cases b),λ_ v h' ⟨r,e,_⟩=>⟨r,e⟩,λr h' ⟨i,e,H⟩=>?_⟩;injection e with e;subst e;exact H
theorem m7{h h1:zc}{s:Sl}(f:g=Ta){Kt:Sl->zc->Prop}(E:Kt s h1):
  ∃J:Value->zc->Prop,(g=Ta->J (aK s) h1)/\(g=Tb->∃x:Sl,J (aK x) h)/\(g=Ta->∀v h',J v h'->∃x:Sl,v=aK x)/\∀x:Sl,∀h',J (aK x) h'->Kt x h':=by
 refine⟨λv h'=>∃x,v=aK x/\Kt x h',λ_=>⟨s,rfl,E⟩,λc=>(by rw[f]at c;cases c),λ_ v h' ⟨x,e,_⟩=>⟨x,e⟩,λx h' ⟨b,e,H⟩=>?_⟩;have:x=b:=by unfold aK at e;injection e with e1 e2 e3;cases x;cases b;simp_all
 subst this;exact H
section
variable {gl : Fr} {b2 b29 : Nat} {k2 k29 : Int} {s2 : Bt} {a2 c2 a29 c29 : Sl} {h : zc} {M : Fr}
end
end
end Go.X
end
section
namespace Go.X
section
theorem yp(b:Nat)(c1:Addr)(h:zc)(R:Value->zc->Prop) (H:∃s:Option Nat,ze h c1=Tc (.map s)/\xd Tp (zdd 137 (.map s)) h (λG F=>∃k:Option Addr,G=.pointer k/\∃(o:zc->Prop) (p:zc->Nat),o F/\∀m:zc,o m->(xd Tp (zc9 (.pointer k) Tb 0) m (λz l=>(z=.tuple #[.bool Tb]/\(Tb=Ta->xd Tp (zde (.pointer k)) l (λy B=>∃r u:Value,y=.tuple #[r,u]/\YX Tp b #[r] B (λx f=>∃e:Bool,x=.bool e/\((!e)=Ta->R (.tuple #[]) f)/\((!e)=Tb->(o f/\p f<p m)))))/\(Tb=Tb->R (.tuple #[]) l))\/∃C A:Value,z=.tuple #[.bool Ta,C,A]/\(Ta=Ta->xd Tp (zde (.pointer k)) l (λD E=>∃q w:Value,D=.tuple #[q,w]/\YX Tp b #[q] E (λt i=>∃c:Bool,t=.bool c/\((!c)=Ta->R (.tuple #[]) i)/\((!c)=Tb->(o i/\p i<p m)))))/\(Ta=Tb->R (.tuple #[]) l))))):
  jG Tp 183 #[.func (.yield b) #[] #[],.pointer (Tc c1)] h R:=
 GU Tryz.mixed ⟨[],[(1,[])],[]⟩ [.func (.yield b) #[] #[],.pointer (Tc c1)] (rs:=[]) (n:=14) Tryz.func183 (by kernel_rfl) (by kernel_rfl) (by kernel_rfl) (by kernel_rfl) (Eq.mp (by kernel_rfl) H)
theorem Zr(k:Sl)(f:Value)(h:zc)(R:Value->zc->Prop) (H:let c:zc:=za9 h (.cells #[.slice k.a k.len k.cap] 22);∃(o:FuncId) (l:Array Value),f=.func (.func o) #[] l/\zx Tp o=Ta/\∀e:fW,(∀{q:Value} {m:zc} {p:Value->zc->Prop},m[(ZK c+1)]?=Tc (.loop (e .ready Td))->iF Tp 13 (iN (codeOf Tryz.f247)) (iB (codeOf Tryz.f247)) e (ZK c+1) p (putO [(0,[],.slice k.a k.len k.cap),(1,[],f),(2,[],.pointer (Tc ⟨ZK h,0,Td⟩)),(4,[],.slice Td 0 0),(6,[],f)] (Tc 7) [] q) m->YX Tp (ZK c+1) #[q] m p)->jG Tp o (#[.func (.yield (ZK c+1)) #[] #[]]++l) (za9 (za9 c (.deferred (Tc []))) (.loop (e .ready Td))) λ_ r=>oe e (ZK c+1) (λi=>∃b:Sl,ze i ⟨ZK h,0,Td⟩=Tc (.slice b.a b.len b.cap)/\(i)[ZK c]?=Tc (.deferred (Tc []))/\R (.slice b.a b.len b.cap) (Array.setIfInBounds i (ZK c) (.deferred Td))) (λi=>(i)[ZK c]?=Tc (.deferred (Tc []))/\R (.slice Td 0 0) (Array.setIfInBounds i (ZK c) (.deferred Td))) r):
  XC Tp 247 #[.slice k.a k.len k.cap,f] h R:=
 Fi Tryz.mixed [.slice k.a k.len k.cap,f] (rs:=[.tmp 4]) (n:=13) Tryz.func247 (by kernel_rfl) (by kernel_rfl) (by kernel_rfl) (by kernel_rfl) H (pl:=[]) (by kernel_rfl)
theorem Zs(x0:Value)(r:Value)(n:Addr)(p:Value)(q:Value)(o:Bt)(rec:fW)(l:Nat)(K:Value->zc->Prop)(h:zc) (H:(h)[l]?=Tc (.loop (rec .ready Td))/\let e:zc:=Array.setIfInBounds h l (.loop (rec .busy Td));∃c:Sl,ze e n=Tc (.slice c.a c.len c.cap)/\let i:zc:=za9 e (.cells #[.string o] 9);xd Tp (YY #[22,22] 22 #[.slice c.a c.len c.cap,.slice (Tc ⟨ZK e,0,Td⟩) 1 1]) i (λk m=>∃b:Sl,k=.slice b.a b.len b.cap/\XRunU Tp (YN 22 (.pointer (Tc n)) (.slice b.a b.len b.cap)) m (λf=>(f)[l]?=Tc (.loop (rec .busy Td))/\K (.bool Ta) (Array.setIfInBounds f l (.loop (rec .ready Td)))))):
  iF Tp 13 (iN (codeOf Tryz.f247)) (iB (codeOf Tryz.f247)) rec l K [(7,[],.string o),(0,[],x0),(1,[],r),(2,[],.pointer (Tc n)),(4,[],p),(6,[],q)] h:=
 Eq.mp (by kernel_rfl) H
end
section
theorem Xf(k:FuncId)(i:Array Value)(l:Array Value)(h:zc)(R:Value->zc->Prop) (H:XC Tp 181 #[.func (.func k) i l] h (λb c=>∃d,b=aK d/\XC Tp 182 #[aK d] c (λe f=>e=.tuple #[]/\R (aK d) f))):
  XC Tp 109 #[.func (.func k) i l] h R:=
 XF ⟨[],[],[]⟩ [.tmp 2] 9 Tryz.func109 H
theorem y5(b:Option Nat)(h:zc)(R:Value->zc->Prop) (H:let a:=h.push (.cells #[.map b] 137);R (.func (.func 183) #[] #[.pointer (Tc ⟨h.size,0,Td⟩)]) a):
  XC Tp 110 #[.map b] h R:=
 XF ⟨[],[],[]⟩ [.tmp 2] 4 Tryz.func110 H
theorem J7(f:FuncId)(e:Array Value)(i:Array Value)(h:zc)(R:Value->zc->Prop) (H:XC Tp 247 #[.slice Td 0 0,.func (.func f) e i] h (λb c=>∃d,b=aK d/\R (aK d) c)):
  XC Tp 181 #[.func (.func f) e i] h R:=
 XF ⟨[],[],[]⟩ [.tmp 2] 5 Tryz.func181 H
end
end Go.X
end
section
namespace Go.X
open Go Go.Proofs Go.Shelf Go.RowKit
section
def RL:Go.Shelf.Ren:=⟨fun|190=>182|125=>249|258=>248|128=>305|129=>306|302=>296|303=>297|304=>298|305=>299|306=>300|307=>301|308=>302|309=>303|310=>304|333=>353|329=>354|330=>355|334=>356|335=>357|336=>358|344=>382|n=>n,fun|31=>22|9=>9|3=>3|46=>244|0=>0|51=>287|53=>272|4=>4|183=>281|182=>280|131=>182|5=>5|218=>316|222=>320|228=>333|229=>334|n=>n,fun|n=>n⟩
theorem ER:Go.Proofs.Lays.n190 Tp RL:=by constructor <;> intros <;> kernel_rfl
open Go.Sort Go.RowKit in
theorem UF(blk off cap:Nat)(ss:List (List UInt8))(w:World)(f:Holds encStr w blk off ss.toArray)(b:blk<w.heap.size)(c:ss.length<4611686018427387904):
  Calls Tp 182 #[.slice (Tc ⟨blk,off,Td⟩) ss.length cap] w λe w'=>
   e=.returned (.tuple #[])/\∃n os,w'=grow (putRow encStr (Sort.ahead w n) blk off (ss.mergeSort λx y=>decide (x<=y)).toArray) os:=Any.slices_Sort_string ER blk off cap ss w f b c
open Go.RowKit Go.Sort in
theorem Jd(p:Option Addr)(cap:Nat)(w:World): Calls Tp 182 #[.slice p 0 cap] w λe w'=>e=.returned (.tuple #[])/\w'=w:=Any.slices_Sort_string_none ER p cap w
end
end Go.X
end
section
namespace Go.X
open Go Go.Lib
section
def wa(xs:List Bt):List Bt:=((xs.map lb).mergeSort λx y=>decide (x<=y)).map bl
theorem FO{xs ys:List Bt}(h:xs.Perm ys):wa xs=wa ys:=by unfold wa;rw[mergeSort_of_perm (h.map lb)]
theorem Q5(xs:List Bt):(wa xs).Perm xs:=by
 have h:=(List.mergeSort_perm (xs.map lb) λx y=>decide (x<=y)).map bl;rw[za8]at h;have e:bl ∘ lb=id:=by funext x;exact gv x
 rw[e,List.map_id]at h;exact h
theorem vy(xs:List Bt):(wa xs).length=xs.length:=(Q5 xs).length_eq
end
end Go.X
end
section
namespace Go.X
open Go Go.X Go.Proofs Go.RowKit Go.Sort Go.Shelf
section
variable {h:zc} {s:Sl} {xs:List Bt} {K:Value -> zc -> Prop} {c m:Nat}
theorem XC.of_below{P:Program}{f:FuncId}{args:Array Value}{R:Value->zc->Prop}(H:∀B d,Calls P f args (mk B d h) λe w'=>∃v,e=.returned v/\w'.os=B.os/\w'.tape=B.tape/\w'.output=B.output/\R v w'.heap):XC P f args h R:=by intro B d;refine(H B d).mono ?_;rintro e w' ⟨v,rfl,h1,c,i,b⟩;refine⟨v,w'.drawn,w'.heap,rfl,?_,b⟩;cases w';simp only[mk]at *;simp_all
theorem v9{base:Nat}(H:Owns h base 9 1 s (xs.map ZD)):s.len=xs.length:=by have:=H.length;grind
theorem JA{base:Nat}(H:Owns h base 9 1 s (xs.map ZD))(t:xs.length<=1000000):
  XC Tp 182 #[.slice s.a s.len s.cap] h λv h'=>v=.tuple #[]/\Owns h' base 9 1 s ((wa xs).map ZD)/\h.size<=h'.size/\∀i,i<h.size->(∀p,s.a=Tc p->i≠p.block)->h'[i]?=h[i]?:=by
 refine XC.of_below λB d=>?_;have z:s.len=xs.length:=v9 H;have k:(xs.map lb).length=xs.length:=by simp
 have c:(wa xs).map ZD=((xs.map lb).mergeSort λx y=>decide (x<=y)).map encStr:=by unfold wa;rw[za8];rfl
 rcases H.2 with⟨q,h0⟩|⟨g,cap,m,q,o,F,J,I,D,L⟩;have E:xs=[]:=zaa (by omega);subst E;rw[h0];refine(Jd s.a s.cap (mk B d h)).mono ?_;rintro e w' ⟨rfl,rfl⟩;exact⟨_,rfl,rfl,rfl,rfl,rfl,by rw[show wa []=[]from List.Perm.eq_nil (Q5 [])];exact H,YM _,λ_ _ _=>rfl⟩;simp only[ZU]at q;obtain⟨A,_,rfl⟩:=q;have f:(mk B d h).heap[g]?=Tc (.cells m 9 (0,0)):=F;have r:g<(mk B d h).heap.size:=(YV.1 f).1;have G:Holds encStr (mk B d h) g 0 (xs.map lb).toArray:=holds_of_block f (by simp_all);have C:=UF g 0 s.cap (xs.map lb) (mk B d h) G r (by rw[k];omega);rw[k,<-z]at C;rw[A];refine C.mono ?_;rintro e w' ⟨rfl,n,os,rfl⟩;have b:=grownBy_sorted (w:=mk B d h) (g:=g) (n:=n) (os:=os) ((xs.map lb).mergeSort λx y=>decide (x<=y)).toArray;refine⟨_,rfl,b.os,b.tape,b.output,rfl,?_,b.size,λi hi l=>b.block i hi λe=>l _ rfl (by simpa using e)⟩;have u:=ownsRow_sorted (w:=mk B d h) (base:=base) (n:=n) (os:=os) (ss:=xs.map lb) (ts:=(xs.map lb).mergeSort λx y=>decide (x<=y)) (by simp) o f (by omega) I (by simpa using D);rw[<-c,k,<-z]at u;show World.ownsRow _ base _ 1 (.slice s.a s.len s.cap) s.len _;rw[A];exact u
theorem Nl:ZW.underlying 137=Tc (.map 9 25):=by kernel_rfl
theorem RD:zx Tp 183=Ta:=by kernel_rfl
theorem EZ:∀{xs ys:List Bt},xs.Nodup->(∀x∈xs,x∈ys)->xs.length<=ys.length
 |[],_,_,_=>ZN _
 |x::xs,ys,hn,hs=>by
  rw[zcp]at hn;have c:=hs x ZB;obtain⟨a,b,rfl⟩:=List.append_of_mem c;have:=EZ (ys:=a++b) hn.2 λy e=>by grind
  grind
structure KyS (h:zc) (m:Nat) (rec:fW) (ps:List (Bt×Value)) (g:zc) (xs:List Bt) (sl:Sl):Prop where
 keep:Keep h.size h g
 d:g[h.size+1]?=Tc (.deferred (Tc []))
 rc:g[h.size+2]?=Tc (.loop (rec .ready Td))
 box:Blk g h.size #[aK sl]
 o:Owns g (h.size+4) 9 1 sl (xs.map ZD)
 it:MapIt g (h.size+3) m (eR ps) (xs.reverse.map ZD)
 nd:xs.Nodup
 sub:∀x∈xs,x∈ps.map (·.1)
 gz:h.size+4<=g.size
theorem TO(ps:List (Bt×Value)):(eR ps).map (·.1)=(ps.map (·.1)).map ZD:=by unfold eR;simp
theorem O0{ks:List Bt}(h:ks.Nodup):(ks.map ZD).Nodup:=by grind
section
variable {h : zc} {m : Nat} {rec : fW} {ps : List (Bt × Value)} {g : zc} {xs : List Bt} {sl : Sl}
set_option maxRecDepth 100000 in
theorem KyS.round(S:KyS h m rec ps g xs sl)(hm:m<h.size)(hx:xs.length<=1000000){e:zc}{k:Bt}(u:MapIt e (h.size+3) m (eR ps) ((k::xs.reverse).map ZD))(Y:e.size=g.size)(D:∀j,j≠h.size+3->e[j]?=g[j]?)(hk:k∉xs)(M:k∈ps.map (·.1)) {V J x0 I:Value} (O:∀g' y,KyS h m rec ps g' (xs++[k]) y->g'[h.size+3]?=e[h.size+3]?->g'[m]?=e[m]?->K (.bool Ta) g'):
  iF Tp 13 (iN (codeOf Tryz.f247)) (iB (codeOf Tryz.f247)) rec (h.size+2) K [(7,[],.string k),(0,[],x0),(1,[],I),(2,[],.pointer (Tc ⟨h.size,0,Td⟩)),(4,[],J),(6,[],V)] e:=by
 apply Zs;have gz:=S.gz;have ky:=S.keep.size;refine⟨by grind [rc],?_⟩;intro c;have G:∀j,j≠h.size+2->c[j]?=e[j]?:=λj l=>qw l;have U:c[h.size+2]?=Tc (.loop (rec .busy Td)):=set_self (by omega);have z2:c.size=e.size:=zah;clear_value c;have t:∀j,j≠h.size+2->j≠h.size+3->c[j]?=g[j]?:=λj a b=>(G j a).trans (D j b);have B:Blk c h.size #[aK sl]:=S.box.keep (t _ (by omega) (by omega));refine⟨sl,B.cell rfl,?_⟩;intro r;obtain⟨z,z3,Q⟩:=jo (g:=r) rfl;clear_value r;have P:Owns c (h.size+4) 9 1 sl (xs.map ZD):=S.o.keep λp f=>by have:=S.o.base_le p f;grind
 have A:=P.keepN z;have hl:=v9 S.o;refine Jo elemStr A (src:=⟨Tc ⟨c.size,0,Td⟩,1,1⟩) (news:=[.string k]) (n:=r.size) ?_ rfl (by simp[Value.oneCell']) (by grind) (by grind) (by omega) λs' E q1 C F q4 q5=>⟨s',rfl,?_⟩;refine .inr ⟨c.size,0,rfl,by omega,λi v s=>?_⟩
 match i,s with
 |0,s=>cases s;exact Q.cell rfl
 have q:∀j,j<h.size+4->E[j]?=c[j]?:=λj l=>by rw[F j (by omega) λp f=>by have:=A.base_le p f;omega];exact z.get j (by omega)
 refine yr VJ TT (B.keep (q _ (by omega))) (by simp) rfl λw H Z N=>?_;have x:∀j,j<h.size+4->j≠h.size->w[j]?=c[j]?:=λj l h0=>(N j h0).trans (q j l);have L:w[h.size+2]?=Tc (.loop (rec .busy Td)):=by rw[x _ (by omega) (by omega)];exact U
 refine⟨L,O _ s' ⟨?_,?_,set_self (by omega),?_,?_,?_,?_,?_,?_⟩ ?_ ?_⟩;refine S.keep.trans ⟨by grind,λj l=>?_⟩ (YM _);grind;grind [d];exact Blk.keep H (qw (by omega));have:Owns w (h.size+4) 9 1 s' ((xs++[k]).map ZD):=by rw[ZZ];exact C.keep λp f=>by have:=C.base_le p f;grind
 exact this.keep λp f=>by have:=this.base_le p f;grind
 rw[List.reverse_append];refine u.keep ?_ ?_;simp_all;grind;grind [nd];grind [sub];grind;simp_all;grind
end
set_option maxRecDepth 100000 in
theorem O3{ps:List (Bt×Value)}(C:Blk h c #[.map (Tc m)])(W:MapW h m (eR ps))(N:(ps.map (·.1)).Nodup)(hl:ps.length<=1000000) (Y:∀(h':zc) (sl:Sl) (xs:List Bt),Keep h.size h h'->Owns h' h.size 9 1 sl (xs.map ZD)->xs.Perm (ps.map (·.1))->K (.slice sl.a sl.len sl.cap) h'):
  XC Tp 247 #[.slice Td 0 0,.func (.func 183) #[] #[.pointer (Tc ⟨c,0,Td⟩)]] h K:=by
 apply Zr ⟨Td,0,0⟩;intro h1;obtain⟨Q,V,B1⟩:=jo (g:=h1) rfl;clear_value h1;have O:=W.lt;have Z:=C.lt;refine⟨_,_,rfl,RD,λrec J=>?_⟩;obtain⟨f,b⟩:∃f:zc,f=((h1.push (.deferred (Tc []))).push (.loop (rec .ready Td))):=⟨_,rfl⟩;have P:Keep h1.size h1 f:=by rw[b];exact(Keep.push _ _ (YM _)).trans (Keep.push _ _ (by simp)) (YM _)
 have z4:f.size=h1.size+2:=by rw[b,ZI,ZI]
 have M:f[h1.size]?=Tc (.deferred (Tc [])):=by rw[b,Array.getElem?_push,za (by simp)];exact xq _ _
 have L:f[h1.size+1]?=Tc (.loop (rec .ready Td)):=by rw[b];have:=xq (h1.push (.deferred (Tc []))) (.loop (rec .ready Td));rw[ZI]at this;exact this
 rw[<-b];clear b;have l:Keep h.size h f:=Q.trans P (by omega);have E:h1.size=h.size+1:=V;rw[E]at M L J ⊢;apply yp;refine⟨Tc m,(C.keep (l.get c Z)).cell rfl,?_⟩;have W4:MapW f m (eR ps):=W.keep (l.get m O);refine EF Nl W4 λh5 z5 t r=>⟨Tc ⟨f.size,0,Td⟩,rfl,λg=>∃xs sl,KyS h m rec ps g xs sl,λg=>leftN g (h.size+3) m,⟨[],⟨Td,0,0⟩,?_⟩,?_⟩;have F:f.size=h.size+3:=by omega
 rw[F]at r;exact⟨l.trans t (by omega),(t.get _ (by omega)).trans M,(t.get _ (by omega)).trans L,(B1.ofKeep P).keep (t.get _ (by omega)),Owns.nil _ _ _ _,r,List.nodup_nil,λx i=>(by cases i),by omega⟩;have F:f.size=h.size+3:=by omega
 rw[F];rintro g ⟨xs,sl,S⟩;have u:((eR ps).map (·.1)).Nodup:=by rw[TO];exact O0 N
 have w:xs.length<=1000000:=by have h1:=EZ S.nd S.sub;rw[ZA]at h1;omega
 refine D7 S.it u (by omega) (λn=>.inl ⟨rfl,(λi=>by cases i),λ_=>.inl ⟨S.rc,?_⟩⟩) λk v D U g1 y s z H rn=>.inr ⟨k,v,rfl,λ_=>?_,λi=>by cases i⟩;have aa:=S.gz;refine⟨sl,?_,?_,Y _ sl xs ?_ ?_ ?_⟩;exact(S.box.keep (qw (by omega))).cell rfl;rw[qw (by omega)];exact S.d;refine S.keep.trans ⟨by simp,λj hj=>?_⟩ (YM _);grind;refine(S.o.keep λp B=>?_).base (by omega);have:=S.o.base_le p B;grind;refine(List.perm_ext_iff_of_nodup S.nd N).2 λa=>⟨S.sub a,λha=>?_⟩;obtain⟨p,B,rfl⟩:=za6.1 ha;have:=n (.string p.1,p.2) (za6.2 ⟨p,B,rfl⟩);simp_all;obtain⟨⟨I,vv⟩,q,e⟩:=za6.1 D;injection e with E e2;subst E;subst e2;have A:I∉xs:=λi=>U (za6.2 ⟨I,List.mem_reverse.2 i,rfl⟩);refine D9 s ⟨_,_,rfl,J ?_ ?_⟩;rw[H _ (by omega)];exact S.rc;refine S.round O w y z H A (za6.2 ⟨_,q,rfl⟩) λg' G S' q1 q2=>⟨Ta,rfl,(λi=>by cases i),λ_=>⟨⟨_,G,S'⟩,?_⟩⟩;grind [leftN.keep]
theorem I6{ps:List (Bt×Value)}(C:Blk h c #[.map (Tc m)])(W:MapW h m (eR ps))(n:(ps.map (·.1)).Nodup)(k:ps.length<=1000000) (q:∀h' sl,Keep h.size h h'->Owns h' h.size 9 1 sl ((wa (ps.map (·.1))).map ZD)->K (.slice sl.a sl.len sl.cap) h'):
  XC Tp 109 #[.func (.func 183) #[] #[.pointer (Tc ⟨c,0,Td⟩)]] h K:=by
 apply Xf;apply J7;refine O3 C W n k λh1 sl xs e l b=>⟨sl,rfl,sl,rfl,?_⟩;have f:xs.length<=1000000:=by rw[b.length_eq,ZA];exact k
 refine XC.mono (JA l f) ?_;rintro v h2 ⟨rfl,r,z2,o⟩;refine⟨rfl,q h2 sl ⟨zaj e.size z2,λi hi=>?_⟩ (by rw[<-FO b];exact r)⟩;refine(o i (zcc hi e.size) λp b=>?_).trans (e.get i hi);have:=(l.base_le p b).1;omega
end
end Go.X
end
section
namespace Go.X
open Go Go.Lib
section
def fY:List (Bt×Tr)->Bt->Tr
 |[],_=>.mk 0 (bl []) [] []
 |p::l,k=>if p.1=k then p.2 else fY l k
mutual
def zu:Tr->Tr
 |.mk k s ks xs=>if k=6 then .mk k s (wa ks) ((wa ks).map λq=>fY (ks.zip (pI xs)) q)else .mk k s [] (pI xs)
def pI:List Tr->List Tr
 |[]=>[]
 |x::l=>zu x::pI l
end
def vO(v:Tr):Tr:=if Zp v=Ta then zu v else .mk 0 (bl []) [] []
theorem Ca:∀l:List Tr,pI l=l.map zu
 |[]=>rfl
 |x::l=>by rw[pI,Ca l];rfl
theorem Q6(v:Tr):zu v=if v.kind=6 then .mk v.kind v.text (wa v.keys) ((wa v.keys).map λq=>fY (v.keys.zip (v.items.map zu)) q)else .mk v.kind v.text [] (v.items.map zu):=by
 cases v with
 |mk k s ks xs=>rw[zu,Ca]
theorem x6(k:Bt):∀(ks:List Bt) (ys:List Tr),ks.length=ys.length->k∈ks->∃(j:Nat) (h1:j<ks.length) (m:j<ys.length),ks[j]=k/\fY (ks.zip ys) k=ys[j]/\∀us:List Value,us.length=ks.length->fh (ks.zip us) k=us[j]?
 |[],_,_,h=>by cases h
 |z::ks,[],h,_=>by simp at h
 |z::ks,y::ys,h,hk=>by
  by_cases c:z=k;refine⟨0,by simp,by simp,c,?_,λus b=>?_⟩;rw[zbe,fY,zb c];rfl
  match us,b with
  |u::us,_=>rw[zbe,fh,zb c];rfl
  have f:k∈ks:=by rcases YS.1 hk with e|e;simp_all;exact e
  obtain⟨j,h1,m,i,n,l⟩:=x6 k ks ys (by simpa using h) f;refine⟨j+1,by simp;omega,by simp;omega,by simpa using i,?_,λus b=>?_⟩;rw[zbe,fY,za c,n];rfl
  match us,b with
  |u::us,b=>rw[zbe,fh,za c,l us (by simpa using b)];rfl
end
end Go.X
end
section
namespace Go.X
open Go Go.X Go.Proofs Go.RowKit
section
variable {ks:List Bt}
theorem Owns.frz{h g:zc}{M M':Fr}(L:Later h M g M'){s:Sl}{base:Nat}(o:Owns g base 9 1 s (ks.map ZD))(B:h.size<=base)(D:ks.length<=1000000):
  ∃M2,Later h M g M2/\(∀c,c<base->M2 c=M' c)/\Rd M2 (.row .str) ks [aK s]:=by
 have n:=v9 o;rcases o.2 with⟨k,h0⟩|⟨b,cap,f,k,m,p,A,C,z,r⟩;have l:ks=[]:=zaa (by omega);subst l;simp only[ZU]at k;refine⟨M',L,λ_ _=>rfl,⟨_,rfl,s.a,s.cap,?_,⟨by simp,by simp⟩,.inl rfl⟩⟩;show aK s=_;unfold aK;rw[h0];rfl;simp only[ZU]at k;obtain⟨u,_,y⟩:=k;have w:Blk g b f:=⟨_,p⟩;refine⟨MxL M' g [b],⟨L.keep,L.le.trans (Y4 L.ag _),λx l=>?_,MxL.ag L.ag _⟩,λc y=>?_,⟨_,rfl,s.a,s.cap,?_,⟨by omega,by omega⟩,.inr ⟨b,0,f,u,MxL.at (by simp) w,λi hi=>?_⟩⟩⟩;unfold MxL;rw[za (by simp;omega)];exact L.old x l;unfold MxL;grind;show aK s=_;unfold aK;rw[n];show cut f (0+i*1) 1=[.string ks[i]];apply zap;intro q;rw[yu];by_cases t:q<1;have:q=0:=by omega
 subst this;rw[zb t];have e:(f.toList.take (s.len*1))[i]?=(ks.map ZD)[i]?:=by rw[r]
 grind;simp_all
structure SrS (h:zc) (M:Fr) (r o lo:Nat) (k:Int) (s:Bt) (sk:Sl) (xs:List Tr) (g:zc) (M':Fr) (so:Sl) (bs:List Nat):Prop where
 L:Later h M g M'
 res:Blk g r #[.int .i64 0,.string ⟨#[]⟩,.slice Td 0 0,.slice Td 0 0]
 out:Blk g o #[.int .i64 k,.string s,aK sk,aK so]
 row:ORow lo g M' .tree xs so bs
 nO:M' o=Td
 nR:M' r=Td
 hr:h.size<=r
 ro:r<o
 ol:o<lo
 lg:lo<=g.size
section
variable {h : zc} {M : Fr} {r o lo : Nat} {k : Int} {s : Bt} {sk : Sl} {xs : List Tr} {g : zc} {M' : Fr} {so : Sl} {bs : List Nat}
theorem SrS.add(S:SrS h M r o lo k s sk xs g M' so bs)(hn:xs.length<=1000000){O:zc}{M1:Fr}(m:Later g M' O M1){x:Tr}{xk xi:Sl}(Q:RdV M1 .tree x (.agg #[.int .i64 x.kind,.string x.text,aK xk,aK xi])){K:zc->Prop}
  (hK:∀g' H q,SrS h M r o lo k s sk (xs++[x]) g' M1 H q->(∀j,j<lo->j≠o->g'[j]?=g[j]?)->K g'):
  let i:=O.push (.cells #[.int .i64 x.kind,.string x.text,aK xk,aK xi] 25)
  xd Tp (YY #[23,23] 23 #[aK so,.slice (Tc ⟨O.size,0,Td⟩) 1 1]) i (λv n=>∃z:Sl,v=aK z/\XRunU Tp (YN 23 (.pointer (Tc (YK ⟨o,0,Td⟩ 3))) (aK z)) n K):=by
 intro i;obtain⟨B,ae,U⟩:=jo (g:=i) rfl;clear_value i;have z1:=m.keep.size;have P:=S.hr;have J:=S.ro;have y:=S.ol;have af:=S.lg;have p:Later g M' i M1:=m.trans (Later.same m.ag B);have u:=S.row.call p;have rd:Rd M1 .tree x [.int .i64 x.kind,.string x.text,aK xk,aK xi]:=by
  unfold RdV at Q;simp only[fe,if_true]at Q;obtain⟨cs,e,P⟩:=Q;injection e with e;have:cs=[.int .i64 x.kind,.string x.text,aK xk,aK xi]:=by have:=congrArg Array.toList e;simpa using this.symm
  rw[<-this];exact P
 refine ORow.app sj (by omega) p.ag u (by omega) U rd hn λs' n q l aa ab C=>⟨s',rfl,?_⟩;have F:∀c∈bs,lo<=c/\c<g.size/\M' c=Td:=S.row.own;have t:∀j,j<lo->n[j]?=g[j]?:=λj D=>by rw[C j (by omega) (λV=>by grind),B.get j (by omega)];exact m.keep.get j (by omega)
 rw[zw];refine yr te sC (S.out.keep (t o y)) (by simp) rfl λw u1 u3 N=>?_;have f:∀j,j<lo->j≠o->w[j]?=g[j]?:=λj D h0=>(N j h0).trans (t j D);have A:∀c∈q,lo<=c/\c<n.size/\M1 c=Td:=l.own;have hg:=S.L.keep.size;refine hK w s' q ⟨⟨⟨by omega,λj D=>?_⟩,S.L.le.trans m.le,λb Z=>?_,?_⟩,?_,u1,?_,?_,?_,P,J,y,by omega⟩ f;rw[f j (by omega) (by omega)];exact S.L.keep.get j D;rw[m.old b (by omega)];exact S.L.old b Z;intro c cs e;have E:=p.ag.lt e;have I:c∉bs:=λV=>by obtain⟨_,h1,Y⟩:=F c V;rw[m.old c h1,Y]at e;cases e
 have G:c≠o:=λh=>by subst h;rw[m.old c (by omega),S.nO]at e;cases e
 rw[N c G,C c E I];exact p.ag c cs e;exact S.res.keep (f r (by omega) (by omega));exact l.frame (λc E=>N c (by grind)) (Fr.le.refl _) λc E=>(A c E).2.2;rw[m.old o (by omega)];exact S.nO;rw[m.old r (by omega)];exact S.nR
theorem SrS.fin(S:SrS h M r o lo k s sk xs g M' so bs)(O:xs.length<=1000000)(I:Rd M' (.row .str) ks [aK sk]){w:Tr}(N:Tr.mk k s ks xs=w):
  ∃(D:Int) (A:Bt) (x u:Sl),zd g ⟨o,0,Td⟩ 0 [.int .i64 D,.string A,aK x,aK u]/\XRunU Tp (YN 25 (.pointer (Tc ⟨r,0,Td⟩)) (.agg #[.int .i64 D,.string A,aK x,aK u])) g λi=>
   ∃(y:Int) (E:Bt) (z B:Sl),zd i ⟨r,0,Td⟩ 0 [.int .i64 y,.string E,aK z,aK B]/\∃M2 q,Later h M i M2/\Yf M2 [.tree] q (.agg #[.int .i64 y,.string E,aK z,aK B])/\q=w:=by
 refine⟨k,s,sk,so,S.out.ld (cs:=[_,_,aK sk,aK so]),?_⟩;refine Yn S.res λm t z2 Q=>⟨k,s,sk,so,Q.ld (cs:=[_,_,aK sk,aK so]),?_⟩;have U:=S.hr;have H:=S.ro;have F:=S.ol;have J:=S.lg;have p:∀c∈bs,lo<=c/\c<g.size/\M' c=Td:=S.row.own;have f:AgM M' m:=λc cs e=>by rw[t c (λh=>by grind [nR])];exact S.L.ag c cs e
 have l:ORow lo m M' .tree xs so bs:=S.row.frame (λc n=>t c (by grind)) (Fr.le.refl _) λc n=>(p c n).2.2;have C:Later h M m M':=⟨⟨by omega,λj P=>by rw[t j (by omega)];exact S.L.keep.get j P⟩,S.L.le,S.L.old,f⟩;refine⟨MxL M' m bs,_,⟨C.keep,C.le.trans (Y4 f bs),λb G=>?_,MxL.ag f bs⟩,Yu.2 (zj (v:=.mk k s ks xs) (I.mono (Y4 f bs)) (l.rd f (λc n=>n) O)),N⟩;unfold MxL;rw[za (λV=>by grind)];exact S.L.old b G
end
set_option maxRecDepth 100000 in
set_option maxHeartbeats 2000000 in
theorem C6:∀(n:Nat) (v:Tr),n<=1000000->bK v<=n->Q4 zn v=Ta->Sm v->∀(h:zc) (M:Fr) (u:Value),AgM M h->RdV M .tree v u->PX Tp 66 #[u] h M [.tree] (λq=>q=zu v)
 |0,v,_,hz,_,_=>by have:=Jc v;omega
 |n+1,v,hn,hz,hok,hsm=>by
  intro h M u ag hu;have aQ:=hu;obtain⟨sk,si,rfl,rk,ri⟩:=ye hu;have f:=hok;rw[Yj,ZE]at f;have be:v.items.length<=1000000:=by have:=Zo v.items;rw[Zu]at hz;omega
  have ih:∀(i:Nat) (hi:i<v.items.length) (h:zc) (M:Fr) (u:Value),AgM M h->RdV M .tree v.items[i] u->PX Tp 66 #[u] h M [.tree] (λq=>q=zu v.items[i]):=λi hi=>by
   have hm:=YW hi;have hs:=q9 hm;have ak:Q4 zn v.items[i]=Ta:=by rw[wo,ZJ]at f;exact f.2 _ hm
   exact C6 n v.items[i] (by omega) (by omega) ak (hsm.item hm)
  obtain⟨li,_,_⟩:=rowLen ri;apply PX.of;apply Ni v.kind v.text sk si;intro h1;obtain⟨k1,z1,B1⟩:=jo (g:=h1) rfl;clear_value h1;intro l;obtain⟨k2,z2,R2⟩:=jo (g:=l) rfl;clear_value l;have B2:=B1.ofKeep k2;refine⟨v.kind,B2.cellAdd (o:=0) (k:=0) rfl,v.text,B2.cellAdd (o:=0) (k:=1) rfl,?_⟩;intro h5;obtain⟨k5,z5,O5⟩:=jo (g:=h5) rfl;clear_value h5;refine Yn (sk:=⟨Td,0,0⟩) (si:=⟨Td,0,0⟩) O5 λZ f6 z6 O6=>?_;have k6:Keep l.size l Z:=⟨by omega,λj C=>by rw[f6 j (by omega)];exact k5.get j C⟩;have I:Keep h.size h Z:=(k1.trans k2 (by omega)).trans k6 (by omega);have B6:=B2.ofKeep k6;have R6:=R2.ofKeep k6;have aC:=ag.keep I;refine⟨v.kind,B6.cellAdd (o:=0) (k:=0) rfl,λhx=>?_,λhx=>?_⟩;have Z:v.kind≠6:=by simpa using hx
  have hS:zu v=.mk v.kind v.text [] (v.items.map zu):=by rw[Q6,za Z]
  refine⟨si,B6.cellAdd (o:=0) (k:=3) rfl,λi g=>∃(m:Nat) (M':Fr) (so:Sl) (bs:List Nat),i=(m:Int)/\m<=v.items.length/\SrS h M h1.size l.size (l.size+1) v.kind v.text ⟨Td,0,0⟩ ((v.items.take m).map zu) g M' so bs,λi _=>v.items.length-i.toNat,⟨0,M,⟨Td,0,0⟩,[],rfl,ZN _,⟨Later.same ag I,R6,O6,ORow.nil,ag.none (by omega),ag.none (by omega),by omega,by omega,by omega,by omega⟩⟩,?_⟩;rintro i g ⟨m,M',so,bs,rfl,hm,S⟩;have s:=S.L.ag;refine⟨λJ=>?_,λJ=>?_⟩;have b:m<v.items.length:=by have:=zB J;omega
  obtain⟨a,ck,ci,ea,aO,t1,t2⟩:=Xt s (ri.mono S.L.le) b;refine⟨a,⟨ea,by omega,by omega⟩,v.items[m].kind,v.items[m].text,ck,ci,by rw[YO];exact aO,?_⟩;intro ap;obtain⟨aI,a6,aF⟩:=jo (g:=ap) rfl;clear_value ap;refine Yn aF λV aG aZ aM=>?_;have ax:Keep g.size g V:=⟨by omega,λj C=>by rw[aG j (by omega)];exact aI.get j C⟩;have a8:=S.out.lt;refine⟨so,(S.out.ofKeep ax).cellAdd (o:=0) (k:=3) rfl,v.items[m].kind,v.items[m].text,ck,ci,aM.ld (cs:=[_,_,aK ck,aK ci]),?_⟩;have au:Later g M' V M':=Later.same s ax;refine(ih m b _ _ _ au.ag (zj t1 t2)).go λw aS M2 q D t hq=>?_;subst hq;obtain⟨xk,xi,rfl,y1,y2⟩:=ye (Yu.1 t);have a1:=D.keep.size;have ho:aS[l.size]?=V[l.size]?:=D.keep.get _ (by omega);refine⟨_,_,xk,xi,rfl,by rw[zw];exact ho,?_⟩;intro bg;refine⟨by rw[zw];grind,S.add (by grind) (au.trans D) (zj y1 y2) λg' H G S' _=>⟨⟨m+1,M2,H,G,by rw[qd b (by omega)],b,?_⟩,?_⟩⟩;rw[YP b,ZZ];exact S';grind [qd];have b:m=v.items.length:=by have:=zC J;omega
  subst b;rw[ZO]at S;exact S.fin (by simp_all) py hS.symm;have P:v.kind=6:=by simpa using hx
  have hS:zu v=.mk v.kind v.text (wa v.keys) ((wa v.keys).map λq=>fY (v.keys.zip (v.items.map zu)) q):=by rw[Q6,zb P]
  have r:=f.1;have aL:v.keys.Nodup:=by unfold zn ym at r;simp[P]at r;exact r.1.1.2
  have aH:v.keys.length=v.items.length:=by unfold zn at r;simp[P]at r;exact r.1.2
  refine⟨v.kind,v.text,sk,si,B6.ld (cs:=[_,_,aK sk,aK si]),?_⟩;refine u7 aL aH (by omega) aC aQ λbu m us ai aY bz aV an=>⟨Tc m,rfl,?_⟩;have bq:=ai.size;apply y5;intro Y;obtain⟨ab,ba,aA⟩:=jo (g:=Y) rfl;clear_value Y;have N:MapW Y m (eR (v.keys.zip us)):=an.keep (ab.get m an.lt);have aE:(v.keys.zip us).map (·.1)=v.keys:=List.map_fst_zip (by omega);refine⟨_,rfl,I6 aA N (by grind) (by simp;omega) λE sl F ar=>⟨sl,rfl,?_⟩⟩;rw[aE]at ar;have bm:=F.size;have bn:(wa v.keys).length=v.keys.length:=vy _;have z:Keep Z.size Z E:=(ai.trans ab (by omega)).trans F (by omega);have ah:Keep h.size h E:=I.trans z (by omega);obtain⟨M2,D,B,O⟩:=Owns.frz (Later.same ag ah) ar (by omega) (by omega);have aU:Blk E l.size #[.int .i64 v.kind,.string v.text,aK ⟨Td,0,0⟩,aK ⟨Td,0,0⟩]:=O6.keep (z.get _ (by omega));have ay:M2 l.size=Td:=by rw[B _ (by omega)];exact ag.none (by omega)
  have aT:M2 h1.size=Td:=by rw[B _ (by omega)];exact ag.none (by omega)
  rw[zw];refine yr vZ xT aU (by simp) rfl λy ae bj A=>?_;have az:Later h M y M2:=⟨⟨by omega,λj C=>by rw[A j (by omega)];exact D.keep.get j C⟩,D.le,D.old,λc cs e=>by rw[A c (λh=>by simp_all)];exact D.ag c cs e⟩;have af:MapW y m (eR (v.keys.zip us)):=N.keep ((A m (by omega)).trans (F.get m N.lt));have aj:=af.lt;refine⟨sl,Blk.cell (o:=2) ae rfl,λi g=>∃(p:Nat) (M':Fr) (so:Sl) (bs:List Nat),i=(p:Int)/\p<=(wa v.keys).length/\SrS h M h1.size l.size y.size v.kind v.text sl (((wa v.keys).take p).map λq=>fY (v.keys.zip (v.items.map zu)) q) g M' so bs/\Fr.le M2 M'/\(∀j,j<y.size->j≠l.size->g[j]?=y[j]?),λi _=>(wa v.keys).length-i.toNat,⟨0,M2,⟨Td,0,0⟩,[],rfl,ZN _,⟨az,R6.keep ((A _ (by omega)).trans (z.get _ (by omega))),ae,ORow.nil,ay,aT,by omega,by omega,by omega,YM _⟩,Fr.le.refl _,λ_ _ _=>rfl⟩,?_⟩;obtain⟨bh,_,_⟩:=rowLen O;rintro i g ⟨p,M',so,bs,rfl,hp,S,U,fg⟩;have s:=S.L.ag;refine⟨λJ=>?_,λJ=>?_⟩;have b:p<(wa v.keys).length:=by have:=zB J;omega
  obtain⟨a,aJ,x,aN,aB⟩:=jt s (O.mono U) b (i:=(p:Int)) rfl (L:=sl.len) rfl (Q:=λx=>x=(wa v.keys)[p]) rfl;subst aB;refine⟨a,aJ,(wa v.keys)[p],aN,so,S.out.cellAdd (o:=0) (k:=3) rfl,?_⟩;have aP:(wa v.keys)[p]∈v.keys:=(Q5 v.keys).mem_iff.1 (YW b);obtain⟨j,j1,j2,e1,e2,e3⟩:=x6 (wa v.keys)[p] v.keys (v.items.map zu) (by simp_all) aP;rw[ZA]at j2;have am:j<us.length:=by omega
  obtain⟨ck,ci,eu,t1,t2⟩:=ye (aV j j2 am);have wg:MapW g m (eR (v.keys.zip us)):=af.keep (fg m aj (by omega));refine⟨v.items[j].kind,v.items[j].text,ck,ci,?_,rfl,?_⟩;have:=Wk mapVal wg.at (wa v.keys)[p] Tb;have eg:gQ (v.keys.zip us) (wa v.keys)[p] (.agg #[.int .i64 0,.string ⟨#[]⟩,.slice Td 0 0,.slice Td 0 0])=us[j]:=by unfold gQ;rw[e3 us (by omega),YR am];rfl
  rw[za (by simp),eg,eu]at this;exact this;refine(ih j j2 _ _ _ s (zj (t1.mono S.L.le) (t2.mono S.L.le))).go λw aa M3 q L3 t hq=>?_;subst hq;obtain⟨xk,xi,rfl,y1,y2⟩:=ye (Yu.1 t);have br:=L3.keep.size;have a7:=S.lg;have ho:aa[l.size]?=g[l.size]?:=L3.keep.get _ (by omega);refine⟨_,_,xk,xi,rfl,by rw[zw];exact ho,?_⟩;intro bo;refine⟨by rw[zw];exact((Keep.push aa _ (YM _)).get l.size (by omega)).trans ho,S.add (by grind) L3 (zj y1 y2) λg' H G S' f'=>⟨⟨p+1,M3,H,G,by rw[qd b (by omega)],b,?_,U.trans L3.le,λj C h0=>(f' j C h0).trans (fg j C h0)⟩,?_⟩⟩;rw[YP b,ZZ,zae,List.map_nil,e2,zcb];exact S';show(wa v.keys).length-(YJ .i64 ((p:Int)+1)).toNat<(wa v.keys).length-(p:Int).toNat;rw[qd b (by omega)];omega;have b:p=(wa v.keys).length:=by have:=zC J;omega
  subst b;rw[ZO]at S;exact S.fin (by simp_all) (O.mono U) hS.symm
end
end Go.X
end
section
namespace Go.X
open Go Go.Lib
section
variable {xs ys:List Tr} {α:Type} {v:Tr}
theorem Pf(h:xs.Perm ys):Yr xs=Yr ys:=by
 induction h with
 |nil=>rfl
 |cons x _ c=>rw[Yr,Yr,c]
 |swap x y l=>simp only[Yr];omega
 |trans _ _ a b=>rw[a,b]
theorem Ul(h:xs.Perm ys):ff xs=ff ys:=by
 induction h with
 |nil=>rfl
 |cons x _ c=>rw[ff,ff,c]
 |swap x y l=>simp only[ff];omega
 |trans _ _ a b=>rw[a,b]
theorem Uy{xs ys:List Nat}(h:xs.Perm ys):xs.sum=ys.sum:=by grind
theorem Ht{p:α->Bool}{xs ys:List α}(h:xs.Perm ys):xs.all p=ys.all p:=by grind
theorem xZ:∀(ks:List Bt) (ys:List Tr),ks.Nodup->ks.length=ys.length->(ks.map λq=>(q,fY (ks.zip ys) q))=ks.zip ys
 |[],ys,_,_=>by simp
 |k::ks,[],_,h=>by simp at h
 |k::ks,y::ys,hn,h=>by rw[zcp]at hn;rw[zae,zbe];congr 1;rw[fY,zb rfl];rw[<-xZ ks ys hn.2 (by simpa using h)];refine List.map_congr_left λq b=>?_;have:k≠q:=λe=>hn.1 (e ▸ b);rw[fY,za this];congr 2;exact xZ ks ys hn.2 (by simpa using h)
structure SrtF (v w:Tr):Prop where
 k:w.kind=v.kind
 t:w.text=v.text
 kp:w.keys.Perm v.keys
 ip:w.items.Perm (v.items.map zu)
 zp:(w.keys.zip w.items).Perm (v.keys.zip (v.items.map zu))
theorem Xg(b:zn v=Ta)(c:v.kind≠6):v.keys=[]:=by unfold zn at b;grind
theorem nf(b:zn v=Ta)(c:v.kind=6):v.keys.Nodup/\v.keys.length=v.items.length:=by unfold zn ym at b;simp_all
theorem DJ(h:zn v=Ta):SrtF v (zu v):=by
 rw[Q6];by_cases b:v.kind=6;rw[zb b];obtain⟨i,n⟩:=nf h b;have k:=xZ v.keys (v.items.map zu) i (by simp_all);have c:=(Q5 v.keys).map λq=>(q,fY (v.keys.zip (v.items.map zu)) q);rw[k]at c;have e:∀l:List Bt,l.zip (l.map λq=>fY (v.keys.zip (v.items.map zu)) q)=l.map λq=>(q,fY (v.keys.zip (v.items.map zu)) q):=by
  intro l;induction l with
  |nil=>rfl
  |cons x l m=>simp_all
 refine⟨rfl,rfl,Q5 _,?_,?_⟩;have:=c.map (·.2);rw[za8,List.map_snd_zip (by simp_all)]at this;exact this;simp_all;rw[za b];have f:=Xg h b;exact⟨rfl,rfl,by rw[f],.refl _,by rw[f]⟩
theorem KI{a:List α}:a.isEmpty=decide (a.length=0):=by grind
theorem VB{a b:List Bt}(h:a.Perm b):ym a=ym b:=by unfold ym;grind
theorem Lq{v w:Tr}(h1:w.kind=v.kind)(b:w.text=v.text)(e:w.keys.length=v.keys.length)(f:w.items.length=v.items.length)(c:ym w.keys=ym v.keys):zn w=zn v:=by unfold zn;grind [KI]
theorem BF(c:Bool)(nd lv:Nat)(ps:List Bs):(zK c nd lv ps).length+(if ps=[]then 0 else 1)=(ps.map λp=>p.length+(1+(jD c nd lv).length)).sum:=by
 cases ps with
 |nil=>rfl
 |cons p ps=>
  have:∀b:List Bs,(b.flatMap λq=>44::(jD c nd lv++q)).length=(b.map λp=>p.length+(1+(jD c nd lv).length)).sum:=by
   intro b;induction b with
   |nil=>rfl
   |cons q b e=>grind
  rw[zK,ZC,ZC,this,zae,List.sum_cons,za (by simp)];omega
theorem CN{b:Bool}{nd lv:Nat}{ps c:List Bs}(h:(ps.map zam).Perm (c.map zam)):(lO b nd lv ps).length=(lO b nd lv c).length:=by
 have e:(ps=[])↔(c=[]):=by have:=h.length_eq;rw[ZA,ZA]at this;rw[<-zau,<-zau,this]
 have h1:=BF b nd (lv+1) ps;have i:=BF b nd (lv+1) c;have f:=Uy (h.map λn=>n+(1+(jD b nd (lv+1)).length));rw[za8,za8]at f;have f:(ps.map λp=>p.length+(1+(jD b nd (lv+1)).length)).sum=(c.map λp=>p.length+(1+(jD b nd (lv+1)).length)).sum:=f;unfold lO;grind
theorem HL{α β γ:Type}(f:α->β->γ):∀(a:List α) (b:List β),List.zipWith f a b=(a.zip b).map λp=>f p.1 p.2
 |[],_=>by simp
 |_::_,[]=>by simp
 |x::a,y::b=>by rw[List.zipWith_cons_cons,zbe,zae,HL f a b]
structure SrtG (v:Tr):Prop where
 sz:bK (zu v)=bK v
 dp:bR (zu v)=bR v
 okv:Q4 mS (zu v)=Q4 mS v
 nok:Q4 zn (zu v)=Ta
 tx:∀m,ge m v->ge m (zu v)
 len:∀(ln:Bool) (N lv:Nat),(gg ln N (zu v) lv).length=(gg ln N v lv).length
theorem GP{f:Tr->Tr}:∀{l:List Tr},(∀x∈l,bK (f x)=bK x)->Yr (l.map f)=Yr l
 |[],_=>rfl
 |x::l,h=>by rw[zae,Yr,Yr,h x ZB,GP λy b=>h y (YU _ b)]
theorem FT{f:Tr->Tr}:∀{l:List Tr},(∀x∈l,bR (f x)=bR x)->ff (l.map f)=ff l
 |[],_=>rfl
 |x::l,h=>by rw[zae,ff,ff,h x ZB,FT λy b=>h y (YU _ b)]
theorem BR:∀(n:Nat) (v:Tr),bK v<=n->Q4 zn v=Ta->SrtG v
 |0,v,h,_=>by have:=Jc v;omega
 |n+1,v,hz,hok=>by
  rw[Yj,ZE,wo,ZJ]at hok;obtain⟨o,f⟩:=hok;have S:=DJ o;have e:∀x∈v.items,SrtG x:=λx b=>BR n x (by have:=q9 b;omega) (f x b);have l:zn (zu v)=zn v:=Lq S.k S.t S.kp.length_eq (by rw[S.ip.length_eq,ZA]) (VB S.kp);refine⟨?_,?_,?_,?_,λm h=>?_,λc N lv=>?_⟩;rw[Zu,Zu v,Pf S.ip,GP λx b=>(e x b).sz];rw[Xu,Xu v,Ul S.ip,FT λx b=>(e x b).dp];rw[Yj,Yj _ v,wo,wo,Ht S.ip,List.all_map];have u:mS (zu v)=mS v:=by unfold mS;rw[l,S.k]
  rw[u];congr 1;rw[ZR,ZJ,ZJ];exact⟨λa x b=>by rw[<-(e x b).okv];exact a x b,λa x b=>by show Q4 mS (zu x)=Ta;rw[(e x b).okv];exact a x b⟩;rw[Yj,l,o,zao,wo,Ht S.ip,List.all_map,ZJ];exact λx b=>(e x b).nok;rw[l3]at h ⊢;obtain⟨⟨h1,r,s⟩,w⟩:=h;refine⟨⟨by rw[S.t];exact h1,by rw[S.kp.length_eq];exact r,λk f=>s k (S.kp.mem_iff.1 f)⟩,p5.2 λx b=>?_⟩;obtain⟨y,i,rfl⟩:=za6.1 (S.ip.mem_iff.1 b);exact(e y i).tx m (p5.1 w y i);rw[AL,AL (v:=v),S.k,S.t];split;rfl;split;rfl;split;simp only[ZC,ZV];congr 2;refine CN ?_;rw[za8,za8];have h1:=S.ip.map λx=>(gg c N x (lv+1)).length;rw[za8]at h1;refine h1.trans ?_;have:v.items.map ((λx=>(gg c N x (lv+1)).length) ∘ zu)=v.items.map (zam ∘ λx=>gg c N x (lv+1)):=List.map_congr_left λx b=>(e x b).len c N (lv+1);rw[this];split;simp only[ZC,ZV];congr 2;refine CN ?_;have conv:∀(ks:List Bt) (xs:List Tr),(List.zipWith (jE c) ks (xs.map λx=>gg c N x (lv+1))).map zam=(ks.zip xs).map λp=>(jE c p.1 (gg c N p.2 (lv+1))).length:=by intro ks xs;rw[HL,List.zip_map_right,za8,za8];rfl
  rw[conv,conv];have h1:=S.zp.map λp=>(jE c p.1 (gg c N p.2 (lv+1))).length;refine h1.trans ?_;rw[List.zip_map_right,za8];have:(v.keys.zip v.items).map ((λp=>(jE c p.1 (gg c N p.2 (lv+1))).length) ∘ Prod.map id zu)=(v.keys.zip v.items).map λp=>(jE c p.1 (gg c N p.2 (lv+1))).length:=List.map_congr_left λp q=>by have:=(e p.2 (List.of_mem_zip q).2).len c N (lv+1);show(jE c p.1 (gg c N (zu p.2) (lv+1))).length=_;unfold jE;simp_all
  rw[this];rfl
theorem Mt(h:Sm v):Sm (vO v):=by unfold vO;by_cases b:Zp v=Ta;rw[zb b];unfold Zp at b;rw[ZE]at b;have S:=BR (bK v) v (YM _) b.2;exact⟨by rw[S.sz];exact h.sz,S.tx _ h.tx⟩;rw[za b];exact⟨by decide,by rw[l3];exact⟨⟨by decide,by decide,by decide⟩,trivial⟩⟩
end
end Go.X
end
section
namespace Go.X
open Go Go.X Go.Proofs Go.RowKit
section
theorem Later.own{h g:zc}{M M':Fr}{bs:List Nat}(L:Later h M g M')(i:∀c∈bs,h.size<=c):Later h M g (MxL M' g bs):=by
 refine⟨L.keep,L.le.trans (Y4 L.ag bs),λc b=>?_,MxL.ag L.ag bs⟩;have e:c∉bs:=λf=>by grind
 rw[<-L.old c b];unfold MxL;rw[za e]
section
variable {lo : Nat} {h g : zc} {M : Fr} {b : Nat} {sl sf : Sl} {b0 : List Nat} {X : List Bt} {s1 : Sl} {c1 : List Nat} {Y : List Int} {s2 : Sl} {c2 : List Nat}
end
end
section
theorem xm{g:zc}{M:Fr}(ag:AgM M g){k:Int}{s:Bt}{sk si:Sl}{K:zc->Prop}(c:∀g',Later g M g' M->g'.size=g.size+1->Blk g' g.size #[.int .i64 k,.string s,aK sk,aK si]->K g'):
  XRunU Tp (YN 25 (.pointer (Tc ⟨g.size,0,Td⟩)) (.agg #[.int .i64 k,.string s,aK sk,aK si])) (za9 g (.cells #[.int .i64 0,.string ⟨#[]⟩,.slice Td 0 0,.slice Td 0 0] 25)) K:=by
 have e:Keep g.size g (za9 g (.cells #[.int .i64 0,.string ⟨#[]⟩,.slice Td 0 0,.slice Td 0 0] 25)):=Keep.push _ _ (YM _);have i:(za9 g (.cells #[.int .i64 0,.string ⟨#[]⟩,.slice Td 0 0,.slice Td 0 0] 25)).size=g.size+1:=ZI _;have b:Blk (za9 g (.cells #[.int .i64 0,.string ⟨#[]⟩,.slice Td 0 0,.slice Td 0 0] 25)) g.size #[.int .i64 0,.string ⟨#[]⟩,.slice Td 0 0,.slice Td 0 0]:=Blk.new _ _ _;refine Yn b λg' f z B=>c g' (Later.same ag ⟨by omega,λj h=>by grind⟩) (by omega) B
end
section
theorem Later.stay{h g g':zc}{M M':Fr}{b:Nat}(L:Later h M g M')(l:h.size<=b)(k:M' b=Td)(f:∀j,j≠b->g'[j]?=g[j]?)(z:g'.size=g.size):Later h M g' M':= ⟨⟨by have:=L.keep.size;omega,λj i=>by rw[f j (by omega)];exact L.keep.get j i⟩,L.le,L.old,λc cs e=>by rw[f c (λh=>by subst h;rw[k]at e;cases e)];exact L.ag c cs e⟩
end
section
variable {x y:Bool} {a b:Int}
theorem o4:(bif x then y else Tb)=Ta↔x=Ta/\y=Ta:=by simp
theorem FD:(bif x then y else Tb)=Tb↔x=Tb\/y=Tb:=by grind
theorem rX(h:decide (a<b)=Ta):a<b:=zB h
theorem uz(h:decide (a<b)=Tb):¬a<b:=zC h
end
section
theorem BQ{gl:Fr}(f:GL gl){v:Tr}(c:Sm v){R:Bool->Prop}(h:R (yn v)):PC Tp gl 50 [Arg.mk .tree v] [.bool] R:=by
 apply KX;rw[qu];refine u0 v c.sz ⟨λr=>r=(bR v:Int),λ_=>uT v c.sz rfl,λr k=>⟨λb=>b=Q4 (λx=>decide (x.kind≠7)&&zn x) v,λ_=>vH f Tb v c (GV (λx=>by grind) v),λb i=>?_⟩⟩;have e:(bif decide ((bK v:Int)<=4096)then decide (r<=32)else Tb)=Qs v:=by
  unfold Qs;cases hc:decide ((bK v:Int)<=4096)with
  |false=>grind
  |true=>grind
 rw[e]at i ⊢;unfold yn at h;grind
end
end Go.X
end
section
namespace Go.X
open Go Go.X Go.Proofs Go.Lib
section
variable {v a b:Tr} {gl:Fr} {R:Bool -> Prop}
theorem Ea:zx Tp 265=Ta:=by kernel_rfl
theorem Xy(a b:Bt):(a.toList==b.toList)=decide (a=b):=by rw[ZR];simp only[ByteArray.toList_eq,beq_iff_eq,zA];constructor;intro h;cases a;simp_all;grind
theorem ES(h:zn v=Ta)(b:v.kind=6):v.keys.Nodup/\v.keys.length=v.items.length:=by refine⟨?_,Yl h b⟩;unfold zn at h;simp[b]at h;have:=h.1.1;unfold ym at this;simp_all
set_option maxHeartbeats 1000000 in
theorem X2:∀(n:Nat) (a b:Tr),bK a<=n->Sm a->Sm b->Q4 zn a=Ta->Q4 zn b=Ta->∀{R:Bool->Prop},R (zr a b)->PC Tp gl 265 [Arg.mk .tree a,Arg.mk .tree b] [.bool] R:=by
 intro n;induction n with
 |zero=>intro a _ h;have:=Jc a;omega
 |succ n ih=>
  intro a b hn G F H J R hR h M vs hM ag s
  match vs,s with
  |[u1,u2],⟨t,o,_⟩=>
  have t:RdV M .tree a u1:=t;have o:RdV M .tree b u2:=o;obtain⟨sk,si,rfl,rk,ri⟩:=ye t;obtain⟨tk,B,rfl,P,p⟩:=ye o;obtain⟨li,_,_⟩:=rowLen ri;obtain⟨ai,_,_⟩:=rowLen p;apply PX.of;apply Lo a.kind a.text sk si b.kind b.text tk B;intro h1 l;have k1:Keep h.size h h1:=Keep.push _ _ (YM _);have k2:Keep h1.size h1 l:=Keep.push _ _ (YM _);have b1:Blk h1 h.size (jm a.kind a.text sk si).toArray:=Blk.new _ _ _;have b2:Blk l h1.size (jm b.kind b.text tk B).toArray:=Blk.new _ _ _;have z1:h1.size=h.size+1:=ZI _;have z2:l.size=h1.size+1:=ZI _;clear_value h1 l;have c:=b1.ofKeep k2;have kk:Keep h.size h l:=k1.trans k2 (by omega);have A:Later h M l M:=Later.same ag kk;intro K5 S;have f:∀x:Bool,(x=Ta->zr a b=Tb)->(x=Tb->a.kind=b.kind/\a.text=b.text/\a.items.length=b.items.length)->K5 x l:=by
   intro x ak I;refine S x l ⟨λk=>⟨M,_,A,Yu.2 (rdBool _),?_⟩,λk=>?_⟩;grind;obtain⟨e1,e2,e3⟩:=I k;have Q:zr a b=(if a.kind=6 then kz a.keys a.items b else kP a.items b.items):=by rw[mW];simp[e1,e2,e3]
   rw[Q]at hR;refine⟨a.kind,c.cellAdd (by rfl),λh6=>?_,λh6=>?_⟩;have i:¬a.kind=6:=by simpa using h6
   rw[za i,uo _ _ e3]at hR;refine⟨si,c.cellAdd (by rfl),B,b2.cellAdd (by rfl),?_⟩;refine(TY (gl:=gl) Ea (q:=zr) (xs:=a.items) (ys:=b.items) (λx k y D=>ih x y (by have:=q9 k;omega) (G.item k) (F.item D) (ql H k) (ql J D) rfl) hM A.ag ri p).go λw ae Y r L e u=>?_;have u:r=_:=u;subst u;refine⟨_,eP e,Y,_,A.trans L,Yu.2 (rdBool _),?_⟩;grind;have i:a.kind=6:=by simpa using h6
   rw[zb i,zW _ _ _ (Yl (qm H) i)]at hR;obtain⟨na,la⟩:=ES (qm H) i;obtain⟨nb,lb⟩:=ES (qm J) (by omega);refine⟨a.kind,a.text,sk,si,c.ld (cs:=jm a.kind a.text sk si),b.kind,b.text,tk,B,b2.ld (cs:=jm b.kind b.text tk B),?_⟩;refine u7 na la G.items A.ag (zj rk ri) λah m1 ua z aj Z ra w1=>⟨Tc m1,rfl,z.get h1.size (by omega),?_⟩;have m:=A.ag.keep z;refine u7 nb lb F.items m (zj P p) λV m2 ub C af U rb w2=>⟨Tc m2,rfl,?_⟩;have E:Later h M V M:=(A.trans (Later.same A.ag z)).trans (Later.same m C);refine(SR (gl:=gl) Ea (q:=zr) na la lb Z U ⟨G.items,F.items⟩ (λx k y D=>ih x y (by have:=q9 k;omega) (G.item k) (F.item D) (ql H k) (ql J D) rfl) hM E.ag (w1.keep (C.get _ w1.lt)) w2 ra rb).go λw ab N r L e u=>?_;have u:r=_:=u;subst u;refine⟨_,eP e,N,_,E.trans L,Yu.2 (rdBool _),?_⟩;grind
  refine⟨a.kind,c.cellAdd (by rfl),b.kind,b2.cellAdd (by rfl),λhk=>f _ (λ_=>?_) (λO=>?_),λhk=>?_⟩;grind [mW];grind;have aa:a.kind=b.kind:=by simpa using hk
  refine⟨a.text,c.cellAdd (by rfl),b.text,b2.cellAdd (by rfl),λht=>f _ (λ_=>?_) (λO=>?_),λht=>⟨si,c.cellAdd (by rfl),B,b2.cellAdd (by rfl),f _ (λO=>?_) (λO=>?_)⟩⟩;grind [mW];grind;grind [mW];grind [Xy]
theorem Pz(k:GL gl)(e:Sm a)(i:Sm b)(h:R (Zp a&&(Zp b&&zr a b))):PC Tp gl 198 [Arg.mk .tree a,Arg.mk .tree b] [.bool] R:=by
 apply UO;simp only[qu];refine qP k e ⟨λr=>r=Zp b,λ_=>qP k i rfl,λr l=>⟨λx=>x=zr a b,λc=>?_,λx m=>?_⟩⟩;cases h1:Zp a with
 |false=>rw[h1]at c;cases c
 |true=>rw[h1,zF]at c;have f:=l h1;rw[c]at f;exact X2 _ a b (YM _) e i (tH h1) (tH f.symm) rfl
 grind
theorem wu{keys:List Bt}{x:Bt}{k:Nat}(b:k<keys.length):idxFromS (keys.drop k) x k=if keys[k]=x then(k:Int)else idxFromS (keys.drop (k+1)) x (k+1):=by rw[ZM b,idxFromS]
theorem QI{key:Bt}(m:v.keys.length<=1000000000){R:Int->Prop}(h:R (idxOfS v.keys key)):PC Tp gl 328 [Arg.mk .tree v,Arg.mk .str key] [.int .i64] R:=by
 apply Xv;refine⟨λi=>∃k:Nat,i=k/\k<=v.keys.length/\idxOfS v.keys key=idxFromS (v.keys.drop k) key k,λi=>v.keys.length-i.toNat,⟨0,rfl,ZN _,by rw[za5];rfl⟩,?_⟩;rintro i ⟨k,rfl,l,e⟩;refine⟨λf=>?_,λf=>?_⟩;have b:k<v.keys.length:=by simp at f;omega
 refine⟨v.keys[k],⟨by omega,by simp⟩,λc=>?_,λc=>?_⟩;simp_all[Xy,wu];rw[Xy]at c;rw[wu b,za (by simpa using c)]at e;grind [qd];have b:k=v.keys.length:=by simp at f;omega
 subst b;rw[zbm,idxFromS]at e;grind
def pairT(a b:Tr)(i:Nat)(x:Tr):Bool:=if a.kind=6 then(match a.keys[i]? with
 |some k=>gR b.keys b.items zr k x
 |none=>Tb)else(match b.items[i]? with
 |some y=>zr x y
 |none=>Tb)
theorem EN{α β:Type}{p:α×β->Bool}{xs:List α}{ys:List β}(h:xs.length=ys.length):(xs.zip ys).all p=Ta↔∀i (h1:i<xs.length) (b:i<ys.length),p (xs[i],ys[i])=Ta:=by rw[ZJ];constructor;intro H i h1 b;exact H _ (zbr.2 ⟨i,by simp;omega,by simp⟩);intro H x c;obtain⟨i,hi,e⟩:=zbx c;grind
theorem PG(ok:Q4 zn a=Ta)(h1:a.kind=b.kind)(f:a.text=b.text)(c:a.items.length=b.items.length):zr a b=Ta↔∀i (hi:i<a.items.length),pairT a b i a.items[i]=Ta:=by
 have e:zr a b=(if a.kind=6 then kz a.keys a.items b else kP a.items b.items):=by rw[mW];simp[h1,f,c]
 rw[e];unfold pairT;split;grind [Yl,qm,zW,EN];grind [uo,EN]
set_option maxHeartbeats 1000000 in
theorem Ic:∀(n:Nat) (a b:Tr),bK a<=n->Sm a->Sm b->Q4 zn a=Ta->Q4 zn b=Ta->∀{R:Bool->Prop},R (zr a b)->PC Tp gl 270 [Arg.mk .tree a,Arg.mk .tree b] [.bool] R:=by
 intro n;induction n with
 |zero=>intro a _ h;have:=Jc a;omega
 |succ n H=>
  intro a b U y u t w R V;apply VA;have z:=y.items;have M:=u.keys;refine⟨λm=>?_,λm=>?_⟩;have:zr a b=Tb:=by rw[mW];rw[Xy]at m;simp only[zby,zbb,bne_iff_ne,zcg,decide_eq_false_iff_not,ne_eq]at m;rcases m with(h|h)|h;simp[h];simp[h];grind
  simp_all;rw[Xy]at m;obtain⟨G,E,N⟩:a.kind=b.kind/\a.text=b.text/\a.items.length=b.items.length:=by grind
  have key:=PG t G E N;refine⟨λi=>∃k:Nat,i=k/\k<=a.items.length/\∀j (f:j<a.items.length),j<k->pairT a b j a.items[j]=Ta,λi=>a.items.length-i.toNat,⟨0,rfl,ZN _,λj _ f=>by omega⟩,?_⟩;rintro i ⟨k,rfl,S,A⟩;refine⟨λm=>?_,λm=>?_⟩;have c:k<a.items.length:=by simp at m;omega
  have l:pairT a b k a.items[k]=Tb->R Tb:=λL=>by grind
  intro K J;have step:∀(i:Int),(i<0->pairT a b k a.items[k]=Tb)->(∀j:Nat,i=(j:Int)->∃f:j<b.items.length,pairT a b k a.items[k]=zr a.items[k] b.items[j])->K i:=by
   intro i h1 B;refine J i ⟨λo=>l (h1 (by simpa using o)),λr=>?_⟩;have q:0<=i:=by simpa using r
   obtain⟨f,e⟩:=B i.toNat (by omega);refine⟨a.items[k],⟨by omega,by simp⟩,b.items[i.toNat],⟨q,by simp⟩,?_⟩;simp only[qu];refine H _ _ (by have:=q9 (YW c);omega) (y.item (YW c)) (u.item (YW f)) (ql t (YW c)) (ql w (YW f)) ⟨λL=>?_,λC=>?_⟩;grind;have F:zr a.items[k] b.items[i.toNat]=Ta:=by simpa using C
   rw[qd c (by omega)];refine⟨⟨k+1,rfl,c,λj O I=>?_⟩,by omega⟩;grind
  refine⟨λs=>?_,λs=>?_⟩;have p:a.kind=6:=by simpa using s
  have Q:=Yl (qm t) p;have P:=Yl (qm w) (by omega);refine⟨a.keys[k],⟨by omega,by simp⟩,?_⟩;simp only[qu];have x:pairT a b k a.items[k]=gR b.keys b.items zr a.keys[k] a.items[k]:=by unfold pairT;rw[zb p,YR (by omega)]
  refine QI (by omega) (step _ (λo=>?_) λj f=>?_);rw[x];unfold gR;grind;have D:=Pv f;refine⟨by omega,?_⟩;rw[x];unfold gR;rw[f,YO,YR (by omega)];simp;have p:¬a.kind=6:=by simpa using s
  refine step _ (λo=>by omega) λj f=>?_;have:j=k:=by omega
  subst this;refine⟨by omega,?_⟩;unfold pairT;grind;grind
theorem OX(f:GL gl)(i:Sm a)(e:Sm b)(h:R (Zp a&&(Zp b&&zr a b))):PC Tp gl 207 [Arg.mk .tree a,Arg.mk .tree b] [.bool] R:=by
 apply PU;simp only[qu];refine pS f i (pS f e ⟨λx=>x=zr a b,λc=>?_,λx k=>?_⟩);cases h1:Zp a with
 |false=>rw[h1]at c;cases c
 |true=>rw[h1,zF]at c;exact Ic _ a b (YM _) i e (tH h1) (tH c) rfl
 grind
end
end Go.X
end
section
namespace Go.X
open Go Go.Lib
section
def Yo:Bs:=[116,121,112,101]
def Xh:Bs:=[101,110,117,109]
def js:Bs:=[108,101,97,115,116]
def Yp:Bs:=[109,111,115,116]
def xb:Bs:=[115,104,111,114,116]
def X8:Bs:=[108,111,110,103]
def wv:Bs:=[110,101,101,100]
def yw:Bs:=[99,108,111,115,101,100]
def Zg:Bs:=[105,116,101,109,115]
def zq:Bs:=[109,101,109,98,101,114,115]
def fX:Bs:=[97,108,108]
def fQ:Bs:=[97,110,121]
def ir:Bs:=[110,111,116]
def sWords:List Bs:=[Yo,Xh,js,Yp,xb,X8,wv,yw,Zg,zq,fX,fQ,ir]
def sKinds:List Bs:=[[110,117,108,108],[98,111,111,108],[110,117,109,98,101,114],[115,116,114,105,110,103],[97,114,114,97,121],[111,98,106,101,99,116]]
def gE(s:Bs):Int:=if s∈sKinds then(sKinds.idxOf s:Int)+1 else 0
def ww(v:Tr):Int×Bool:=jR (zo (lb v.text)).1
def fb(r:Tr->Bool)(q:Bs)(v:Tr):Bool:=
 if q=Yo then decide (v.kind=4)&&decide (0<gE (lb v.text))
 else if q=Xh then decide (v.kind=5)
 else if q=js\/q=Yp then decide (v.kind=3)
 else if q=xb\/q=X8 then decide (v.kind=3)&&((ww v).2&&decide (0<=(ww v).1))
 else if q=wv then decide (v.kind=5)&&v.items.all λx=>decide (x.kind=4)
 else if q=yw then decide (v.kind=2)
 else if q=Zg\/q=ir then r v
 else if q=zq then decide (v.kind=6)&&v.items.all r
 else if q=fX\/q=fQ then decide (v.kind=5)&&v.items.all r
 else Tb
def qg:Nat->Tr->Bool
 |0,_=>Tb
 |n+1,v=>decide (v.kind=6)&&(v.keys.zip v.items).all λp=>fb (qg n) (lb p.1) p.2
def dK(v:Tr):Bool:=yn v&&qg (bR v) v
def xe(s:Tr)(q:Bt):Option Tr:=if 0<=idxOfS s.keys q then s.items[(idxOfS s.keys q).toNat]? else Td
def hH(s:Tr):List Bt:=if dK s=Ta then(sWords.filter λw=>decide (0<=idxOfS s.keys (bl w))).map bl else []
def j7(v:Tr):Int:=if v.kind=5\/v.kind=6 then v.items.length else if v.kind=4 then(Lib.runeCount v.text:Int)else -1
abbrev dR:=List Bt×Bs
def fa(b:Bool)(p:List Bt)(w:Bs):List dR:=if b=Ta then []else [(p,w)]
variable (same : Tr -> Tr -> Bool) (cmp : Tr -> Tr -> Int)
def fG(fl:Tr->Tr->List Bt->List dR)(s:Tr)(w:Bs)(x v:Tr)(p:List Bt):List dR:=
 if w=Yo then fa (decide (v.kind=gE (lb x.text))) p w
 else if w=Xh then fa (x.items.any λy=>same y v) p w
 else if w=js then fa (decide (v.kind≠3)||decide (0<=cmp v x)) p w
 else if w=Yp then fa (decide (v.kind≠3)||decide (cmp v x<=0)) p w
 else if w=xb then fa (decide (j7 v<0)||decide ((ww x).1<=j7 v)) p w
 else if w=X8 then fa (decide (j7 v<=(ww x).1)) p w
 else if w=wv then if v.kind=6 then(x.items.filter λy=>decide (idxOfS v.keys y.text<0)).map λy=>(p++[y.text],w)else []
 else if w=yw then if lb x.text=[116,114,117,101]then(v.keys.filter λk=>decide (idxOfS (((xe s (bl zq)).map Tr.keys).getD []) k<0)).map λk=>(p++[k],w)else []
 else if w=Zg then if v.kind=5 then(zak v.items.length).flatMap λ(i:Nat)=>v.items[i]?.elim [] λy=>fl x y (p++[bl (Lib.itoa i)])else []
 else if w=zq then(v.keys.zip v.items).flatMap λm=>(xe x m.1).elim [] λy=>fl y m.2 (p++[m.1])
 else if w=fX then x.items.flatMap λy=>fl y v p
 else if w=fQ then fa (x.items.any λy=>(fl y v []).isEmpty) p w
 else fa (!(fl x v []).isEmpty) p w
def qi:Nat->Tr->Tr->List Bt->List dR
 |0,_,_,_=>[]
 |n+1,s,v,p=>sWords.flatMap λw=>(xe s (bl w)).elim [] λx=>fG same cmp (qi n) s w x v p
end
section
theorem wW{α:Type}{p q:α->Bool}:∀{l:List α},(∀x∈l,p x=q x)->l.all p=l.all q
 |[],_=>rfl
 |x::l,h=>by rw[zbo,zbo,h x (by simp),wW λy b=>h y (by simp[b])]
theorem IY{r b:Tr->Bool}{q:Bs}{v:Tr}(h0:r v=b v)(h:∀x∈v.items,r x=b x):fb r q v=fb b q v:=by unfold fb;rw[h0,wW h]
theorem sd{ks:List Bt}{xs:List Tr}{p:Bt×Tr}(h:p∈ks.zip xs):p.2∈xs:=(List.of_mem_zip (a:=p.1) (b:=p.2) h).2
theorem yD:∀(n m:Nat) (v:Tr),bR v<=n->bR v<=m->qg n v=qg m v
 |0,_,v,h,_=>by rw[Xu]at h;omega
 |_,0,v,_,h=>by rw[Xu]at h;omega
 |n+1,m+1,v,h,h'=>by rw[qg,qg];congr 1;refine wW λp b=>?_;have hi:=jd (sd b);refine IY (yD n m _ (by omega) (by omega)) λx c=>yD n m _ ?_ ?_;all_goals have:=jd c;omega
theorem wy{s x:Tr}{q:Bt}(h:xe s q=Tc x):x∈s.items:=by unfold xe at h;split at h;exact zbd h;cases h
variable {same : Tr -> Tr -> Bool} {cmp : Tr -> Tr -> Int}
end
section
variable {same : Tr -> Tr -> Bool} {cmp : Tr -> Tr -> Int}
def gK(same:Tr->Tr->Bool)(cmp:Tr->Tr->Int)(s v:Tr):Bool:=dK s&&(yn v&&(qi same cmp (bR s) s v []).isEmpty)
theorem BO(v:Tr):yn v=Ta↔bK v<=4096/\bR v<=32/\Q4 (λx=>decide (x.kind≠7)&&zn x) v=Ta:=by unfold yn Qs;simp[and_assoc]
theorem Lu{v:Tr}{n:Nat}(h:bR v<=n):dK v=(yn v&&qg n v):=by unfold dK;rw[yD (bR v) n v (YM _) h]
end
section
variable {s:Tr}
variable {same : Tr -> Tr -> Bool} {cmp : Tr -> Tr -> Int} {fl : Tr -> Tr -> List Bt -> List dR} {r : Tr -> Bool} {s x v : Tr} {p : List Bt}
theorem vD:fG same cmp fl s fX x v p=x.items.flatMap λy=>fl y v p:=by kernel_rfl
theorem Hr:fG same cmp fl s fQ x v p=fa (x.items.any λy=>(fl y v []).isEmpty) p fQ:=by kernel_rfl
theorem BU:fG same cmp fl s ir x v p=fa (!(fl x v []).isEmpty) p ir:=by kernel_rfl
theorem xI:fG same cmp fl s Zg x v p=if v.kind=5 then(zak v.items.length).flatMap λ(i:Nat)=>v.items[i]?.elim [] λy=>fl x y (p++[bl (Lib.itoa i)])else []:=by kernel_rfl
theorem xR:fG same cmp fl s zq x v p=(v.keys.zip v.items).flatMap λm=>(xe x m.1).elim [] λy=>fl y m.2 (p++[m.1]):=by kernel_rfl
theorem t6(h:dK s=Ta):yn s=Ta:=by unfold dK at h;simp at h;exact h.1
theorem tX(h:dK s=Ta){n:Nat}(b:bR s<=n):qg n s=Ta:=by rw[Lu b]at h;simp at h;exact h.2
end
section
def zY(i:Nat):Bt:=bl (Lib.itoa (i:Int))
section
variable (rw : List Tr -> List Tr -> Option (List (Nat × Nat)))
end
end
section
theorem PN{l:List Bt}(h:l.Nodup){i:Nat}(hi:i<l.length):idxOfS l l[i]=(i:Int):=by rcases oO l[i] l 0 with⟨_,b⟩|⟨k,h1,b,c⟩;simp_all;unfold idxOfS;rw[h1,ZP];rw[YR b]at c;rw[(List.getElem_inj h).1 (ZS c)]
end
section
theorem Sb(i:Nat):lb (zY i)=decDigits i:=by unfold zY;rw[jg,UG]
variable {t : Bt} {xs : List Tr}
end
section
variable {same : Tr -> Tr -> Bool} {cmp : Tr -> Tr -> Int} {fl : Tr -> Tr -> List Bt -> List dR} {s x v : Tr} {p : List Bt}
theorem LF:fG same cmp fl s Yo x v p=fa (decide (v.kind=gE (lb x.text))) p Yo:=by kernel_rfl
theorem Mn:fG same cmp fl s Xh x v p=fa (x.items.any λy=>same y v) p Xh:=by kernel_rfl
theorem NU:fG same cmp fl s js x v p=fa (decide (v.kind≠3)||decide (0<=cmp v x)) p js:=by kernel_rfl
theorem Rx:fG same cmp fl s Yp x v p=fa (decide (v.kind≠3)||decide (cmp v x<=0)) p Yp:=by kernel_rfl
theorem P9:fG same cmp fl s xb x v p=fa (decide (j7 v<0)||decide ((ww x).1<=j7 v)) p xb:=by kernel_rfl
theorem Pe:fG same cmp fl s X8 x v p=fa (decide (j7 v<=(ww x).1)) p X8:=by kernel_rfl
theorem Ae:fG same cmp fl s wv x v p=if v.kind=6 then(x.items.filter λy=>decide (idxOfS v.keys y.text<0)).map λy=>(p++[y.text],wv)else []:=by kernel_rfl
theorem y4:fG same cmp fl s yw x v p=if lb x.text=[116,114,117,101]then(v.keys.filter λk=>decide (idxOfS (((xe s (bl zq)).map Tr.keys).getD []) k<0)).map λk=>(p++[k],yw)else []:=by kernel_rfl
theorem Pu{v:Tr}(h:zn v=Ta){k:Bt}(c:k∈v.keys):v.kind=6:=by
 unfold zn at h;have:v.keys.isEmpty=Tb:=by cases e:v.keys with|nil=>rw[e]at c;cases c|cons a l=>rfl
 rw[this]at h;by_cases b:v.kind=6;exact b;rw[za b]at h;simp at h
end
section
variable {s x:Tr}
variable {same : Tr -> Tr -> Bool} {cmp : Tr -> Tr -> Int}
theorem OC(b:s.keys.Nodup){q:Bt}:xe s q=Tc x↔(q,x)∈s.keys.zip s.items:=by
 constructor;intro h;unfold xe at h;split at h;rename_i h0;have e:idxOfS s.keys q=(((idxOfS s.keys q).toNat:Nat):Int):=by omega
 exact zce.2 ⟨_,List.getElem?_zip_eq_some.2 ⟨rR e,h⟩⟩;cases h;intro h;obtain⟨i,hi⟩:=zce.1 h;obtain⟨h1,c⟩:=List.getElem?_zip_eq_some.1 hi;obtain⟨f,rfl⟩:=ZH.1 h1;unfold xe;rw[PN b f,zb (by omega)];simpa using c
theorem Xi(b:zn x=Ta)(e:x.kind≠5)(c:x.kind≠6):zu x=x:=by
 have hi:x.items=[]:=by unfold zn at b;simp only[za e,za c]at b;grind
 rw[Q6,za c,hi,<-Xg b c];cases x;simp_all
theorem v8{n:Nat}{w:Bs}(b:qg (n+1) s=Ta)(f:zn s=Ta)(e:xe s (bl w)=Tc x):fb (qg n) w x=Ta:=by rw[qg,ZE,ZJ]at b;have c:s.kind=6:=zB b.1;have:=b.2 _ ((OC (nf f c).1).1 e);rw[jg]at this;exact this
end
section
variable {v:Tr}
variable {same : Tr -> Tr -> Bool} {cmp : Tr -> Tr -> Int}
theorem Db(h:yn v=Ta):Q4 zn v=Ta:=by
 have e:=((BO v).1 h).2.2;have key:∀(n:Nat) (v:Tr),bK v<=n->Q4 (λx=>decide (x.kind≠7)&&zn x) v=Ta->Q4 zn v=Ta:=by
  intro n;induction n with
  |zero=>intro v f;have:=Jc v;omega
  |succ n c=>intro v f h;rw[Yj,wo,ZE,ZJ]at h ⊢;rw[ZE]at h;exact⟨h.1.2,λx b=>c x (by have:=q9 b;omega) (h.2 x b)⟩
 exact key _ v (YM _) e
theorem Cg(h:yn v=Ta):Zp v=Ta:=by have h1:=(BO v).1 h;unfold Zp Qs;simp[h1.1,h1.2.1,Db h]
end
end Go.X
end
section
namespace Go.X
section



theorem SO(gl:Fr)(e:Tr)(f:Tr)(R:Bool->Prop) (H:PC Tp gl 39 [Arg.mk .tree (Tr.mk e.kind e.text e.keys e.items),Arg.mk (.int .i64) 120] [.bool] (λa:Bool=>∃b:Bool->Prop,(a=Ta->PC Tp gl 39 [Arg.mk .tree (Tr.mk f.kind f.text f.keys f.items),Arg.mk (.int .i64) 60] [.bool] b)/\∀c:Bool,(a=Ta->b c)->R (bif a then c else Tb))):
  PC Tp gl 12 [Arg.mk .tree e,Arg.mk .tree f] [.bool] R:=
 PF ⟨[],[],[],[]⟩ [.tmp 4] 11 Tryz.func12 H
theorem XX(gl:Fr)(e:Tr)(f:Tr)(R:((List ((List Bt)×Bt))×Int)->Prop) (H:PC Tp gl 17 [Arg.mk .tree (Tr.mk e.kind e.text e.keys e.items)] [.bool] (λa:Bool=>∃b:Bool->Prop,((!(!a))=Ta->PC Tp gl 25 [Arg.mk .tree (Tr.mk f.kind f.text f.keys f.items)] [.bool] b)/\∀c:Bool,((!(!a))=Ta->b c)->((bif (!a)then Ta else(!c))=Ta->R ([],1))/\((bif (!a)then Ta else(!c))=Tb->PC Tp gl 49 [Arg.mk .tree (Tr.mk e.kind e.text e.keys e.items),Arg.mk .tree (Tr.mk f.kind f.text f.keys f.items),Arg.mk (.row .str) []] [.row (.pair (.row .str) .str)] (λd:List ((List Bt)×Bt)=>R (d,0))))):
  PC Tp gl 14 [Arg.mk .tree e,Arg.mk .tree f] [.row (.pair (.row .str) .str),.int .i64] R:=
 PF ⟨[],[],[],[]⟩ [.tmp 4,.tmp 5] 17 Tryz.func14 H
theorem Sz(gl:Fr)(e:Tr)(f:Tr)(R:((List ((List Bt)×Bt))×Int)->Prop) (H:PC Tp gl 18 [Arg.mk .tree (Tr.mk e.kind e.text e.keys e.items)] [.bool] (λa:Bool=>PC Tp gl 50 [Arg.mk .tree (Tr.mk f.kind f.text f.keys f.items)] [.bool] (λb:Bool=>((bif (!a)then Ta else(!b))=Ta->R ([],1))/\((bif (!a)then Ta else(!b))=Tb->PC Tp gl 51 [Arg.mk .tree (Tr.mk e.kind e.text e.keys e.items),Arg.mk .tree (Tr.mk f.kind f.text f.keys f.items),Arg.mk (.row .str) []] [.row (.pair (.row .str) .str)] (λc:List ((List Bt)×Bt)=>R (c,0)))))):
  PC Tp gl 15 [Arg.mk .tree e,Arg.mk .tree f] [.row (.pair (.row .str) .str),.int .i64] R:=
 PF ⟨[],[],[],[]⟩ [.tmp 4,.tmp 5] 21 Tryz.func15 H
theorem IM(gl:Fr)(a0:List ((List Bt)×Bt))(b1:List ((List Bt)×Bt))(R:Bool->Prop) (H:(((a0.length:Int) != (b1.length:Int))=Ta->R Tb)/\(((a0.length:Int) != (b1.length:Int))=Tb->∃(a:Int->Prop) (b:Int->Nat),a 0/\∀c:Int,a c->((decide (c<a0.length)=Ta->∃d:(List Bt)×Bt,(0<=c/\a0[c.toNat]?=Tc d)/\∃e:(List Bt)×Bt,(0<=c/\b1[c.toNat]?=Tc e)/\∃f:(List Bt)×Bt,((!(!(d.2.toList==e.2.toList)))=Ta->(0<=c/\a0[c.toNat]?=Tc f))/\∃g:(List Bt)×Bt,((!(!(d.2.toList==e.2.toList)))=Ta->(0<=c/\b1[c.toNat]?=Tc g))/\∃i:Bool->Prop,((!(!(d.2.toList==e.2.toList)))=Ta->PC Tp gl 21 [Arg.mk (.row .str) f.1,Arg.mk (.row .str) g.1] [.bool] i)/\∀j:Bool,((!(!(d.2.toList==e.2.toList)))=Ta->i j)->((bif (!(d.2.toList==e.2.toList))then Ta else(!j))=Ta->R Tb)/\((bif (!(d.2.toList==e.2.toList))then Ta else(!j))=Tb->(a (YJ .i64 (c+1))/\b (YJ .i64 (c+1))<b c)))/\(decide (c<a0.length)=Tb->R Ta)))):
  PC Tp gl 16 [Arg.mk (.row (.pair (.row .str) .str)) a0,Arg.mk (.row (.pair (.row .str) .str)) b1] [.bool] R:=
 PF ⟨[(6,22)],[],[(4,⟨[(5,.one (.dat (.int .i64)))],[],[],[100320]⟩)],[]⟩ [.tmp 4] 42 Tryz.func16 H
theorem Tz(gl:Fr)(e:Tr)(R:Bool->Prop) (H:PC Tp gl 25 [Arg.mk .tree (Tr.mk e.kind e.text e.keys e.items)] [.bool] (λa:Bool=>∃b:Bool->Prop,(a=Ta->PC Tp gl 52 [Arg.mk .tree (Tr.mk e.kind e.text e.keys e.items)] [.bool] b)/\∀c:Bool,(a=Ta->b c)->R (bif a then c else Tb))):
  PC Tp gl 17 [Arg.mk .tree e] [.bool] R:=
 PF ⟨[],[],[],[]⟩ [.tmp 2] 9 Tryz.func17 H
theorem PT(gl:Fr)(e:Tr)(R:Bool->Prop) (H:PC Tp gl 50 [Arg.mk .tree (Tr.mk e.kind e.text e.keys e.items)] [.bool] (λa:Bool=>∃b:Bool->Prop,(a=Ta->PC Tp gl 53 [Arg.mk .tree (Tr.mk e.kind e.text e.keys e.items)] [.bool] b)/\∀c:Bool,(a=Ta->b c)->R (bif a then c else Tb))):
  PC Tp gl 18 [Arg.mk .tree e] [.bool] R:=
 PF ⟨[],[],[],[]⟩ [.tmp 2] 11 Tryz.func18 H
theorem L0(gl:Fr)(b:Tr)(c:Tr)(R:Bool->Prop) (H:PC Tp gl 14 [Arg.mk .tree (Tr.mk b.kind b.text b.keys b.items),Arg.mk .tree (Tr.mk c.kind c.text c.keys c.items)] [.row (.pair (.row .str) .str),.int .i64] (λa:(List ((List Bt)×Bt))×Int=>R (bif (a.2==0)then((a.1.length:Int)==0)else Tb))):
  PC Tp gl 19 [Arg.mk .tree b,Arg.mk .tree c] [.bool] R:=
 PF ⟨[],[],[],[]⟩ [.tmp 4] 20 Tryz.func19 H
theorem Ve(gl:Fr)(b:Tr)(c:Tr)(R:Bool->Prop) (H:PC Tp gl 15 [Arg.mk .tree (Tr.mk b.kind b.text b.keys b.items),Arg.mk .tree (Tr.mk c.kind c.text c.keys c.items)] [.row (.pair (.row .str) .str),.int .i64] (λa:(List ((List Bt)×Bt))×Int=>R (bif (a.2==0)then((a.1.length:Int)==0)else Tb))):
  PC Tp gl 20 [Arg.mk .tree b,Arg.mk .tree c] [.bool] R:=
 PF ⟨[],[],[],[]⟩ [.tmp 4] 20 Tryz.func20 H

theorem U5(gl:Fr)(h:Tr)(R:(List Bt)->Prop) (H:PC Tp gl 18 [Arg.mk .tree (Tr.mk h.kind h.text h.keys h.items)] [.bool] (λa:Bool=>PC Tp gl 57 [] [.row .str] (λb:List Bt=>∃(c:(List Bt)->Int->Prop) (d:(List Bt)->Int->Nat),c [] 0/\∀e:List Bt,∀f:Int,c e f->(((bif (decide (f<b.length))then a else Tb)=Ta->∃g,(0<=f/\b[f.toNat]?=Tc g)/\PC Tp gl 58 [Arg.mk .tree (Tr.mk h.kind h.text h.keys h.items),Arg.mk .str g] [.int .i64] (λi:Int=>(decide (i>=0)=Ta->∃j,(0<=f/\b[f.toNat]?=Tc j)/\((e.length+zam ([j]:List Bt))*16<=140737488355328/\(c (e++[j]) (YJ .i64 (f+1))/\d (e++[j]) (YJ .i64 (f+1))<d e f)))/\(decide (i>=0)=Tb->(c e (YJ .i64 (f+1))/\d e (YJ .i64 (f+1))<d e f))))/\((bif (decide (f<b.length))then a else Tb)=Tb->R e))))):
  PC Tp gl 23 [Arg.mk .tree h] [.row .str] R:=
 PF ⟨[(7,5)],[],[(5,⟨[(5,.one (.own 9 .str)),(6,.one (.dat (.int .i64)))],[],[1],[100320,100384]⟩)],[]⟩ [.tmp 2] 34 Tryz.func23 H

theorem QL(gl:Fr)(l:Tr)(m:Tr)(h:List Bt)(R:(List ((List Bt)×Bt))->Prop) (H:PC Tp gl 57 [] [.row .str] (λa:List Bt=>∃(b:(List ((List Bt)×Bt))->Int->Prop) (c:(List ((List Bt)×Bt))->Int->Nat),b [] 0/\∀d:List ((List Bt)×Bt),∀e:Int,b d e->((decide (e<a.length)=Ta->∃f,(0<=e/\a[e.toNat]?=Tc f)/\PC Tp gl 58 [Arg.mk .tree (Tr.mk l.kind l.text l.keys l.items),Arg.mk .str f] [.int .i64] (λg:Int=>(decide (g>=0)=Ta->∃i,(0<=e/\a[e.toNat]?=Tc i)/\∃j,(0<=g/\l.items[g.toNat]?=Tc j)/\PC Tp gl 95 [Arg.mk .tree (Tr.mk l.kind l.text l.keys l.items),Arg.mk .str i,Arg.mk .tree (Tr.mk j.kind j.text j.keys j.items),Arg.mk .tree (Tr.mk m.kind m.text m.keys m.items),Arg.mk (.row .str) h] [.row (.pair (.row .str) .str)] (λk:List ((List Bt)×Bt)=>((d.length+k.length)*40<=140737488355328/\(b (d++k) (YJ .i64 (e+1))/\c (d++k) (YJ .i64 (e+1))<c d e))))/\(decide (g>=0)=Tb->(b d (YJ .i64 (e+1))/\c d (YJ .i64 (e+1))<c d e))))/\(decide (e<a.length)=Tb->R d)))):
  PC Tp gl 51 [Arg.mk .tree l,Arg.mk .tree m,Arg.mk (.row .str) h] [.row (.pair (.row .str) .str)] R:=
 PF ⟨[(6,5)],[(8,13,[],[0,1,2,3,4,5,6,7,8,9,10,11,12],[0])],[(4,⟨[(7,.one (.own 35 (.pair (.row .str) .str))),(9,.one (.dat (.int .i64)))],[],[3,4],[100448,100576]⟩)],[]⟩ [.tmp 6] 42 Tryz.func51 H
theorem UQ(gl:Fr)(h:Tr)(R:Bool->Prop) (H:∃(a:Int->Prop) (b:Int->Nat),a 0/\∀c:Int,a c->((decide (c<h.keys.length)=Ta->∃d,(0<=c/\h.keys[c.toNat]?=Tc d)/\∃e,(0<=c/\h.items[c.toNat]?=Tc e)/\PC Tp gl 96 [Arg.mk .str d,Arg.mk .tree (Tr.mk e.kind e.text e.keys e.items)] [.bool] (λf:Bool=>((!f)=Ta->R Tb)/\((!f)=Tb->(a (YJ .i64 (c+1))/\b (YJ .i64 (c+1))<b c))))/\(decide (c<h.keys.length)=Tb->R (h.kind==6)))):
  PC Tp gl 52 [Arg.mk .tree h] [.bool] R:=
 PF ⟨[],[],[(2,⟨[(8,.one (.dat (.int .i64)))],[],[1],[100512]⟩)],[]⟩ [.tmp 2] 25 Tryz.func52 H
theorem UI(gl:Fr)(h:Tr)(R:Bool->Prop) (H:∃(a:Int->Prop) (b:Int->Nat),a 0/\∀c:Int,a c->((decide (c<h.keys.length)=Ta->∃d,(0<=c/\h.keys[c.toNat]?=Tc d)/\∃e,(0<=c/\h.items[c.toNat]?=Tc e)/\PC Tp gl 97 [Arg.mk .str d,Arg.mk .tree (Tr.mk e.kind e.text e.keys e.items)] [.bool] (λf:Bool=>((!f)=Ta->R Tb)/\((!f)=Tb->(a (YJ .i64 (c+1))/\b (YJ .i64 (c+1))<b c))))/\(decide (c<h.keys.length)=Tb->R (h.kind==6)))):
  PC Tp gl 53 [Arg.mk .tree h] [.bool] R:=
 PF ⟨[(4,10)],[],[(2,⟨[(3,.one (.dat (.int .i64)))],[],[1],[100192]⟩)],[]⟩ [.tmp 2] 28 Tryz.func53 H

theorem OL(gl:Fr)(R:(List Bt)->Prop) (H:R ([(⟨#[116,121,112,101]⟩:Bt),(⟨#[101,110,117,109]⟩:Bt),(⟨#[108,101,97,115,116]⟩:Bt),(⟨#[109,111,115,116]⟩:Bt),(⟨#[115,104,111,114,116]⟩:Bt),(⟨#[108,111,110,103]⟩:Bt),(⟨#[110,101,101,100]⟩:Bt),(⟨#[99,108,111,115,101,100]⟩:Bt),(⟨#[105,116,101,109,115]⟩:Bt),(⟨#[109,101,109,98,101,114,115]⟩:Bt),(⟨#[97,108,108]⟩:Bt),(⟨#[97,110,121]⟩:Bt),(⟨#[110,111,116]⟩:Bt)]:List Bt)):
  PC Tp gl 57 [] [.row .str] R:=
 PF ⟨[],[],[],[]⟩ [.tmp 0] 2 Tryz.func57 H
theorem Rj(gl:Fr)(f:Tr)(e:Bt)(R:Int->Prop) (H:∃(a:Int->Prop) (b:Int->Nat),a 0/\∀c:Int,a c->((decide (c<f.keys.length)=Ta->∃d,(0<=c/\f.keys[c.toNat]?=Tc d)/\((d.toList==e.toList)=Ta->R c)/\((d.toList==e.toList)=Tb->(a (YJ .i64 (c+1))/\b (YJ .i64 (c+1))<b c)))/\(decide (c<f.keys.length)=Tb->R (-1)))):
  PC Tp gl 58 [Arg.mk .tree f,Arg.mk .str e] [.int .i64] R:=
 PF ⟨[],[],[(2,⟨[(5,.one (.dat (.int .i64)))],[],[2],[100320]⟩)],[]⟩ [.tmp 4] 21 Tryz.func58 H
theorem T2(gl:Fr)(e:Tr)(c:Bt)(R:(Tr×Bool)->Prop) (H:PC Tp gl 98 [Arg.mk (.row .str) e.keys,Arg.mk .str c] [.int .i64] (λa:Int=>(decide (a<0)=Ta->R (Tr.mk 0 (⟨#[]⟩:Bt) [] [],Tb))/\(decide (a<0)=Tb->∃b,(0<=a/\e.items[a.toNat]?=Tc b)/\R (Tr.mk b.kind b.text b.keys b.items,Ta)))):
  PC Tp gl 90 [Arg.mk .tree e,Arg.mk .str c] [.tree,.bool] R:=
 PF ⟨[],[],[],[]⟩ [.cell 4 25,.tmp 5] 19 Tryz.func90 H

theorem LH(gl:Fr)(s0:Tr)(h:Bt)(w2:Tr)(v3:Tr)(ab:List Bt)(R:(List ((List Bt)×Bt))->Prop) (H:((h.toList==(⟨#[110,101,101,100]⟩:Bt).toList)=Ta->∃(a:(List ((List Bt)×Bt))->Int->Prop) (b:(List ((List Bt)×Bt))->Int->Nat),a [] 0/\∀c:List ((List Bt)×Bt),∀d:Int,a c d->(((bif (decide (d<w2.items.length))then(v3.kind==6)else Tb)=Ta->∃e,(0<=d/\w2.items[d.toNat]?=Tc e)/\PC Tp gl 58 [Arg.mk .tree (Tr.mk v3.kind v3.text v3.keys v3.items),Arg.mk .str e.text] [.int .i64] (λf:Int=>(decide (f<0)=Ta->∃g,(0<=d/\w2.items[d.toNat]?=Tc g)/\PC Tp gl 163 [Arg.mk (.row .str) ab,Arg.mk .str g.text] [.row .str] (λi:List Bt=>((c.length+zam ([(i,h)]:List ((List Bt)×Bt)))*40<=140737488355328/\(a (c++[(i,h)]) (YJ .i64 (d+1))/\b (c++[(i,h)]) (YJ .i64 (d+1))<b c d))))/\(decide (f<0)=Tb->(a c (YJ .i64 (d+1))/\b c (YJ .i64 (d+1))<b c d))))/\((bif (decide (d<w2.items.length))then(v3.kind==6)else Tb)=Tb->R c)))/\((h.toList==(⟨#[110,101,101,100]⟩:Bt).toList)=Tb->((h.toList==(⟨#[99,108,111,115,101,100]⟩:Bt).toList)=Ta->∀j:Int->Bt->(List Bt)->(List Tr)->Prop,(∀ah:Int,∀af:Bt,∀ai:List Bt,∀ae:List Tr,(∃(k:(List ((List Bt)×Bt))->Int->Prop) (l:(List ((List Bt)×Bt))->Int->Nat),k [] 0/\∀m:List ((List Bt)×Bt),∀n:Int,k m n->(((bif (decide (n<v3.keys.length))then(w2.text.toList==(⟨#[116,114,117,101]⟩:Bt).toList)else Tb)=Ta->∃o,(0<=n/\v3.keys[n.toNat]?=Tc o)/\PC Tp gl 58 [Arg.mk .tree (Tr.mk ah af ai ae),Arg.mk .str o] [.int .i64] (λp:Int=>(decide (p<0)=Ta->∃q,(0<=n/\v3.keys[n.toNat]?=Tc q)/\PC Tp gl 163 [Arg.mk (.row .str) ab,Arg.mk .str q] [.row .str] (λr:List Bt=>((m.length+zam ([(r,h)]:List ((List Bt)×Bt)))*40<=140737488355328/\(k (m++[(r,h)]) (YJ .i64 (n+1))/\l (m++[(r,h)]) (YJ .i64 (n+1))<l m n))))/\(decide (p<0)=Tb->(k m (YJ .i64 (n+1))/\l m (YJ .i64 (n+1))<l m n))))/\((bif (decide (n<v3.keys.length))then(w2.text.toList==(⟨#[116,114,117,101]⟩:Bt).toList)else Tb)=Tb->R m)))->j ah af ai ae)->PC Tp gl 58 [Arg.mk .tree (Tr.mk s0.kind s0.text s0.keys s0.items),Arg.mk .str (⟨#[109,101,109,98,101,114,115]⟩:Bt)] [.int .i64] (λs:Int=>(decide (s>=0)=Ta->PC Tp gl 58 [Arg.mk .tree (Tr.mk s0.kind s0.text s0.keys s0.items),Arg.mk .str (⟨#[109,101,109,98,101,114,115]⟩:Bt)] [.int .i64] (λt:Int=>∃u,(0<=t/\s0.items[t.toNat]?=Tc u)/\j u.kind u.text u.keys u.items))/\(decide (s>=0)=Tb->j 0 (⟨#[]⟩:Bt) [] [])))/\((h.toList==(⟨#[99,108,111,115,101,100]⟩:Bt).toList)=Tb->((h.toList==(⟨#[105,116,101,109,115]⟩:Bt).toList)=Ta->∃(v:(List ((List Bt)×Bt))->Int->Prop) (w:(List ((List Bt)×Bt))->Int->Nat),v [] 0/\∀x:List ((List Bt)×Bt),∀y:Int,v x y->(((bif (decide (y<v3.items.length))then(v3.kind==5)else Tb)=Ta->∃z,(0<=y/\v3.items[y.toNat]?=Tc z)/\PC Tp gl 164 [Arg.mk (.int .i64) y] [.str] (λA:Bt=>PC Tp gl 163 [Arg.mk (.row .str) ab,Arg.mk .str A] [.row .str] (λB:List Bt=>PC Tp gl 51 [Arg.mk .tree (Tr.mk w2.kind w2.text w2.keys w2.items),Arg.mk .tree (Tr.mk z.kind z.text z.keys z.items),Arg.mk (.row .str) B] [.row (.pair (.row .str) .str)] (λC:List ((List Bt)×Bt)=>((x.length+C.length)*40<=140737488355328/\(v (x++C) (YJ .i64 (y+1))/\w (x++C) (YJ .i64 (y+1))<w x y))))))/\((bif (decide (y<v3.items.length))then(v3.kind==5)else Tb)=Tb->R x)))/\((h.toList==(⟨#[105,116,101,109,115]⟩:Bt).toList)=Tb->((h.toList==(⟨#[109,101,109,98,101,114,115]⟩:Bt).toList)=Ta->∃(D:(List ((List Bt)×Bt))->Int->Prop) (E:(List ((List Bt)×Bt))->Int->Nat),D [] 0/\∀F:List ((List Bt)×Bt),∀G:Int,D F G->((decide (G<v3.keys.length)=Ta->∃I,(0<=G/\v3.keys[G.toNat]?=Tc I)/\PC Tp gl 58 [Arg.mk .tree (Tr.mk w2.kind w2.text w2.keys w2.items),Arg.mk .str I] [.int .i64] (λJ:Int=>(decide (J>=0)=Ta->∃L,(0<=J/\w2.items[J.toNat]?=Tc L)/\∃M,(0<=G/\v3.items[G.toNat]?=Tc M)/\∃N,(0<=G/\v3.keys[G.toNat]?=Tc N)/\PC Tp gl 163 [Arg.mk (.row .str) ab,Arg.mk .str N] [.row .str] (λO:List Bt=>PC Tp gl 51 [Arg.mk .tree (Tr.mk L.kind L.text L.keys L.items),Arg.mk .tree (Tr.mk M.kind M.text M.keys M.items),Arg.mk (.row .str) O] [.row (.pair (.row .str) .str)] (λP:List ((List Bt)×Bt)=>((F.length+P.length)*40<=140737488355328/\(D (F++P) (YJ .i64 (G+1))/\E (F++P) (YJ .i64 (G+1))<E F G)))))/\(decide (J>=0)=Tb->(D F (YJ .i64 (G+1))/\E F (YJ .i64 (G+1))<E F G))))/\(decide (G<v3.keys.length)=Tb->R F)))/\((h.toList==(⟨#[109,101,109,98,101,114,115]⟩:Bt).toList)=Tb->((h.toList==(⟨#[97,108,108]⟩:Bt).toList)=Ta->∃(Q:(List ((List Bt)×Bt))->Int->Prop) (S:(List ((List Bt)×Bt))->Int->Nat),Q [] 0/\∀T:List ((List Bt)×Bt),∀U:Int,Q T U->((decide (U<w2.items.length)=Ta->∃V,(0<=U/\w2.items[U.toNat]?=Tc V)/\PC Tp gl 51 [Arg.mk .tree (Tr.mk V.kind V.text V.keys V.items),Arg.mk .tree (Tr.mk v3.kind v3.text v3.keys v3.items),Arg.mk (.row .str) ab] [.row (.pair (.row .str) .str)] (λW:List ((List Bt)×Bt)=>((T.length+W.length)*40<=140737488355328/\(Q (T++W) (YJ .i64 (U+1))/\S (T++W) (YJ .i64 (U+1))<S T U))))/\(decide (U<w2.items.length)=Tb->R T)))/\((h.toList==(⟨#[97,108,108]⟩:Bt).toList)=Tb->PC Tp gl 165 [Arg.mk .str h,Arg.mk .tree (Tr.mk w2.kind w2.text w2.keys w2.items),Arg.mk .tree (Tr.mk v3.kind v3.text v3.keys v3.items)] [.bool] (λX:Bool=>((!X)=Ta->PC Tp gl 163 [Arg.mk (.row .str) ab,Arg.mk .str (⟨#[]⟩:Bt)] [.row .str] (λY:List Bt=>(zam ([(Y,h)]:List ((List Bt)×Bt))*40<=140737488355328/\(0<=(0:Int)/\(0:Int).toNat<zam ([(Y,h)]:List ((List Bt)×Bt)))/\∃Z:(List Bt)×Bt,[(Y,h)][(0:Int).toNat]?=Tc Z/\(0<=(0:Int)/\(0:Int)<=(ab.length:Int)/\(ab.length:Int)<=(Z.1.length:Int))/\(0<=(0:Int)/\(0:Int).toNat<zam ([(Y,h)]:List ((List Bt)×Bt)))/\∃aa:(List Bt)×Bt,[(Y,h)][(0:Int).toNat]?=Tc aa/\R (List.set [(Y,h)] ((0:Int).toNat) (List.drop (0:Int).toNat (List.take (ab.length:Int).toNat Z.1),aa.2)))))/\((!X)=Tb->R [])))))))):
  PC Tp gl 95 [Arg.mk .tree s0,Arg.mk .str h,Arg.mk .tree w2,Arg.mk .tree v3,Arg.mk (.row .str) ab] [.row (.pair (.row .str) .str)] R:=
 PF ⟨[(7,7),(17,6),(30,6)],[(13,4,[],[0,1,2,3],[]),(24,11,[],[0,1,2,3,4,5,6,7,8,9,10],[0]),(32,18,[],[0,1,2,3,4,5,6,7,8,9,10,11,12,13,14,15,16,17],[0]),(38,8,[],[0,1,2,3,4,5,6,7],[0])],[(5,⟨[(11,.one (.own 35 (.pair (.row .str) .str))),(12,.one (.dat (.int .i64)))],[],[7,8],[100704,100768]⟩),(15,⟨[(11,.one (.own 35 (.pair (.row .str) .str))),(14,.one (.dat (.int .i64)))],[],[7,8,13],[100704,100896]⟩),(22,⟨[(11,.one (.own 35 (.pair (.row .str) .str))),(15,.one (.dat (.int .i64)))],[],[7,8],[100704,100960]⟩),(28,⟨[(11,.one (.own 35 (.pair (.row .str) .str))),(16,.one (.dat (.int .i64)))],[],[7,8],[100704,101024]⟩),(36,⟨[(11,.one (.own 35 (.pair (.row .str) .str))),(18,.one (.dat (.int .i64)))],[],[7,8],[100704,101152]⟩)],[(14,⟨[],[(13,[.dat (.int .i64),.dat .str,.dat (.row .str),.dat (.row .tree)])],[7,8],[1000832,1000833,1000834,1000835]⟩)]⟩ [.tmp 10] 214 Tryz.func95 H
theorem Sa(gl:Fr)(h:Bt)(t:Tr)(R:Bool->Prop) (H:((h.toList==(⟨#[116,121,112,101]⟩:Bt).toList)=Ta->∃a:Int->Prop,((t.kind==4)=Ta->PC Tp gl 166 [Arg.mk .str t.text] [.int .i64] a)/\∀b:Int,((t.kind==4)=Ta->a b)->R (bif (t.kind==4)then(decide (b>0))else Tb))/\((h.toList==(⟨#[116,121,112,101]⟩:Bt).toList)=Tb->((h.toList==(⟨#[101,110,117,109]⟩:Bt).toList)=Ta->R (t.kind==5))/\((h.toList==(⟨#[101,110,117,109]⟩:Bt).toList)=Tb->∀c:Bool->Prop,(∀d:Bool,((d=Ta->R (t.kind==3))/\(d=Tb->∀e:Bool->Prop,(∀f:Bool,((f=Ta->PC Tp gl 167 [Arg.mk .tree (Tr.mk t.kind t.text t.keys t.items)] [.int .i64,.bool] (λg:Int×Bool=>R g.2))/\(f=Tb->((h.toList==(⟨#[110,101,101,100]⟩:Bt).toList)=Ta->∃i:Bool->Prop,((t.kind==5)=Ta->PC Tp gl 168 [Arg.mk .tree (Tr.mk t.kind t.text t.keys t.items)] [.bool] i)/\∀j:Bool,((t.kind==5)=Ta->i j)->R (bif (t.kind==5)then j else Tb))/\((h.toList==(⟨#[110,101,101,100]⟩:Bt).toList)=Tb->((h.toList==(⟨#[99,108,111,115,101,100]⟩:Bt).toList)=Ta->R (t.kind==2))/\((h.toList==(⟨#[99,108,111,115,101,100]⟩:Bt).toList)=Tb->∀k:Bool->Prop,(∀l:Bool,((l=Ta->PC Tp gl 52 [Arg.mk .tree (Tr.mk t.kind t.text t.keys t.items)] [.bool] (λm:Bool=>R m))/\(l=Tb->((h.toList==(⟨#[109,101,109,98,101,114,115]⟩:Bt).toList)=Ta->∃n:Bool->Prop,((t.kind==6)=Ta->PC Tp gl 169 [Arg.mk .tree (Tr.mk t.kind t.text t.keys t.items)] [.bool] n)/\∀o:Bool,((t.kind==6)=Ta->n o)->R (bif (t.kind==6)then o else Tb))/\((h.toList==(⟨#[109,101,109,98,101,114,115]⟩:Bt).toList)=Tb->∀p:Bool->Prop,(∀q:Bool,((q=Ta->∃r:Bool->Prop,((t.kind==5)=Ta->PC Tp gl 169 [Arg.mk .tree (Tr.mk t.kind t.text t.keys t.items)] [.bool] r)/\∀s:Bool,((t.kind==5)=Ta->r s)->R (bif (t.kind==5)then s else Tb))/\(q=Tb->R Tb))->p q)->((h.toList==(⟨#[97,108,108]⟩:Bt).toList)=Ta->p (h.toList==(⟨#[97,108,108]⟩:Bt).toList))/\((h.toList==(⟨#[97,108,108]⟩:Bt).toList)=Tb->p (h.toList==(⟨#[97,110,121]⟩:Bt).toList)))))->k l)->((h.toList==(⟨#[105,116,101,109,115]⟩:Bt).toList)=Ta->k (h.toList==(⟨#[105,116,101,109,115]⟩:Bt).toList))/\((h.toList==(⟨#[105,116,101,109,115]⟩:Bt).toList)=Tb->k (h.toList==(⟨#[110,111,116]⟩:Bt).toList))))))->e f)->((h.toList==(⟨#[115,104,111,114,116]⟩:Bt).toList)=Ta->e (h.toList==(⟨#[115,104,111,114,116]⟩:Bt).toList))/\((h.toList==(⟨#[115,104,111,114,116]⟩:Bt).toList)=Tb->e (h.toList==(⟨#[108,111,110,103]⟩:Bt).toList))))->c d)->((h.toList==(⟨#[108,101,97,115,116]⟩:Bt).toList)=Ta->c (h.toList==(⟨#[108,101,97,115,116]⟩:Bt).toList))/\((h.toList==(⟨#[108,101,97,115,116]⟩:Bt).toList)=Tb->c (h.toList==(⟨#[109,111,115,116]⟩:Bt).toList))))):
  PC Tp gl 96 [Arg.mk .str h,Arg.mk .tree t] [.bool] R:=
 PF ⟨[],[],[],[(9,⟨[(26,.one (.dat .bool))],[],[3],[101664]⟩),(12,⟨[(32,.one (.dat .bool))],[],[3],[102048]⟩),(20,⟨[(53,.one (.dat .bool))],[],[3],[103392]⟩),(25,⟨[(67,.one (.dat .bool))],[],[3],[104288]⟩)]⟩ [.tmp 4] 75 Tryz.func96 H
theorem LX(gl:Fr)(h:Bt)(w:Tr)(R:Bool->Prop) (H:((h.toList==(⟨#[116,121,112,101]⟩:Bt).toList)=Ta->∃a:Int->Prop,((w.kind==4)=Ta->PC Tp gl 170 [Arg.mk .str w.text] [.int .i64] a)/\∀b:Int,((w.kind==4)=Ta->a b)->R (bif (w.kind==4)then(decide (b>0))else Tb))/\((h.toList==(⟨#[116,121,112,101]⟩:Bt).toList)=Tb->((h.toList==(⟨#[101,110,117,109]⟩:Bt).toList)=Ta->R (w.kind==5))/\((h.toList==(⟨#[101,110,117,109]⟩:Bt).toList)=Tb->∀c:Bool->Prop,(∀d:Bool,((d=Ta->R (w.kind==3))/\(d=Tb->∀e:Bool->Prop,(∀f:Bool,((f=Ta->PC Tp gl 171 [Arg.mk .tree (Tr.mk w.kind w.text w.keys w.items)] [.int .i64,.bool] (λg:Int×Bool=>R (bif (bif (w.kind==3)then g.2 else Tb)then(decide (g.1>=0))else Tb)))/\(f=Tb->((h.toList==(⟨#[110,101,101,100]⟩:Bt).toList)=Ta->∃(i:Int->Prop) (j:Int->Nat),i 0/\∀k:Int,i k->((decide (k<w.items.length)=Ta->∃l,(0<=k/\w.items[k.toNat]?=Tc l)/\((l.kind != 4)=Ta->R Tb)/\((l.kind != 4)=Tb->(i (YJ .i64 (k+1))/\j (YJ .i64 (k+1))<j k)))/\(decide (k<w.items.length)=Tb->R (w.kind==5))))/\((h.toList==(⟨#[110,101,101,100]⟩:Bt).toList)=Tb->((h.toList==(⟨#[99,108,111,115,101,100]⟩:Bt).toList)=Ta->R (w.kind==2))/\((h.toList==(⟨#[99,108,111,115,101,100]⟩:Bt).toList)=Tb->∀m:Bool->Prop,(∀n:Bool,((n=Ta->PC Tp gl 53 [Arg.mk .tree (Tr.mk w.kind w.text w.keys w.items)] [.bool] (λo:Bool=>R o))/\(n=Tb->((h.toList==(⟨#[109,101,109,98,101,114,115]⟩:Bt).toList)=Ta->∃p:Bool->Prop,((w.kind==6)=Ta->PC Tp gl 172 [Arg.mk .tree (Tr.mk w.kind w.text w.keys w.items)] [.bool] p)/\∀q:Bool,((w.kind==6)=Ta->p q)->R (bif (w.kind==6)then q else Tb))/\((h.toList==(⟨#[109,101,109,98,101,114,115]⟩:Bt).toList)=Tb->∀r:Bool->Prop,(∀s:Bool,((s=Ta->∃t:Bool->Prop,((w.kind==5)=Ta->PC Tp gl 172 [Arg.mk .tree (Tr.mk w.kind w.text w.keys w.items)] [.bool] t)/\∀u:Bool,((w.kind==5)=Ta->t u)->R (bif (w.kind==5)then u else Tb))/\(s=Tb->R Tb))->r s)->((h.toList==(⟨#[97,108,108]⟩:Bt).toList)=Ta->r (h.toList==(⟨#[97,108,108]⟩:Bt).toList))/\((h.toList==(⟨#[97,108,108]⟩:Bt).toList)=Tb->r (h.toList==(⟨#[97,110,121]⟩:Bt).toList)))))->m n)->((h.toList==(⟨#[105,116,101,109,115]⟩:Bt).toList)=Ta->m (h.toList==(⟨#[105,116,101,109,115]⟩:Bt).toList))/\((h.toList==(⟨#[105,116,101,109,115]⟩:Bt).toList)=Tb->m (h.toList==(⟨#[110,111,116]⟩:Bt).toList))))))->e f)->((h.toList==(⟨#[115,104,111,114,116]⟩:Bt).toList)=Ta->e (h.toList==(⟨#[115,104,111,114,116]⟩:Bt).toList))/\((h.toList==(⟨#[115,104,111,114,116]⟩:Bt).toList)=Tb->e (h.toList==(⟨#[108,111,110,103]⟩:Bt).toList))))->c d)->((h.toList==(⟨#[108,101,97,115,116]⟩:Bt).toList)=Ta->c (h.toList==(⟨#[108,101,97,115,116]⟩:Bt).toList))/\((h.toList==(⟨#[108,101,97,115,116]⟩:Bt).toList)=Tb->c (h.toList==(⟨#[109,111,115,116]⟩:Bt).toList))))):
  PC Tp gl 97 [Arg.mk .str h,Arg.mk .tree w] [.bool] R:=
 PF ⟨[],[],[(15,⟨[(7,.one (.dat (.int .i64)))],[],[3],[100448]⟩)],[(8,⟨[(25,.one (.dat .bool))],[],[3],[101600]⟩),(11,⟨[(31,.one (.dat .bool))],[],[3],[101984]⟩),(24,⟨[(73,.one (.dat .bool))],[],[3],[104672]⟩),(29,⟨[(87,.one (.dat .bool))],[],[3],[105568]⟩)]⟩ [.tmp 4] 97 Tryz.func97 H











theorem Up(gl:Fr)(b:List Bt)(c:Bt)(R:(List Bt)->Prop) (H:((zam ([]:List Bt)+b.length)*16<=140737488355328/\((zam ([]++b)+zam ([c]:List Bt))*16<=140737488355328/\R (([]++b)++[c])))):
  PC Tp gl 163 [Arg.mk (.row .str) b,Arg.mk .str c] [.row .str] R:=
 PF ⟨[],[],[],[]⟩ [.tmp 4] 11 Tryz.func163 H
theorem TV(gl:Fr)(h:Bt)(y:Tr)(x:Tr)(R:Bool->Prop) (H:((h.toList==(⟨#[116,121,112,101]⟩:Bt).toList)=Ta->PC Tp gl 170 [Arg.mk .str y.text] [.int .i64] (λa:Int=>R (x.kind==a)))/\((h.toList==(⟨#[116,121,112,101]⟩:Bt).toList)=Tb->((h.toList==(⟨#[101,110,117,109]⟩:Bt).toList)=Ta->∃(b:Int->Prop) (c:Int->Nat),b 0/\∀d:Int,b d->((decide (d<y.items.length)=Ta->∃e,(0<=d/\y.items[d.toNat]?=Tc e)/\PC Tp gl 207 [Arg.mk .tree (Tr.mk e.kind e.text e.keys e.items),Arg.mk .tree (Tr.mk x.kind x.text x.keys x.items)] [.bool] (λf:Bool=>(f=Ta->R Ta)/\(f=Tb->(b (YJ .i64 (d+1))/\c (YJ .i64 (d+1))<c d))))/\(decide (d<y.items.length)=Tb->R Tb)))/\((h.toList==(⟨#[101,110,117,109]⟩:Bt).toList)=Tb->((h.toList==(⟨#[108,101,97,115,116]⟩:Bt).toList)=Ta->∃g:Int->Prop,((!(x.kind != 3))=Ta->PC Tp gl 208 [Arg.mk .tree (Tr.mk x.kind x.text x.keys x.items),Arg.mk .tree (Tr.mk y.kind y.text y.keys y.items)] [.int .i64] g)/\∀i:Int,((!(x.kind != 3))=Ta->g i)->R (bif (x.kind != 3)then Ta else(decide (i>=0))))/\((h.toList==(⟨#[108,101,97,115,116]⟩:Bt).toList)=Tb->((h.toList==(⟨#[109,111,115,116]⟩:Bt).toList)=Ta->∃j:Int->Prop,((!(x.kind != 3))=Ta->PC Tp gl 208 [Arg.mk .tree (Tr.mk x.kind x.text x.keys x.items),Arg.mk .tree (Tr.mk y.kind y.text y.keys y.items)] [.int .i64] j)/\∀k:Int,((!(x.kind != 3))=Ta->j k)->R (bif (x.kind != 3)then Ta else(decide (k<=0))))/\((h.toList==(⟨#[109,111,115,116]⟩:Bt).toList)=Tb->((h.toList==(⟨#[115,104,111,114,116]⟩:Bt).toList)=Ta->PC Tp gl 171 [Arg.mk .tree (Tr.mk y.kind y.text y.keys y.items)] [.int .i64,.bool] (λl:Int×Bool=>PC Tp gl 227 [Arg.mk .tree (Tr.mk x.kind x.text x.keys x.items)] [.int .i64] (λm:Int=>∃n:Int->Prop,((!(decide (m<0)))=Ta->PC Tp gl 227 [Arg.mk .tree (Tr.mk x.kind x.text x.keys x.items)] [.int .i64] n)/\∀o:Int,((!(decide (m<0)))=Ta->n o)->R (bif (decide (m<0))then Ta else(decide (o>=l.1))))))/\((h.toList==(⟨#[115,104,111,114,116]⟩:Bt).toList)=Tb->((h.toList==(⟨#[108,111,110,103]⟩:Bt).toList)=Ta->PC Tp gl 171 [Arg.mk .tree (Tr.mk y.kind y.text y.keys y.items)] [.int .i64,.bool] (λp:Int×Bool=>PC Tp gl 227 [Arg.mk .tree (Tr.mk x.kind x.text x.keys x.items)] [.int .i64] (λq:Int=>R (decide (q<=p.1)))))/\((h.toList==(⟨#[108,111,110,103]⟩:Bt).toList)=Tb->((h.toList==(⟨#[97,110,121]⟩:Bt).toList)=Ta->∃(r:Int->Prop) (s:Int->Nat),r 0/\∀t:Int,r t->((decide (t<y.items.length)=Ta->∃u,(0<=t/\y.items[t.toNat]?=Tc u)/\PC Tp gl 51 [Arg.mk .tree (Tr.mk u.kind u.text u.keys u.items),Arg.mk .tree (Tr.mk x.kind x.text x.keys x.items),Arg.mk (.row .str) []] [.row (.pair (.row .str) .str)] (λv:List ((List Bt)×Bt)=>(((v.length:Int)==0)=Ta->R Ta)/\(((v.length:Int)==0)=Tb->(r (YJ .i64 (t+1))/\s (YJ .i64 (t+1))<s t))))/\(decide (t<y.items.length)=Tb->R Tb)))/\((h.toList==(⟨#[97,110,121]⟩:Bt).toList)=Tb->PC Tp gl 51 [Arg.mk .tree (Tr.mk y.kind y.text y.keys y.items),Arg.mk .tree (Tr.mk x.kind x.text x.keys x.items),Arg.mk (.row .str) []] [.row (.pair (.row .str) .str)] (λw:List ((List Bt)×Bt)=>R (decide ((w.length:Int)>0))))))))))):
  PC Tp gl 165 [Arg.mk .str h,Arg.mk .tree y,Arg.mk .tree x] [.bool] R:=
 PF ⟨[(8,6),(25,6)],[(3,5,[],[0,1,2,3,4],[])],[(6,⟨[(7,.one (.dat (.int .i64)))],[],[4,5],[100448]⟩),(23,⟨[(12,.one (.dat (.int .i64)))],[],[4,5],[100768]⟩)],[]⟩ [.tmp 6] 110 Tryz.func165 H

theorem N1(gl:Fr)(c:Tr)(R:(Int×Bool)->Prop) (H:PC Tp gl 107 [Arg.mk .str c.text] [.pair .bool (.pair .str (.int .i64)),.int .i64] (λa:(Bool×Bt×Int)×Int=>((bif (c.kind != 3)then Ta else(a.2 != 0))=Ta->R (0,Tb))/\((bif (c.kind != 3)then Ta else(a.2 != 0))=Tb->PC Tp gl 175 [Arg.mk (.pair .bool (.pair .str (.int .i64))) (a.1.1,(a.1.2.1,a.1.2.2))] [.int .i64,.bool] (λb:Int×Bool=>R (b.1,bif b.2 then(decide (b.1>=0))else Tb))))):
  PC Tp gl 167 [Arg.mk .tree c] [.int .i64,.bool] R:=
 PF ⟨[],[],[],[]⟩ [.tmp 2,.tmp 3] 32 Tryz.func167 H


theorem Tn(gl:Fr)(e:Bt)(R:Int->Prop) (H:∃(a:Int->Prop) (b:Int->Nat),a 0/\∀c:Int,a c->(((decide (c<((zam ([(⟨#[110,117,108,108]⟩:Bt),(⟨#[98,111,111,108]⟩:Bt),(⟨#[110,117,109,98,101,114]⟩:Bt),(⟨#[115,116,114,105,110,103]⟩:Bt),(⟨#[97,114,114,97,121]⟩:Bt),(⟨#[111,98,106,101,99,116]⟩:Bt)]:List Bt):Nat):Int)))=Ta->(0<=c/\c.toNat<zam ([(⟨#[110,117,108,108]⟩:Bt),(⟨#[98,111,111,108]⟩:Bt),(⟨#[110,117,109,98,101,114]⟩:Bt),(⟨#[115,116,114,105,110,103]⟩:Bt),(⟨#[97,114,114,97,121]⟩:Bt),(⟨#[111,98,106,101,99,116]⟩:Bt)]:List Bt))/\∃d,([(⟨#[110,117,108,108]⟩:Bt),(⟨#[98,111,111,108]⟩:Bt),(⟨#[110,117,109,98,101,114]⟩:Bt),(⟨#[115,116,114,105,110,103]⟩:Bt),(⟨#[97,114,114,97,121]⟩:Bt),(⟨#[111,98,106,101,99,116]⟩:Bt)]:List Bt)[c.toNat]?=Tc d/\((d.toList==e.toList)=Ta->R (YJ .i64 (c+1)))/\((d.toList==e.toList)=Tb->(a (YJ .i64 (c+1))/\b (YJ .i64 (c+1))<b c)))/\((decide (c<((zam ([(⟨#[110,117,108,108]⟩:Bt),(⟨#[98,111,111,108]⟩:Bt),(⟨#[110,117,109,98,101,114]⟩:Bt),(⟨#[115,116,114,105,110,103]⟩:Bt),(⟨#[97,114,114,97,121]⟩:Bt),(⟨#[111,98,106,101,99,116]⟩:Bt)]:List Bt):Nat):Int)))=Tb->R 0))):
  PC Tp gl 170 [Arg.mk .str e] [.int .i64] R:=
 PF ⟨[],[],[(3,⟨[(4,.one (.dat (.int .i64)))],[],[5],[100256]⟩)],[]⟩ [.tmp 2] 20 Tryz.func170 H
theorem Kr(gl:Fr)(c:Tr)(R:(Int×Bool)->Prop) (H:PC Tp gl 231 [Arg.mk .str c.text] [.pair .bool (.pair .str (.int .i64)),.int .i64] (λa:(Bool×Bt×Int)×Int=>PC Tp gl 226 [Arg.mk (.pair .bool (.pair .str (.int .i64))) (a.1.1,(a.1.2.1,a.1.2.2))] [.int .i64,.bool] (λb:Int×Bool=>R (b.1,b.2)))):
  PC Tp gl 171 [Arg.mk .tree c] [.int .i64,.bool] R:=
 PF ⟨[],[],[],[]⟩ [.tmp 2,.tmp 3] 16 Tryz.func171 H
theorem MG(gl:Fr)(f:Tr)(R:Bool->Prop) (H:∃(a:Int->Prop) (b:Int->Nat),a 0/\∀c:Int,a c->((decide (c<f.items.length)=Ta->∃d,(0<=c/\f.items[c.toNat]?=Tc d)/\PC Tp gl 53 [Arg.mk .tree (Tr.mk d.kind d.text d.keys d.items)] [.bool] (λe:Bool=>((!e)=Ta->R Tb)/\((!e)=Tb->(a (YJ .i64 (c+1))/\b (YJ .i64 (c+1))<b c))))/\(decide (c<f.items.length)=Tb->R Ta))):
  PC Tp gl 172 [Arg.mk .tree f] [.bool] R:=
 PF ⟨[],[],[(2,⟨[(3,.one (.dat (.int .i64)))],[],[1],[100192]⟩)],[]⟩ [.tmp 2] 20 Tryz.func172 H
theorem KM(gl:Fr)(a0:Tr)(b1:Tr)(R:Int->Prop) (H:PC Tp gl 65 [Arg.mk .tree (Tr.mk a0.kind a0.text a0.keys a0.items)] [.bool] (λa:Bool=>PC Tp gl 65 [Arg.mk .tree (Tr.mk b1.kind b1.text b1.keys b1.items)] [.bool] (λb:Bool=>((bif a then b else Tb)=Ta->PC Tp gl 66 [Arg.mk .tree (Tr.mk a0.kind a0.text a0.keys a0.items)] [.tree] (λc:Tr=>PC Tp gl 66 [Arg.mk .tree (Tr.mk b1.kind b1.text b1.keys b1.items)] [.tree] (λd:Tr=>PC Tp gl 264 [Arg.mk .tree (Tr.mk c.kind c.text c.keys c.items),Arg.mk .tree (Tr.mk d.kind d.text d.keys d.items)] [.int .i64] (λe:Int=>R e))))/\((bif a then b else Tb)=Tb->(a=Ta->R 1)/\(a=Tb->(b=Ta->R (-1))/\(b=Tb->R 0)))))):
  PC Tp gl 197 [Arg.mk .tree a0,Arg.mk .tree b1] [.int .i64] R:=
 PF ⟨[],[(1,3,[],[0,2,1],[]),(3,3,[],[0,2,1],[])],[],[]⟩ [.tmp 4] 25 Tryz.func197 H
theorem Vu(gl:Fr)(a0:Tr)(b1:Tr)(R:Int->Prop) (H:PC Tp gl 139 [Arg.mk .tree (Tr.mk a0.kind a0.text a0.keys a0.items)] [.bool] (λa:Bool=>PC Tp gl 139 [Arg.mk .tree (Tr.mk b1.kind b1.text b1.keys b1.items)] [.bool] (λb:Bool=>((bif (!a)then Ta else(!b))=Ta->(a=Ta->R 1)/\(a=Tb->(b=Ta->R (-1))/\(b=Tb->R 0)))/\((bif (!a)then Ta else(!b))=Tb->PC Tp gl 272 [Arg.mk .tree (Tr.mk a0.kind a0.text a0.keys a0.items)] [.tree] (λc:Tr=>PC Tp gl 272 [Arg.mk .tree (Tr.mk b1.kind b1.text b1.keys b1.items)] [.tree] (λd:Tr=>PC Tp gl 271 [Arg.mk .tree (Tr.mk c.kind c.text c.keys c.items),Arg.mk .tree (Tr.mk d.kind d.text d.keys d.items)] [.int .i64] (λe:Int=>R e))))))):
  PC Tp gl 208 [Arg.mk .tree a0,Arg.mk .tree b1] [.int .i64] R:=
 PF ⟨[],[(9,3,[],[0,2,1],[])],[],[]⟩ [.tmp 4] 24 Tryz.func208 H


theorem QP(gl:Fr)(e:Tr)(R:(Int×Bool)->Prop) (H:((e.kind==4)=Ta->PC Tp gl 276 [Arg.mk .str e.text] [.int .i64] (λa:Int=>R (a,Ta)))/\((e.kind==4)=Tb->∀b:Bool->Prop,(∀c:Bool,((c=Ta->R ((e.items.length:Int),Ta))/\(c=Tb->R (0,Tb)))->b c)->((e.kind==5)=Ta->b (e.kind==5))/\((e.kind==5)=Tb->b (e.kind==6)))):
  PC Tp gl 220 [Arg.mk .tree e] [.int .i64,.bool] R:=
 PF ⟨[],[],[],[(6,⟨[(11,.one (.dat .bool))],[],[1],[100704]⟩)]⟩ [.tmp 2,.tmp 3] 17 Tryz.func220 H



theorem Oa(gl:Fr)(f:Tr)(R:Int->Prop) (H:((bif (f.kind==5)then Ta else(f.kind==6))=Ta->R (f.items.length:Int))/\((bif (f.kind==5)then Ta else(f.kind==6))=Tb->((f.kind != 4)=Ta->R (-1))/\((f.kind != 4)=Tb->∃(a:Int->Int->Prop) (b:Int->Int->Nat),a 0 0/\∀c d:Int,a c d->((decide (d<f.text.size)=Ta->PC Tp gl 269 [Arg.mk .str f.text,Arg.mk (.int .i64) d] [.int .i32,.int .i64] (λe:Int×Int=>(a (YJ .i64 (c+1)) (YJ .i64 (d+e.2))/\b (YJ .i64 (c+1)) (YJ .i64 (d+e.2))<b c d)))/\(decide (d<f.text.size)=Tb->R c))))):
  PC Tp gl 227 [Arg.mk .tree f] [.int .i64] R:=
 PF ⟨[],[],[(7,⟨[(3,.one (.dat (.int .i64))),(4,.one (.dat (.int .i64)))],[],[1],[100192,100256]⟩)],[]⟩ [.tmp 2] 39 Tryz.func227 H

theorem Ru(gl:Fr)(x0:Tr)(R:Bool->Prop) (H:R (x0.kind != 4)):
  PC Tp gl 229 [Arg.mk .tree x0] [.bool] R:=
 PF ⟨[],[],[],[]⟩ [.tmp 2] 6 Tryz.func229 H
theorem Nh(gl:Fr)(x0:Tr)(R:Bool->Prop) (H:PC Tp gl 52 [Arg.mk .tree (Tr.mk x0.kind x0.text x0.keys x0.items)] [.bool] (λa:Bool=>R (!a))):
  PC Tp gl 230 [Arg.mk .tree x0] [.bool] R:=
 PF ⟨[],[],[],[]⟩ [.tmp 2] 6 Tryz.func230 H

theorem Vp(gl:Fr)(a0:Tr)(b1:Tr)(R:Int->Prop) (H:((a0.kind != b1.kind)=Ta->(decide (a0.kind<b1.kind)=Ta->R (-1))/\(decide (a0.kind<b1.kind)=Tb->R 1))/\((a0.kind != b1.kind)=Tb->((a0.kind==3)=Ta->PC Tp gl 224 [Arg.mk .str a0.text] [.pair .bool (.pair .str (.int .i64)),.bool] (λa:(Bool×Bt×Int)×Bool=>PC Tp gl 224 [Arg.mk .str b1.text] [.pair .bool (.pair .str (.int .i64)),.bool] (λb:(Bool×Bt×Int)×Bool=>PC Tp gl 329 [Arg.mk (.pair .bool (.pair .str (.int .i64))) (a.1.1,(a.1.2.1,a.1.2.2)),Arg.mk (.pair .bool (.pair .str (.int .i64))) (b.1.1,(b.1.2.1,b.1.2.2))] [.int .i64] (λc:Int=>R c))))/\((a0.kind==3)=Tb->PC Tp gl 330 [Arg.mk .str a0.text,Arg.mk .str b1.text] [.int .i64] (λd:Int=>∃(e:Int->Int->Prop) (f:Int->Int->Nat),e d 0/\∀g i:Int,e g i->(((bif (bif (g==0)then(decide (i<a0.keys.length))else Tb)then(decide (i<b1.keys.length))else Tb)=Ta->∃j,(0<=i/\a0.keys[i.toNat]?=Tc j)/\∃k,(0<=i/\b1.keys[i.toNat]?=Tc k)/\PC Tp gl 330 [Arg.mk .str j,Arg.mk .str k] [.int .i64] (λl:Int=>(e l (YJ .i64 (i+1))/\f l (YJ .i64 (i+1))<f g i)))/\((bif (bif (g==0)then(decide (i<a0.keys.length))else Tb)then(decide (i<b1.keys.length))else Tb)=Tb->∀m:Int->Prop,(∀n:Int,(∃(o:Int->Int->Prop) (p:Int->Int->Nat),o n 0/\∀q r:Int,o q r->(((bif (bif (q==0)then(decide (r<a0.items.length))else Tb)then(decide (r<b1.items.length))else Tb)=Ta->∃s,(0<=r/\a0.items[r.toNat]?=Tc s)/\∃t,(0<=r/\b1.items[r.toNat]?=Tc t)/\PC Tp gl 271 [Arg.mk .tree (Tr.mk s.kind s.text s.keys s.items),Arg.mk .tree (Tr.mk t.kind t.text t.keys t.items)] [.int .i64] (λu:Int=>(o u (YJ .i64 (r+1))/\p u (YJ .i64 (r+1))<p q r)))/\((bif (bif (q==0)then(decide (r<a0.items.length))else Tb)then(decide (r<b1.items.length))else Tb)=Tb->((bif (q==0)then((a0.items.length:Int) != (b1.items.length:Int))else Tb)=Ta->(decide ((a0.items.length:Int)<(b1.items.length:Int))=Ta->R (-1))/\(decide ((a0.items.length:Int)<(b1.items.length:Int))=Tb->R 1))/\((bif (q==0)then((a0.items.length:Int) != (b1.items.length:Int))else Tb)=Tb->R q))))->m n)->((bif (bif (g==0)then(a0.kind==6)else Tb)then((a0.keys.length:Int) != (b1.keys.length:Int))else Tb)=Ta->(decide ((a0.keys.length:Int)<(b1.keys.length:Int))=Ta->m (-1))/\(decide ((a0.keys.length:Int)<(b1.keys.length:Int))=Tb->m 1))/\((bif (bif (g==0)then(a0.kind==6)else Tb)then((a0.keys.length:Int) != (b1.keys.length:Int))else Tb)=Tb->m g))))))):
  PC Tp gl 271 [Arg.mk .tree a0,Arg.mk .tree b1] [.int .i64] R:=
 PF ⟨[(13,10),(21,10)],[],[(11,⟨[(9,.one (.dat (.int .i64))),(10,.one (.dat (.int .i64)))],[],[2,3],[100576,100640]⟩),(19,⟨[(9,.one (.dat (.int .i64))),(11,.one (.dat (.int .i64)))],[],[2,3],[100576,100704]⟩)],[(18,⟨[(9,.one (.dat (.int .i64)))],[],[2,3],[100576]⟩)]⟩ [.tmp 4] 145 Tryz.func271 H
theorem On(gl:Fr)(a0:Bool×Bt×Int)(b1:Bool×Bt×Int)(R:Int->Prop) (H:PC Tp gl 105 [Arg.mk (.pair .bool (.pair .str (.int .i64))) (a0.1,(a0.2.1,a0.2.2))] [.bool] (λa:Bool=>PC Tp gl 105 [Arg.mk (.pair .bool (.pair .str (.int .i64))) (b1.1,(b1.2.1,b1.2.2))] [.bool] (λb:Bool=>((bif (!a)then(!b)else Tb)=Ta->R 0)/\((bif (!a)then(!b)else Tb)=Tb->((!a)=Ta->R (-1))/\((!a)=Tb->((!b)=Ta->R 1)/\((!b)=Tb->PC Tp gl 366 [Arg.mk (.pair .bool (.pair .str (.int .i64))) (a0.1,(a0.2.1,a0.2.2))] [.int .i64] (λc:Int=>PC Tp gl 366 [Arg.mk (.pair .bool (.pair .str (.int .i64))) (b1.1,(b1.2.1,b1.2.2))] [.int .i64] (λd:Int=>PC Tp gl 320 [Arg.mk (.int .i64) c,Arg.mk (.int .i64) d] [.int .i64] (λe:Int=>∃f:Int->Prop,((!(e != 0))=Ta->PC Tp gl 366 [Arg.mk (.pair .bool (.pair .str (.int .i64))) (a0.1,(a0.2.1,a0.2.2))] [.int .i64] f)/\∀g:Int,((!(e != 0))=Ta->f g)->((bif (e != 0)then Ta else(g==0))=Ta->R e)/\((bif (e != 0)then Ta else(g==0))=Tb->PC Tp gl 366 [Arg.mk (.pair .bool (.pair .str (.int .i64))) (a0.1,(a0.2.1,a0.2.2))] [.int .i64] (λi:Int=>PC Tp gl 367 [Arg.mk (.pair .bool (.pair .str (.int .i64))) (a0.1,(a0.2.1,a0.2.2)),Arg.mk (.pair .bool (.pair .str (.int .i64))) (b1.1,(b1.2.1,b1.2.2))] [.int .i64] (λj:Int=>R (YJ .i64 (i*j)))))))))))))):
  PC Tp gl 318 [Arg.mk (.pair .bool (.pair .str (.int .i64))) a0,Arg.mk (.pair .bool (.pair .str (.int .i64))) b1] [.int .i64] R:=
 PF ⟨[],[(1,3,[],[0,2,1],[]),(8,3,[],[0,2,1],[]),(11,4,[],[0,2,3,1],[])],[],[]⟩ [.tmp 4] 44 Tryz.func318 H
theorem T9(gl:Fr)(e:List Int)(R:Int->Prop) (H:∃(a:Int->Prop) (b:Int->Nat),a 0/\∀c:Int,a c->((decide (c<e.length)=Ta->∃d,(0<=c/\e[c.toNat]?=Tc d)/\((d != 0)=Ta->R d)/\((d != 0)=Tb->(a (YJ .i64 (c+1))/\b (YJ .i64 (c+1))<b c)))/\(decide (c<e.length)=Tb->R 0))):
  PC Tp gl 319 [Arg.mk (.row (.int .i64)) e] [.int .i64] R:=
 PF ⟨[],[],[(3,⟨[(8,.one (.dat (.int .i64)))],[],[],[100512]⟩)],[]⟩ [.tmp 2] 18 Tryz.func319 H
theorem NW(gl:Fr)(x0:Int)(c:Int)(R:Int->Prop) (H:PC Tp gl 368 [Arg.mk (.int .i64) x0] [.bool] (λa:Bool=>PC Tp gl 368 [Arg.mk (.int .i64) c] [.bool] (λb:Bool=>(a=Ta->(b=Ta->R 0)/\(b=Tb->R (-1)))/\(a=Tb->(b=Ta->R 1)/\(b=Tb->(decide (x0<c)=Ta->R (-1))/\(decide (x0<c)=Tb->(decide (x0>c)=Ta->R 1)/\(decide (x0>c)=Tb->R 0))))))):
  PC Tp gl 320 [Arg.mk (.int .i64) x0,Arg.mk (.int .i64) c] [.int .i64] R:=
 PF ⟨[],[],[],[]⟩ [.tmp 4] 20 Tryz.func320 H


theorem Ut(gl:Fr)(a0:Bool×Bt×Int)(b1:Bool×Bt×Int)(R:Int->Prop) (H:PC Tp gl 279 [Arg.mk (.pair .bool (.pair .str (.int .i64))) (a0.1,(a0.2.1,a0.2.2))] [.bool] (λa:Bool=>PC Tp gl 279 [Arg.mk (.pair .bool (.pair .str (.int .i64))) (b1.1,(b1.2.1,b1.2.2))] [.bool] (λb:Bool=>((bif (!a)then Ta else(!b))=Ta->(a=Ta->R 1)/\(a=Tb->(b=Ta->R (-1))/\(b=Tb->R 0)))/\((bif (!a)then Ta else(!b))=Tb->((!(a0.1==b1.1))=Ta->(a0.1=Ta->R (-1))/\(a0.1=Tb->R 1))/\((!(a0.1==b1.1))=Tb->(a0.1=Ta->PC Tp gl 373 [Arg.mk (.pair .bool (.pair .str (.int .i64))) (b1.1,(b1.2.1,b1.2.2)),Arg.mk (.pair .bool (.pair .str (.int .i64))) (a0.1,(a0.2.1,a0.2.2))] [.int .i64] (λc:Int=>R c))/\(a0.1=Tb->PC Tp gl 373 [Arg.mk (.pair .bool (.pair .str (.int .i64))) (a0.1,(a0.2.1,a0.2.2)),Arg.mk (.pair .bool (.pair .str (.int .i64))) (b1.1,(b1.2.1,b1.2.2))] [.int .i64] (λd:Int=>R d))))))):
  PC Tp gl 329 [Arg.mk (.pair .bool (.pair .str (.int .i64))) a0,Arg.mk (.pair .bool (.pair .str (.int .i64))) b1] [.int .i64] R:=
 PF ⟨[],[],[],[]⟩ [.tmp 4] 34 Tryz.func329 H
theorem Pa(gl:Fr)(n0:Bool×Bt×Int)(R:Int->Prop) (H:((n0.2.1.toList==(⟨#[]⟩:Bt).toList)=Ta->R 0)/\((n0.2.1.toList==(⟨#[]⟩:Bt).toList)=Tb->(n0.1=Ta->R (-1))/\(n0.1=Tb->R 1))):
  PC Tp gl 366 [Arg.mk (.pair .bool (.pair .str (.int .i64))) n0] [.int .i64] R:=
 PF ⟨[],[],[],[]⟩ [.tmp 2] 10 Tryz.func366 H
theorem JB(gl:Fr)(a0:Bool×Bt×Int)(b1:Bool×Bt×Int)(R:Int->Prop) (H:PC Tp gl 320 [Arg.mk (.int .i64) (YJ .i64 ((a0.2.1.size:Int)+a0.2.2)),Arg.mk (.int .i64) (YJ .i64 ((b1.2.1.size:Int)+b1.2.2))] [.int .i64] (λa:Int=>PC Tp gl 321 [Arg.mk .str a0.2.1,Arg.mk .str b1.2.1] [.int .i64] (λb:Int=>PC Tp gl 319 [Arg.mk (.row (.int .i64)) [a,b]] [.int .i64] (λc:Int=>R c)))):
  PC Tp gl 367 [Arg.mk (.pair .bool (.pair .str (.int .i64))) a0,Arg.mk (.pair .bool (.pair .str (.int .i64))) b1] [.int .i64] R:=
 PF ⟨[],[],[],[]⟩ [.tmp 4] 27 Tryz.func367 H
theorem RH(gl:Fr)(a0:Bool×Bt×Int)(b1:Bool×Bt×Int)(R:Int->Prop) (H:((bif (a0.2.1.toList==(⟨#[]⟩:Bt).toList)then Ta else(b1.2.1.toList==(⟨#[]⟩:Bt).toList))=Ta->R (YJ .i64 ((if(1:Int)<(a0.2.1.size:Int)then 1 else(a0.2.1.size:Int))-(if(1:Int)<(b1.2.1.size:Int)then 1 else(b1.2.1.size:Int)))))/\((bif (a0.2.1.toList==(⟨#[]⟩:Bt).toList)then Ta else(b1.2.1.toList==(⟨#[]⟩:Bt).toList))=Tb->(((YJ .i64 ((a0.2.1.size:Int)+a0.2.2)) != (YJ .i64 ((b1.2.1.size:Int)+b1.2.2)))=Ta->((decide ((YJ .i64 ((a0.2.1.size:Int)+a0.2.2))<(YJ .i64 ((b1.2.1.size:Int)+b1.2.2))))=Ta->R (-1))/\((decide ((YJ .i64 ((a0.2.1.size:Int)+a0.2.2))<(YJ .i64 ((b1.2.1.size:Int)+b1.2.2))))=Tb->R 1))/\(((YJ .i64 ((a0.2.1.size:Int)+a0.2.2)) != (YJ .i64 ((b1.2.1.size:Int)+b1.2.2)))=Tb->∃(a:Int->Prop) (b:Int->Nat),a 0/\∀c:Int,a c->(((bif (decide (c<a0.2.1.size))then Ta else(decide (c<b1.2.1.size)))=Ta->∀d:Int->Prop,(∀e:Int,(∀f:Int->Prop,(∀g:Int,((decide (e<g)=Ta->R (-1))/\(decide (e<g)=Tb->(decide (e>g)=Ta->R 1)/\(decide (e>g)=Tb->(a (YJ .i64 (c+1))/\b (YJ .i64 (c+1))<b c))))->f g)->(decide (c<b1.2.1.size)=Ta->(0<=c/\c<b1.2.1.size)/\f (YJ .i64 (YJ .u8 ((zf b1.2.1 c.toNat)-48))))/\(decide (c<b1.2.1.size)=Tb->f 0))->d e)->(decide (c<a0.2.1.size)=Ta->(0<=c/\c<a0.2.1.size)/\d (YJ .i64 (YJ .u8 ((zf a0.2.1 c.toNat)-48))))/\(decide (c<a0.2.1.size)=Tb->d 0))/\((bif (decide (c<a0.2.1.size))then Ta else(decide (c<b1.2.1.size)))=Tb->R 0))))):
  PC Tp gl 373 [Arg.mk (.pair .bool (.pair .str (.int .i64))) a0,Arg.mk (.pair .bool (.pair .str (.int .i64))) b1] [.int .i64] R:=
 PF ⟨[],[],[(10,⟨[(7,.one (.dat (.int .i64)))],[],[2,3],[100448]⟩)],[(16,⟨[(8,.one (.dat (.int .i64)))],[],[],[100512]⟩),(18,⟨[(9,.one (.dat (.int .i64)))],[],[],[100576]⟩)]⟩ [.tmp 4] 87 Tryz.func373 H
theorem Xz(gl:Fr)(x0:Int)(R:Bool->Prop) (H:R (x0 != x0)):
  PC Tp gl 368 [Arg.mk (.int .i64) x0] [.bool] R:=
 PF ⟨[],[],[],[]⟩ [.tmp 2] 6 Tryz.func368 H
end
end Go.X
end
section
namespace Go.X
open Go Go.Lib
section
variable {s:Tr}
variable {same : Tr -> Tr -> Bool} {cmp : Tr -> Tr -> Int}
def kV:List (Bt×Tr)->Bt->Option Tr
 |[],_=>Td
 |p::l,q=>if p.1=q then Tc p.2 else kV l q
theorem Ba(q:Bt):∀(l:List Bt) (i:Nat),idxFromS l q i=-1\/0<=idxFromS l q i
 |[],i=>.inl rfl
 |k::l,i=>by rw[idxFromS];split;exact .inr (by omega);exact Ba q l (i+1)
theorem H7(q:Bt):∀(l:List Bt) (i:Nat),idxFromS l q (i+1)=if idxFromS l q i=-1 then -1 else idxFromS l q i+1
 |[],i=>rfl
 |k::l,i=>by rw[idxFromS,idxFromS];by_cases e:k=q;rw[zb e,zb e,za (by omega)];rfl;rw[za e,za e];exact H7 q l (i+1)
theorem C9:∀(ks:List Bt) (xs:List Tr),ks.length=xs.length->∀q,kV (ks.zip xs) q=if 0<=idxOfS ks q then xs[(idxOfS ks q).toNat]? else Td
 |[],[],_,q=>by simp[kV,idxOfS]
 |[],_::_,h,_=>by simp at h
 |_::_,[],h,_=>by simp at h
 |k::ks,x::xs,h,q=>by
  have c:=C9 ks xs (by simpa using h) q;rw[zbe,kV,c];show _=if 0<=idxFromS (k::ks) q 0 then(x::xs)[(idxFromS (k::ks) q 0).toNat]? else Td;rw[idxFromS];by_cases e:k=q;rw[zb e,zb e];simp;rw[za e,za e];show(if 0<=idxFromS ks q 0 then _ else _)=_;have h1:=H7 q ks 0;have f:(idxOfS ks q)=idxFromS ks q 0:=rfl;rw[f];rcases Ba q ks 0 with b|b;rw[h1,zb b,b];simp;have i:¬idxFromS ks q 0=-1:=by omega
  have l:0<=idxFromS ks q 0+1:=by omega
  rw[h1,za i,zb b,zb l];have:(idxFromS ks q 0+1).toNat=(idxFromS ks q 0).toNat+1:=by omega
  rw[this,List.getElem?_cons_succ]
def gn(l:List (Bt×Tr)):List Bt->Nat
 |[]=>0
 |w::ws=>((kV l w).elim 0 bK)+gn l ws
def lU:List (Bt×Tr)->Nat
 |[]=>0
 |p::l=>bK p.2+lU l
theorem HM:∀b,gn [] b=0
 |[]=>rfl
 |w::b=>by rw[gn,HM b];rfl
theorem Ey(p:Bt×Tr)(l:List (Bt×Tr)):∀b:List Bt,p.1∉b->gn (p::l) b=gn l b
 |[],_=>rfl
 |w::b,h=>by have h1:p.1≠w:=λe=>h (by simp[e]);rw[gn,gn,Ey p l b (λe=>h (by simp[e])),kV,za h1]
theorem Gl(p:Bt×Tr)(l:List (Bt×Tr)):∀b:List Bt,b.Nodup->gn (p::l) b<=bK p.2+gn l b
 |[],_=>by simp[gn]
 |w::b,h=>by rw[zcp]at h;by_cases e:p.1=w;rw[gn,gn,Ey p l b (by rw[e];exact h.1),kV,zb e];simp;have:=Gl p l b h.2;rw[gn,gn,kV,za e];omega
theorem EE:∀(l:List (Bt×Tr)) (b:List Bt),b.Nodup->gn l b<=lU l
 |[],b,_=>by rw[HM];exact ZN _
 |p::l,b,h=>by have:=Gl p l b h;have:=EE l b h;rw[lU];omega
theorem A7:∀(ks:List Bt) (xs:List Tr),lU (ks.zip xs)<=Yr xs
 |[],xs=>by simp[lU]
 |_::_,[]=>by simp[lU]
 |k::ks,x::xs=>by have:=A7 ks xs;rw[zbe,lU,Yr];show bK x+_<=_;omega
theorem V8(h:s.keys.length=s.items.length){b:List Bt}(e:b.Nodup):(b.map λw=>(xe s w).elim 0 bK).sum+1<=bK s:=by
 have h1:∀b:List Bt,(b.map λw=>(xe s w).elim 0 bK).sum=gn (s.keys.zip s.items) b:=by
  intro b;induction b with
  |nil=>rfl
  |cons w b c=>rw[zae,List.sum_cons,c,gn,C9 _ _ h];rfl
 have f:=EE (s.keys.zip s.items) b e;have i:=A7 s.keys s.items;rw[h1,Zu s];omega
theorem nF{α β:Type}{f:α->List β}{g:α->Nat}:∀{l:List α},(∀x∈l,(f x).length<=g x)->(l.flatMap f).length<=(l.map g).sum
 |[],_=>by simp
 |x::l,h=>by have:=nF (f:=f) (g:=g) (l:=l) λy b=>h y (YU _ b);have:=h x ZB;rw[zcs,ZC,zae,List.sum_cons];omega
theorem wJ{α:Type}(g:α->Nat)(c:Nat):∀l:List α,(l.map λx=>g x*c).sum=(l.map g).sum*c
 |[]=>by simp
 |x::l=>by rw[zae,List.sum_cons,zae,List.sum_cons,wJ g c l,zb0]
theorem xU{α:Type}(g:α->Nat)(c:Nat):∀l:List α,(l.map λx=>c*g x).sum=c*(l.map g).sum
 |[]=>by simp
 |x::l=>by rw[zae,List.sum_cons,zae,List.sum_cons,xU g c l,Nat.mul_add]
theorem qZ:∀l:List Tr,(l.map bK).sum=Yr l
 |[]=>by simp[Yr]
 |x::l=>by rw[zae,List.sum_cons,qZ l,Yr]
theorem Pq(b:Bool)(p:List Bt)(w:Bs):(fa b p w).length<=1:=by unfold fa;split <;> simp
theorem NP(g:Tr->Nat)(l:List Tr):((zak l.length).map λi=>l[i]?.elim 0 g).sum=(l.map g).sum:=by congr 1;apply zap;intro i;by_cases h:i<l.length;simp[h];simp[h]
theorem FR(g:Tr->Nat):∀(ks:List Bt) (xs:List Tr),((ks.zip xs).map λm=>g m.2).sum<=(xs.map g).sum
 |[],xs=>by simp
 |_::_,[]=>by simp
 |k::ks,x::xs=>by have:=FR g ks xs;rw[zbe,zae,List.sum_cons,zae,List.sum_cons];show g x+_<=_;omega
theorem Dt{fl:Tr->Tr->List Bt->List dR}{s x v:Tr}{w:Bs}{p:List Bt}(F:v.keys.length<=v.items.length)(h0:∀y∈v.items,∀p,(fl x y p).length<=bK x*bK y)
  (h1:∀z∈x.items,∀y∈v.items,∀p,(fl z y p).length<=bK z*bK y) (f:∀z∈x.items,∀p,(fl z v p).length<=bK z*bK v):(fG same cmp fl s w x v p).length<=bK x*bK v:=by
 have px:=Jc x;have k:=Jc v;have one:1<=bK x*bK v:=Nat.mul_pos px k;have C:=Zu v;have r:=Zu x;have e:∀l:List Tr,l.length<=Yr l:=λl=>by
  induction l with
  |nil=>simp
  |cons a l E=>have:=Jc a;rw[Yr,ZV];omega
 have D:=e x.items;have lv:=e v.items;have s1:∀b q u,(fa b q u).length<=bK x*bK v:=λb q u=>zaj (Pq b q u) one;have mx:∀n,n<=bK x->n<=bK x*bK v:=λn h=>zaj h (zb6 _ k);have B:∀n,n<=bK v->n<=bK x*bK v:=λn h=>zaj h (Nat.le_mul_of_pos_left _ px);unfold fG;have key:∀{c:Prop} [Decidable c] {a b:List dR} {n:Nat},a.length<=n->b.length<=n->(if c then a else b).length<=n:=λ {c} _ {a b n} h1 f=>by split <;> assumption
 refine key (s1 _ _ _) (key (s1 _ _ _) (key (s1 _ _ _) (key (s1 _ _ _) (key (s1 _ _ _) (key (s1 _ _ _) (key (key ?_ (ZN _)) (key (key ?_ (ZN _)) (key (key ?_ (ZN _)) (key ?_ (key ?_ (key (s1 _ _ _) (s1 _ _ _))))))))))));rw[ZA];exact mx _ (zaj (List.length_filter_le _ _) (by omega));rw[ZA];exact B _ (zaj (List.length_filter_le _ _) (by omega));refine zaj (nF (g:=λi=>v.items[i]?.elim 0 λy=>bK x*bK y) λi hi=>?_) ?_;have hi:=zbc.1 hi;rw[YR hi];exact h0 _ (YW hi) _;rw[NP (λy=>bK x*bK y),xU,qZ];exact Nat.mul_le_mul_left _ (by omega);refine zaj (nF (g:=λm=>bK x*bK m.2) λm A=>?_) ?_;cases hk:xe x m.1 with
 |none=>exact ZN _
 |some y=>have o:=wy hk;refine zaj (h1 y o m.2 (sd A) _) (ZF _ ?_);have:=q9 o;omega
 refine zaj (FR (λy=>bK x*bK y) _ _) ?_;rw[xU,qZ];exact Nat.mul_le_mul_left _ (by omega);refine zaj (nF (g:=λz=>bK z*bK v) λz t=>f z t _) ?_;rw[wJ,qZ];exact ZF _ (by omega)
theorem Vi:(sWords.map bl).Nodup:=by decide
theorem Xj:∀(n:Nat) (s v:Tr) (p:List Bt),Q4 zn s=Ta->Q4 zn v=Ta->(qi same cmp n s v p).length<=bK s*bK v
 |0,s,v,p,_,_=>ZN _
 |n+1,s,v,p,hs,hv=>by
  have m:∀{u:Tr},zn u=Ta->u.keys.length<=u.items.length:=λ {u} i=>by by_cases b:u.kind=6;have:=(nf i b).2;omega;rw[Xg i b];exact ZN _
  rw[qi];refine zaj (nF (g:=λw=>((xe s (bl w)).elim 0 bK)*bK v) λw o=>?_) ?_;cases f:xe s (bl w)with
  |none=>exact ZN _
  |some x=>have e:=ql hs (wy f);exact Dt (m (qm hv)) (λy c q=>Xj n x y q e (ql hv c)) (λz h y c q=>Xj n z y q (ql e h) (ql hv c)) λz h q=>Xj n z v q (ql e h) hv
  rw[wJ];refine ZF _ ?_;by_cases b:s.kind=6;have:=V8 (nf (qm hs) b).2 Vi;rw[za8]at this;exact zaj (Nat.le_of_eq rfl) (Nat.le_of_succ_le this);have f:=Xg (qm hs) b;have:∀l:List Bs,(l.map λw=>(xe s (bl w)).elim 0 bK).sum=0:=λl=>by
   induction l with
   |nil=>rfl
   |cons w l k=>rw[zae,List.sum_cons,k];unfold xe;rw[f];rfl
  rw[this];exact ZN _
end
end Go.X
end
section
namespace Go.X
open Go Go.X Go.Proofs Go.Lib
section
variable {v:Tr} {R:Bool -> Prop} {s:Bt} {q:Bs}
section
variable {gl : Fr}
theorem jA(s:Bt)(a:Array UInt8):(s.toList==(⟨a⟩:Bt).toList)=decide (lb s=a.toList):=by rw[ZR];simp[ByteArray.toList_eq,lb]
theorem lP{key:Bt}(m:v.keys.length<=1000000000){R:Int->Prop}(h:R (idxOfS v.keys key)):PC Tp gl 58 [Arg.mk .tree v,Arg.mk .str key] [.int .i64] R:=by
 apply Rj;refine⟨λi=>∃k:Nat,i=k/\k<=v.keys.length/\idxOfS v.keys key=idxFromS (v.keys.drop k) key k,λi=>v.keys.length-i.toNat,⟨0,rfl,ZN _,by rw[za5];rfl⟩,?_⟩;rintro i ⟨k,rfl,l,e⟩;refine⟨λf=>?_,λf=>?_⟩;have b:k<v.keys.length:=by simp at f;omega
 refine⟨v.keys[k],⟨by omega,by simp⟩,λc=>?_,λc=>?_⟩;simp_all[Xy,wu];rw[Xy]at c;rw[wu b,za (by simpa using c)]at e;grind [qd];have b:k=v.keys.length:=by simp at f;omega
 subst b;rw[zbm,idxFromS]at e;grind
theorem FY(s:Bt):∀(l:List Bs) (i:Nat),idxFromS (l.map bl) s i=if lb s∈l then((i+l.idxOf (lb s):Nat):Int)else -1
 |[],i=>by simp[idxFromS]
 |z::l,i=>by
  rw[zae,idxFromS,FY s l (i+1)];by_cases e:bl z=s;subst e;simp;have c:¬z=lb s:=λh=>e (by rw[h,gv]);rw[za e];by_cases b:lb s∈l;have f:(z==lb s)=Tb:=by simpa using c
  rw[zb b,zb (by simp[b]),List.idxOf_cons,f];simp;omega;rw[za b,za (by simp[b];exact λh=>c h.symm)]
theorem Co(s:Bt):gE (lb s)=idxOfS (sKinds.map bl) s+1:=by show _=idxFromS (sKinds.map bl) s 0+1;rw[FY];unfold gE;split <;> simp
theorem Gg{R:Int->Prop}(h:R (gE (lb s))):PC Tp gl 170 [Arg.mk .str s] [.int .i64] R:=by
 apply Tn;have e:([(⟨#[110,117,108,108]⟩:Bt),(⟨#[98,111,111,108]⟩:Bt),(⟨#[110,117,109,98,101,114]⟩:Bt),(⟨#[115,116,114,105,110,103]⟩:Bt),(⟨#[97,114,114,97,121]⟩:Bt),(⟨#[111,98,106,101,99,116]⟩:Bt)]:List Bt)=sKinds.map bl:=rfl;rw[e];rw[Co]at h;have m:(sKinds.map bl).length=6:=rfl;generalize sKinds.map bl=l at h m;refine⟨λi=>∃k:Nat,i=k/\k<=l.length/\idxOfS l s=idxFromS (l.drop k) s k,λi=>l.length-i.toNat,⟨0,rfl,ZN _,by rw[za5];rfl⟩,?_⟩;rintro i ⟨k,rfl,n,e⟩;refine⟨λf=>?_,λf=>?_⟩;have b:k<l.length:=by simp at f;omega
 refine⟨⟨by omega,by simpa using b⟩,l[k],by simp,λc=>?_,λc=>?_⟩;rw[Xy]at c;rw[wu b,zb (by simpa using c)]at e;rw[qd b (by omega)];rw[e]at h;simpa using h;rw[Xy]at c;rw[wu b,za (by simpa using c)]at e;rw[qd b (by omega)];exact⟨⟨k+1,rfl,by omega,e⟩,by simp only[YO];omega⟩;have b:k=l.length:=by simp at f;omega
 subst b;rw[zbm,idxFromS]at e;rw[e]at h;exact h
theorem wC(k:GL gl)(f:Sm v){R:Int×Bool->Prop}(h:R (ww v)):PC Tp gl 171 [Arg.mk .tree v] [.int .i64,.bool] R:=by apply Kr;have i:=f.text;have e:=HG (gl:=gl) (s:=lb v.text) (by omega) (R:=λb:(Bool×Bt×Int)×Int=>PC Tp gl 226 [Arg.mk (.pair .bool (.pair .str (.int .i64))) (b.1.1,(b.1.2.1,b.1.2.2))] [.int .i64,.bool] (λc:Int×Bool=>R (c.1,c.2))) (GG (jc _ (by omega)) h);rw[gv]at e;exact e
theorem F0(s:Bt)(j:Nat)(b:j<s.size):(dec ((lb s).drop j)).2=(zci s j).2:=by rw[pq]
theorem NM{j f:Nat}(b:j<s.size)(c:s.size-j<=f+1):runeCountFrom s (f+1) j=1+runeCountFrom s f (j+(zci s j).2):=by rw[runeCountFrom,zb b]
theorem E9(s:Bt):∀(f g j:Nat),s.size-j<=f->s.size-j<=g->runeCountFrom s f j=runeCountFrom s g j
 |0,g,j,h1,h2=>by rw[runeCountFrom_end s 0 j (by omega),runeCountFrom_end s g j (by omega)]
 |f+1,0,j,h1,h2=>by rw[runeCountFrom_end s (f+1) j (by omega),runeCountFrom_end s 0 j (by omega)]
 |f+1,g+1,j,h1,h2=>by by_cases b:j<s.size;have:=decode_width_pos s j b;rw[runeCountFrom,runeCountFrom,zb b,zb b,E9 s f g _ (by omega) (by omega)];rw[runeCountFrom_end s _ j b,runeCountFrom_end s _ j b]
theorem xW(q:Sm v){R:Int->Prop}(h:R (j7 v)):PC Tp gl 227 [Arg.mk .tree v] [.int .i64] R:=by
 apply Oa;have o:=q.text;rw[iz]at o;unfold j7 at h;simp only[fx];refine⟨λc=>?_,λc=>?_⟩;rw[zb (by simpa[Bool.cond_eq_ite]using c)]at h;exact h;rw[za (by simpa[Bool.cond_eq_ite]using c)]at h;refine⟨λf=>?_,λf=>?_⟩;rw[za (by simpa using f)]at h;exact h;rw[zb (by simpa using f)]at h;refine⟨λn i=>∃(m j:Nat),n=m/\i=j/\j<=v.text.size/\m<=j/\m+runeCountFrom v.text v.text.size j=runeCount v.text,λ_ i=>v.text.size-i.toNat,⟨0,0,rfl,rfl,ZN _,YM _,by simp[runeCount]⟩,?_⟩;rintro n i ⟨m,j,rfl,rfl,u,t,e⟩;refine⟨λc=>?_,λc=>?_⟩;have b:j<v.text.size:=by simpa using c
 refine zQ (by omega) ?_;have s:=decode_width_pos v.text j b;have p:lQ v.text j=(((dec ((lb v.text).drop j)).1:Int),((zci v.text j).2:Int)):=by unfold lQ;rw[za (by omega),YO,F0 _ _ b]
 have k:j+(zci v.text j).2<=v.text.size:=by have h1:=pr (l:=(lb v.text).drop j) (λe=>by have:=congrArg zam e;rw[zab,iz]at this;simp at this;omega);rw[zab,iz,F0 _ _ b]at h1;omega
 rw[p];rw[qd (n:=m+1) (by omega) (by omega)];rw[show YJ .i64 ((j:Int)+((zci v.text j).2:Int))=((j+(zci v.text j).2:Nat):Int)by rw[wrap64 (by omega) (by omega)];omega];refine⟨⟨m+1,_,rfl,rfl,k,by omega,?_⟩,by show v.text.size-((j+_:Nat):Int).toNat<v.text.size-(j:Int).toNat;omega⟩;have r:v.text.size=(v.text.size-1)+1:=by omega
 rw[r,NM b (by omega)]at e;rw[E9 v.text v.text.size (v.text.size-1) _ (by omega) (by omega)];omega;have b:j=v.text.size:=by simp at c;omega
 rw[runeCountFrom_end _ _ _ (by omega)]at e;have:m=runeCount v.text:=by omega
 rw[this];exact h
theorem Qf{p:List Bt}(b:p.length<=1000000){R:List Bt->Prop}(h:R (p++[s])):PC Tp gl 163 [Arg.mk (.row .str) p,Arg.mk .str s] [.row .str] R:=by apply Up;simp only[zba,zb7,ZV];exact⟨by omega,by omega,h⟩
variable {r : Tr -> Bool}
theorem Nr(m:Sm v)(n:∀x∈v.items,∀{R:Bool->Prop},R (r x)->PC Tp gl 53 [Arg.mk .tree x] [.bool] R)(h:R (v.items.all r)):PC Tp gl 172 [Arg.mk .tree v] [.bool] R:=by
 apply MG;have o:=m.items;refine⟨λi=>∃k:Nat,i=k/\k<=v.items.length/\(v.items.take k).all r=Ta,λi=>v.items.length-i.toNat,⟨0,rfl,by omega,by simp⟩,?_⟩;rintro i ⟨k,rfl,p,c⟩;refine⟨λf=>?_,λf=>?_⟩;have b:k<v.items.length:=by simp at f;omega
 refine⟨v.items[k],⟨by omega,jl b⟩,?_⟩;rw[qu];have l:v.items[k]∈v.items:=YW b;refine n _ l ⟨λe=>?_,λe=>?_⟩;have:v.items.all r=Tb:=by rw[zcj];exact⟨_,l,by simpa using e⟩
 rw[this]at h;exact h;rw[qd b (by omega)];refine⟨⟨k+1,rfl,by omega,?_⟩,by grind⟩;rw[YP b,zbq,c,zao,zbo,zdj,zbp];simpa using e;have b:k=v.items.length:=by simp at f;omega
 subst b;rw[ZO]at c;rw[c]at h;exact h
theorem IQ(m:Sm v)(h:R (decide (v.kind=5)&&v.items.all λx=>decide (x.kind=4))):∃(I:Int->Prop) (μ:Int->Nat),I 0/\∀i:Int,I i->(((decide ((i:Int)<((zam v.items:Nat):Int)))=Ta->∃y:Tr,(0<=(i:Int)/\v.items[(i:Int).toNat]?=Tc y)/\((y.kind != 4)=Ta->R Tb)/\((y.kind != 4)=Tb->(I (YJ .i64 (i+1))/\μ (YJ .i64 (i+1))<μ i)))/\((decide ((i:Int)<((zam v.items:Nat):Int)))=Tb->R (v.kind==5))):=by
 have n:=m.items;refine⟨λi=>∃k:Nat,i=k/\k<=v.items.length/\(v.items.take k).all (λx=>decide (x.kind=4))=Ta,λi=>v.items.length-i.toNat,⟨0,rfl,by omega,by simp⟩,?_⟩;rintro i ⟨k,rfl,o,c⟩;refine⟨λf=>?_,λf=>?_⟩;have b:k<v.items.length:=by simp at f;omega
 have l:v.items[k]∈v.items:=YW b;refine⟨v.items[k],⟨by omega,jl b⟩,λe=>?_,λe=>?_⟩;have:v.items.all (λx=>decide (x.kind=4))=Tb:=by rw[zcj];exact⟨_,l,by simpa using e⟩
 rw[this,Bool.and_false]at h;exact h;rw[qd b (by omega)];refine⟨⟨k+1,rfl,by omega,?_⟩,by grind⟩;rw[YP b,zbq,c,zao,zbo,zdj,zbp];simpa using e;have b:k=v.items.length:=by simp at f;omega
 subst b;rw[ZO]at c;rw[c,zbp]at h;rw[fx];exact h
theorem Dj:fb r Yo v=(decide (v.kind=4)&&decide (0<gE (lb v.text))):=by kernel_rfl
theorem A8:fb r Xh v=decide (v.kind=5):=by kernel_rfl
theorem sP:fb r js v=decide (v.kind=3):=by kernel_rfl
theorem qM:fb r Yp v=decide (v.kind=3):=by kernel_rfl
theorem yT:fb r xb v=(decide (v.kind=3)&&((ww v).2&&decide (0<=(ww v).1))):=by kernel_rfl
theorem wV:fb r X8 v=(decide (v.kind=3)&&((ww v).2&&decide (0<=(ww v).1))):=by kernel_rfl
theorem Hu:fb r wv v=(decide (v.kind=5)&&v.items.all λx=>decide (x.kind=4)):=by kernel_rfl
theorem HQ:fb r yw v=decide (v.kind=2):=by kernel_rfl
theorem rJ:fb r Zg v=r v:=by kernel_rfl
theorem qX:fb r ir v=r v:=by kernel_rfl
theorem Xk:fb r zq v=(decide (v.kind=6)&&v.items.all r):=by kernel_rfl
theorem qH:fb r fX v=(decide (v.kind=5)&&v.items.all r):=by kernel_rfl
theorem r9:fb r fQ v=(decide (v.kind=5)&&v.items.all r):=by kernel_rfl
theorem uF(h:q∉sWords):fb r q v=Tb:=by unfold sWords at h;simp only[YS,List.not_mem_nil,or_false,not_or]at h;obtain⟨h1,m,s,n,p,i,o,l,k,c,f,e,b⟩:=h;unfold fb;rw[za h1,za m,za (by simp[s,n]),za (by simp[p,i]),za o,za l,za (by simp[k,b]),za c,za (by simp[f,e])]
theorem vd(h1:q≠Yo)(l:q≠Xh)(p:q≠js)(m:q≠Yp)(o:q≠xb)(h:q≠X8)(n:q≠wv)(k:q≠yw)(i:q≠Zg)(c:q≠ir)(f:q≠zq)(e:q≠fX)(b:q≠fQ):q∉sWords:=by unfold sWords;simp[*]
theorem TK(Y:GL gl)(Q:Sm v)(I:∀{R:Bool->Prop},R (r v)->PC Tp gl 53 [Arg.mk .tree v] [.bool] R)
  (hr:∀x∈v.items,∀{R:Bool->Prop},R (r x)->PC Tp gl 53 [Arg.mk .tree x] [.bool] R) {q:Bt} (h:R (fb r (lb q) v)):PC Tp gl 97 [Arg.mk .str q,Arg.mk .tree v] [.bool] R:=by
 apply LX;simp only[jA,qu];have m:∀{k:Int},R (decide (v.kind=k)&&v.items.all r)->∃J:Bool->Prop,((v.kind==k)=Ta->PC Tp gl 172 [Arg.mk .tree v] [.bool] J)/\∀x:Bool,((v.kind==k)=Ta->J x)->R (bif (v.kind==k)then x else Tb):=λ {k} V=>by refine⟨λx=>x=v.items.all r,λ_=>Nr Q hr rfl,λx w=>?_⟩;rw[fx]at w ⊢;by_cases e:v.kind=k;have:=w (by simpa using e);rw[this];simpa[e]using V;simpa[e]using V
 refine⟨λO=>?_,λS=>⟨λt=>?_,λU=>?_⟩⟩;have O:lb q=Yo:=zB O;rw[O,Dj]at h;refine⟨λx=>x=gE (lb v.text),λ_=>Gg rfl,λx w=>?_⟩;rw[fx]at w ⊢;by_cases e:v.kind=4;rw[w (by simpa using e)];simpa[e]using h;simpa[e]using h;have t:lb q=Xh:=zB t;rw[t,A8]at h;rw[fx];exact h;intro K b;have S:lb q≠Yo:=zC S;have U:lb q≠Xh:=zC U;have yes:(lb q=js\/lb q=Yp)->R (v.kind==3):=λe=>by rw[fx];rcases e with e|e;rw[e,sP]at h;exact h;rw[e,qM]at h;exact h
 refine⟨λP=>b _ ⟨λ_=>yes (.inl (zB P)),λf=>by rw[f]at P;cases P⟩,λC=>b _ ⟨λe4=>yes (.inr (zB e4)),λE=>?_⟩⟩;have C:lb q≠js:=zC C;have E:lb q≠Yp:=zC E;intro K b;have yes:(lb q=xb\/lb q=X8)->PC Tp gl 171 [Arg.mk .tree v] [.int .i64,.bool] (λy:Int×Bool=>R (bif (bif (v.kind==3)then y.2 else Tb)then(decide ((y.1:Int)>=0))else Tb)):=λe=>by
  refine wC Y Q ?_;rw[fx];have t:fb r (lb q) v=(decide (v.kind=3)&&((ww v).2&&decide (0<=(ww v).1))):=by rcases e with e|e;rw[e,yT];rw[e,wV]
  rw[t]at h;cases h1:decide (v.kind=3) <;> rw[h1]at h <;> cases h2:(ww v).2 <;> rw[h2]at h <;> exact h
 refine⟨λz=>b _ ⟨λ_=>yes (.inl (zB z)),λf=>by rw[f]at z;cases z⟩,λA=>b _ ⟨λZ=>yes (.inr (zB Z)),λH=>?_⟩⟩;have A:lb q≠xb:=zC A;have H:lb q≠X8:=zC H;refine⟨λB=>?_,λL=>⟨λM=>?_,λN=>?_⟩⟩;have B:lb q=wv:=zB B;rw[B,Hu]at h;exact IQ Q h;have M:lb q=yw:=zB M;rw[M,HQ]at h;rw[fx];exact h;have L:lb q≠wv:=zC L;have N:lb q≠yw:=zC N;intro K b;have yes:(lb q=Zg\/lb q=ir)->PC Tp gl 53 [Arg.mk .tree v] [.bool] (λu:Bool=>R u):=λe=>by refine I ?_;rcases e with e|e;rw[e,rJ]at h;exact h;rw[e,qX]at h;exact h
 refine⟨λD=>b _ ⟨λ_=>yes (.inl (zB D)),λf=>by rw[f]at D;cases D⟩,λF=>b _ ⟨λG=>yes (.inr (zB G)),λl=>?_⟩⟩;have F:lb q≠Zg:=zC F;have l:lb q≠ir:=zC l;refine⟨λi=>?_,λo=>?_⟩;have i:lb q=zq:=zB i;rw[i,Xk]at h;exact m h;have o:lb q≠zq:=zC o;intro K b;refine⟨λc=>b _ ⟨λ_=>?_,λf=>by rw[f]at c;cases c⟩,λp=>b _ ⟨λn=>?_,λs=>?_⟩⟩;have c:lb q=fX:=zB c;rw[c,qH]at h;exact m h;have n:lb q=fQ:=zB n;rw[n,r9]at h;exact m h;have p:lb q≠fX:=zC p;have s:lb q≠fQ:=zC s;rw[uF (vd S U C E A H L N F l o p s)]at h;exact h
theorem F2{p:Bt×Tr->Bool}{ks:List Bt}{xs:List Tr}{k:Nat}(h1:k<ks.length)(b:k<xs.length):((ks.take (k+1)).zip (xs.take (k+1))).all p=(((ks.take k).zip (xs.take k)).all p&&p (ks[k],xs[k])):=by rw[YP h1,YP b,List.zip_append (by simp;omega),zbq];simp
theorem yK(q:GL gl):∀(n:Nat) (v:Tr),bR v<=n->Sm v->Q4 zn v=Ta->∀{R:Bool->Prop},R (qg n v)->PC Tp gl 53 [Arg.mk .tree v] [.bool] R
 |0,v,hd,_,_,_,_=>by have:=Xu v;omega
 |n+1,v,hd,hv,ho,R,h=>by
  apply UI;have w:=qm ho;have B:=hv.keys;have m:v.keys.length<=v.items.length:=by by_cases x:v.kind=6;have:=(nf w x).2;omega;rw[Xg w x];exact ZN _
  rw[qg]at h;refine⟨λi=>∃k:Nat,i=k/\k<=v.keys.length/\((v.keys.take k).zip (v.items.take k)).all (λp=>fb (qg n) (lb p.1) p.2)=Ta,λi=>v.keys.length-i.toNat,⟨0,rfl,by omega,by simp⟩,?_⟩;rintro i ⟨k,rfl,z,f⟩;refine⟨λu=>?_,λu=>?_⟩;have b:k<v.keys.length:=by simp at u;omega
  have c:k<v.items.length:=by omega
  refine⟨v.keys[k],⟨by omega,by simp⟩,v.items[k],⟨by omega,jl c⟩,?_⟩;rw[qu];have l:v.items[k]∈v.items:=YW c;have o:bR v.items[k]<=n:=by have:=jd l;omega
  refine TK (r:=qg n) q (hv.item l) (λ {R} h=>yK q n _ o (hv.item l) (ql ho l) h) (λy t {R} h=>yK q n y (by have:=jd t;omega) ((hv.item l).item t) (ql (ql ho l) t) h) ⟨λs=>?_,λs=>?_⟩;have A:(v.keys.zip v.items).all (λp=>fb (qg n) (lb p.1) p.2)=Tb:=by rw[zcj];exact⟨(v.keys[k],v.items[k]),zbr.2 ⟨k,by simp;omega,by simp⟩,by simpa using s⟩
  rw[A,Bool.and_false]at h;exact h;rw[qd b (by omega)];refine⟨⟨k+1,rfl,by omega,?_⟩,by grind⟩;rw[F2 b c,f,zao];simpa using s;have b:k=v.keys.length:=by simp at u;omega
  subst b;have e:(v.keys.take v.keys.length).zip (v.items.take v.keys.length)=v.keys.zip v.items:=by rw[@List.zip_eq_zip_take_min _ _ v.keys v.items,zcz m,ZO]
  rw[e]at f;rw[f,zbp]at h;rw[fx];exact h
theorem vu(b:GL gl)(c:Sm v)(h:R (dK v)):PC Tp gl 18 [Arg.mk .tree v] [.bool] R:=by
 apply PT;rw[qu];unfold dK at h;refine BQ b c ⟨λr=>r=qg (bR v) v,λh1=>yK b _ v (YM _) c (Db h1) rfl,λx e=>?_⟩;cases h1:yn v with
 |false=>rw[h1]at h;exact h
 |true=>rw[h1]at h e;rw[e rfl];exact h
end
end
end Go.X
end
section
namespace Go.X
open Go Go.Proofs Go.Shelf Go.RowKit
section
def JH:Go.Shelf.Ren:=⟨fun|106=>321|213=>369|265=>385|n=>n,fun|9=>9|3=>3|n=>n,fun|n=>n⟩
theorem UY:Go.Proofs.Lays.n106 Tp JH:=by constructor <;> intros <;> kernel_rfl
theorem Nz(a b:Bt)(w:World): Calls Tp 321 #[.string a,.string b] w λe w'=>e=.returned (.int .i64 (Lib.compareBytes a.data.toList b.data.toList))/\w'=w:=Any.strings_Compare UY a b w
def YC:Go.Shelf.Ren:=⟨fun|195=>276|n=>n,fun|9=>9|3=>3|0=>0|4=>4|n=>n,fun|n=>n⟩
theorem IN:Go.Proofs.Lays.n195 Tp YC:=by constructor <;> intros <;> kernel_rfl
theorem J8(s:Bt)(w:World)(b:s.size<9223372036854775807): Calls Tp 276 #[.string s] w λe w'=>e=.returned (.int .i64 (Lib.runeCount s))/\∃pos,w'=w.iter s pos:=Any.utf8_RuneCountInString IN s w b
def OP:Go.Shelf.Ren:=⟨fun|110=>56|109=>98|n=>n,fun|31=>22|9=>9|4=>4|3=>3|0=>0|n=>n,fun|n=>n⟩
theorem Hs:Go.Proofs.Lays.n110 Tp OP:=by constructor <;> intros <;> kernel_rfl
open Go.Lib in
theorem J9(b off n c:Nat)(f:List Bt)(x:Bt)(w:World)(k:n<=f.length)(h:n<=9223372036854775807)(i:∀j,j<f.length->w.cell? ⟨b,off+j,Td⟩=Tc (.string (f.getD j zc1))): Calls Tp 56 #[.slice (Tc ⟨b,off,Td⟩) n c,.string x] w λe w'=>e=.returned (.bool (Lib.containsS (f.take n) x))/\w'=w:=Any.slices_Contains_string Hs b off n c f x w k h i
open Go.Lib in
theorem Qg(a:Option Addr)(c:Nat)(x:Bt)(w:World): Calls Tp 56 #[.slice a 0 c,.string x] w λe w'=>e=.returned (.bool Tb)/\w'=w:=Any.slices_Contains_string_empty Hs a c x w
end
end Go.X
end
section
namespace Go.X
open Go Go.Lib
section
def e9(x y:Int):Int:=if x<y then -1 else if y<x then 1 else 0
def fj(n:Nm):Int:=if n.2.1=[]then 0 else if n.1=Ta then -1 else 1
def iu(a b:Nm):Int:=if e9 (a.2.1.length+a.2.2) (b.2.1.length+b.2.2)=0 then fk a.2.1 b.2.1 else e9 (a.2.1.length+a.2.2) (b.2.1.length+b.2.2)
def jI(a b:Nm):Int:=
 if zy a=Ta then if zy b=Ta then(if e9 (fj a) (fj b)≠0\/fj a=0 then e9 (fj a) (fj b)else fj a*iu a b)else 1 else if zy b=Ta then -1 else 0
def fo:Bs->Bs->Int
 |[],[]=>0
 |[],y::b=>if 48<y.toNat then -1 else fo [] b
 |x::a,[]=>if 48<x.toNat then 1 else fo a []
 |x::a,y::b=>if x.toNat<y.toNat then -1 else if y.toNat<x.toNat then 1 else fo a b
def jZ(a b:Nm):Int:=
 if a.2.1=[]\/b.2.1=[]then min (a.2.1.length:Int) 1-min (b.2.1.length:Int) 1
 else if(a.2.1.length:Int)+a.2.2≠b.2.1.length+b.2.2 then(if(a.2.1.length:Int)+a.2.2<b.2.1.length+b.2.2 then -1 else 1)
 else fo a.2.1 b.2.1
def xC(a b:Nm):Int:=
 if zy a=Ta then if zy b=Ta then(if a.1≠b.1 then(if a.1=Ta then -1 else 1)else if a.1=Ta then jZ b a else jZ a b)else 1 else if zy b=Ta then -1 else 0
theorem y7:∀b:Bs,b.all qy=Ta->b.getLast?≠Tc 48->fo [] b=if b=[]then 0 else -1
 |[],_,_=>by simp[fo]
 |[y],h,g=>by
  have:y≠48:=by simpa using g
  have c:y.toNat≠48:=λe=>this (zb8.1 (by simpa using e));simp[qy]at h;rw[fo,zb (by omega)];simp
 |y::z::b,h,g=>by have:=y7 (z::b) (by simp at h ⊢;exact h.2) (by simpa[List.getLast?_cons_cons]using g);rw[fo,this];simp
theorem sL:∀a b:Bs,fo b a=- fo a b
 |[],[]=>by simp[fo]
 |[],y::b=>by have:=sL [] b;rw[fo,fo];split <;> simp_all
 |x::a,[]=>by have:=sL a [];rw[fo,fo];split <;> simp_all
 |x::a,y::b=>by have:=sL a b;rw[fo,fo];by_cases h1:x.toNat<y.toNat;rw[za (by omega),zb h1,zb h1];rfl;by_cases c:y.toNat<x.toNat;rw[zb c,za h1,zb c];rw[za c,za h1,za h1,za c,this]
theorem BG:∀a b:Bs,a.all qy=Ta->b.all qy=Ta->a.getLast?≠Tc 48->b.getLast?≠Tc 48->fo a b=fk a b
 |[],b,_,hb,_,gb=>by rw[y7 b hb gb];cases b <;> simp[fk,fm]
 |x::a,[],ha,_,ga,_=>by rw[sL,y7 _ ha ga];simp[fk,fm]
 |x::a,y::b,ha,hb,ga,gb=>by
  have i:∀(z:UInt8) (c:Bs),(z::c).getLast?≠Tc 48->c.getLast?≠Tc 48:=λz c h e=>by
   cases c with
   |nil=>simp at e
   |cons w c=>rw[List.getLast?_cons_cons]at h;exact h e
  simp at ha hb;have f:=BG a b (by simpa using ha.2) (by simpa using hb.2) (i _ _ ga) (i _ _ gb);rw[fo];unfold fk at f ⊢;rw[fm,f];unfold ig;by_cases h1:x.toNat<y.toNat;simp[h1];by_cases k:y.toNat<x.toNat;have:x.toNat≠y.toNat:=by omega
  simp[h1,k,this];have:x.toNat=y.toNat:=by omega
  simp[this]
theorem Rk(a b:Nm):iu b a=- iu a b:=by
 unfold iu;have h1:∀x y:Int,e9 y x=- e9 x y:=λx y=>by unfold e9;split <;> split <;> first|omega|rfl|(split <;> omega)
 rw[h1 (a.2.1.length+a.2.2) (b.2.1.length+b.2.2),cmpS_is.swap a.2.1 b.2.1];split <;> split <;> first|rfl|omega
theorem FW{a b:Nm}(c:zy a=Ta)(f:zy b=Ta)(h1:a.2.1≠[])(k:b.2.1≠[]):jZ a b=iu a b:=by
 unfold jZ iu e9;rw[za (by simp[h1,k])];have h:a.2.1.all qy=Ta/\a.2.1.getLast?≠Tc 48:=by unfold zy Qq Z4 at c;simp[h1]at c;simp;exact⟨c.1.1.1.1.1,c.1.1.2⟩
 have i:b.2.1.all qy=Ta/\b.2.1.getLast?≠Tc 48:=by unfold zy Qq Z4 at f;simp[k]at f;simp;exact⟨f.1.1.1.1.1,f.1.1.2⟩
 rw[BG a.2.1 b.2.1 h.1 i.1 h.2 i.2];by_cases e:(a.2.1.length:Int)+a.2.2=b.2.1.length+b.2.2;simp[e];by_cases l:(a.2.1.length:Int)+a.2.2<b.2.1.length+b.2.2;simp[e,l];have:(b.2.1.length:Int)+b.2.2<a.2.1.length+a.2.2:=by omega
 simp[e,l,this]
theorem Po(a b:Nm):xC a b=jI a b:=by
 unfold xC jI;by_cases f:zy a=Ta;by_cases k:zy b=Ta;rw[zb f,zb k,zb f,zb k];have m:a.2.1=[]->a.1=Tb:=λe=>by have:=W7 f e;unfold Qq at this;simp at this;exact this.1
 have l:b.2.1=[]->b.1=Tb:=λe=>by have:=W7 k e;unfold Qq at this;simp at this;exact this.1
 by_cases i:a.2.1=[];rw[m i];by_cases c:b.2.1=[];rw[l c];simp[fj,i,c,e9,jZ];have:=ZX.2 c;cases h:b.1 <;> simp[fj,i,c,e9,jZ,h] <;> omega;by_cases c:b.2.1=[];rw[l c];have:=ZX.2 i;cases h:a.1 <;> simp[fj,i,c,e9,jZ,h] <;> omega;rw[FW f k i c,FW k f c i,Rk a b];cases h:a.1 <;> cases h':b.1 <;> simp[fj,i,c,e9,h,h'];rw[zb f,za k,zb f,za k];rw[za f,za f]
end
end Go.X
end
section
namespace Go.X
open Go Go.X Go.Proofs Go.Lib
section
variable {R:Int -> Prop} {k:Nat}
section
variable {gl : Fr}
theorem xP{x y:Int}(h:R (e9 x y)):PC Tp gl 320 [Arg.mk (.int .i64) x,Arg.mk (.int .i64) y] [.int .i64] R:=by
 apply NW;apply Xz;apply Xz;have e:∀z:Int,(z != z)=Tb:=λz=>by simp
 rw[e,e];unfold e9 at h;refine⟨λf=>(nomatch f),λ_=>⟨λf=>(nomatch f),λ_=>⟨λc=>?_,λc=>⟨λb=>?_,λb=>?_⟩⟩⟩⟩;rw[zb (by simpa using c)]at h;exact h;rw[za (by simpa using c),zb (by simpa using b)]at h;exact h;rw[za (by simpa using c),za (by simpa using b)]at h;exact h
def jY:List Int->Int
 |[]=>0
 |x::l=>if x≠0 then x else jY l
theorem Dv{l:List Int}(n:l.length<=1000000)(h:R (jY l)):PC Tp gl 319 [Arg.mk (.row (.int .i64)) l] [.int .i64] R:=by
 apply T9;refine⟨λi=>∃k:Nat,i=k/\k<=l.length/\jY l=jY (l.drop k),λi=>l.length-i.toNat,⟨0,rfl,ZN _,rfl⟩,?_⟩;rintro i ⟨k,rfl,m,e⟩;refine⟨λf=>?_,λf=>?_⟩;have b:k<l.length:=by simp at f;omega
 rw[ZM b,jY]at e;refine⟨l[k],⟨by omega,by simp⟩,λc=>?_,λc=>?_⟩;rw[zb (by simpa using c)]at e;rw[e]at h;exact h;rw[za (by simpa using c)]at e;rw[qd b (by omega)];exact⟨⟨k+1,rfl,by omega,e⟩,by simp only[YO];omega⟩;have b:k=l.length:=by simp at f;omega
 subst b;rw[zbm]at e;rw[e]at h;exact h
theorem FB:∀a b:Bs,compareBytes a b=fk a b
 |[],[]=>rfl
 |[],_::_=>rfl
 |_::_,[]=>rfl
 |a::l,b::m=>by
  have c:=FB l m;unfold fk at c ⊢;rw[compareBytes,fm,c];unfold ig;simp only[UInt8.lt_iff_toNat_lt];by_cases h1:a.toNat<b.toNat;simp[h1];by_cases e:b.toNat<a.toNat;have:a.toNat≠b.toNat:=by omega
  simp[h1,e,this];have:a.toNat=b.toNat:=by omega
  simp[this]
theorem BE{a b:Bt}(h:R (fk (lb a) (lb b))):PC Tp gl 321 [Arg.mk .str a,Arg.mk .str b] [.int .i64] R:= PC.of_same rfl (λ_=>nE _ _) (by rw[<-FB]at h;exact h) λw _=>Nz a b w
theorem GC(s:Bs):((bl s).toList==(⟨#[]⟩:Bt).toList)=decide (s=[]):=by rw[ZR];simp[ByteArray.toList_eq,bl]
theorem sN{n:Nm}(h:R (fj n)):PC Tp gl 366 [Arg.mk tN (eT n)] [.int .i64] R:=by apply Pa;unfold fj at h;rw[GC];refine⟨λc=>?_,λc=>⟨λb=>?_,λb=>?_⟩⟩;rw[zb (by simpa using c)]at h;exact h;rw[za (by simpa using c),zb b]at h;exact h;rw[za (by simpa using c),za (by rw[show n.1=Tb from b];exact Bool.false_ne_true)]at h;exact h
theorem rq{n:Nm}(b:zy n=Ta):YJ .i64 ((((bl n.2.1).size:Nat):Int)+n.2.2)=(n.2.1.length:Int)+n.2.2:=by obtain⟨h1,e,c⟩:=xw b;rw[zh,wrap64 (by omega) (by omega)]
theorem Pk{a b:Nm}(e:zy a=Ta)(c:zy b=Ta)(h:R (iu a b)):PC Tp gl 367 [Arg.mk tN (eT a),Arg.mk tN (eT b)] [.int .i64] R:=by
 apply JB;simp only[rq e,rq c];refine xP (BE (Dv (by simp) ?_));rw[jg,jg];unfold iu at h;unfold jY jY jY;split;rename_i h1;rw[za h1]at h;exact h;rename_i h1;rw[zb (by simpa using h1)]at h;split;exact h;rename_i f;have:fk a.2.1 b.2.1=0:=by simpa using f
 rw[this]at h;exact h
theorem FH(n:Nm):fj n=-1\/fj n=0\/fj n=1:=by unfold fj;split <;> (try split) <;> simp
theorem uj(x y:Int):e9 x y=-1\/e9 x y=0\/e9 x y=1:=by unfold e9;split <;> (try split) <;> simp
theorem G2(a b:Nm):iu a b=-1\/iu a b=0\/iu a b=1:=by unfold iu;split;exact cmpS_is.rng _ _;exact uj _ _
theorem Ui(a b:Nm):-1<=jI a b/\jI a b<=1:=by have h1:=uj (fj a) (fj b);have c:=G2 a b;have f:=FH a;unfold jI;split;split;split;omega;rcases c with e|e|e <;> rcases f with e'|e'|e' <;> rw[e,e'] <;> omega;omega;split <;> omega
theorem T4{a b:Nm}(n:a.2.1.length<=4611686018427387904)(m:b.2.1.length<=4611686018427387904)(h:R (jI a b)):PC Tp gl 318 [Arg.mk tN (eT a),Arg.mk tN (eT b)] [.int .i64] R:=by
 apply On;refine nm n (nm m ?_);unfold jI at h;cases h1:zy a with
 |false=>
  rw[h1]at h;cases h2:zy b with
  |false=>rw[h2]at h;exact⟨λ_=>by simpa using h,λc=>(nomatch c)⟩
  |true=>rw[h2]at h;exact⟨λc=>(nomatch c),λ_=>⟨λ_=>by simpa using h,λc=>(nomatch c)⟩⟩
 |true=>
  rw[h1]at h;cases h2:zy b with
  |false=>rw[h2]at h;exact⟨λc=>(nomatch c),λ_=>⟨λc=>(nomatch c),λ_=>⟨λ_=>by simpa using h,λc=>(nomatch c)⟩⟩⟩
  |true=>
   rw[h2,zb rfl,zb rfl]at h;refine⟨λc=>(nomatch c),λ_=>⟨λc=>(nomatch c),λ_=>⟨λc=>(nomatch c),λ_=>?_⟩⟩⟩;refine sN (sN (xP ⟨λr=>r=fj a,λ_=>sN rfl,λx k=>⟨λc=>?_,λc=>?_⟩⟩));have q:e9 (fj a) (fj b)≠0\/fj a=0:=by by_cases f:e9 (fj a) (fj b)=0;have:=k (by simp[f]);simp[f]at c;exact .inr (by rw[<-this];exact c);exact .inl f
   rw[zb q]at h;exact h;have f:e9 (fj a) (fj b)=0:=by by_cases f:e9 (fj a) (fj b)=0;exact f;simp[f]at c
   have o:x=fj a:=k (by simp[f]);have p:fj a≠0:=by simp[f]at c;rw[<-o];exact c
   rw[za (by simp[f,p])]at h;refine sN (Pk h1 h2 ?_);have i:=FH a;have l:=G2 a b;rw[wrap64 (by rcases i with e|e|e <;> rcases l with e'|e'|e' <;> rw[e,e'] <;> omega) (by rcases i with e|e|e <;> rcases l with e'|e'|e' <;> rw[e,e'] <;> omega)];exact h
def gt(l:Bs)(k:Nat):Int:=if k<l.length then(((l[k]?).getD 0).toNat:Int)-48 else 0
theorem U2{a b:Bs}(o:a.all qy=Ta)(m:b.all qy=Ta)(q:k<a.length\/k<b.length):fo (a.drop k) (b.drop k)=if gt a k<gt b k then -1 else if gt a k>gt b k then 1 else fo (a.drop (k+1)) (b.drop (k+1)):=by
 have i:∀l:Bs,l.all qy=Ta->∀(h:k<l.length),gt l k=(l[k].toNat:Int)-48/\48<=l[k].toNat:=λl n h=>by have:=ZJ.1 n _ (YW h);unfold qy at this;simp at this;exact⟨by unfold gt;rw[zb h];simp[h],this.1⟩
 by_cases h1:k<a.length
 ·obtain⟨f,r⟩:=i a o h1;rw[ZM h1];by_cases c:k<b.length
  ·obtain⟨e,p⟩:=i b m c;rw[ZM c,fo,f,e];repeat' split
   all_goals first|rfl|omega
  ·have e:gt b k=0:=by unfold gt;rw[za c]
   rw[zac (by omega:b.length<=k),zac (by omega:b.length<=k+1),fo,f,e];repeat' split
   all_goals first|rfl|omega
 ·have c:k<b.length:=by omega
  obtain⟨e,p⟩:=i b m c;have f:gt a k=0:=by unfold gt;rw[za h1]
  rw[zac (by omega:a.length<=k),zac (by omega:a.length<=k+1),ZM c,fo,f,e];repeat' split
  all_goals first|rfl|omega
theorem Fe{l:Bs}(b:l.all qy=Ta)(h:k<l.length):YJ .i64 (YJ .u8 ((zf (bl l) k)-48))=gt l k:=by
 have:=ZJ.1 b _ (YW h);unfold qy at this;simp at this;have e:zf (bl l) k=(l[k].toNat:Int):=by rw[p6,jg];simp[h]
 have u:=l[k].toNat_lt;rw[e,sU (by omega) (by omega),wrap64 (by omega) (by omega)];unfold gt;rw[zb h];simp[h]
theorem FI{a b:Nm}(A:zy a=Ta)(w:zy b=Ta)(h:R (jZ a b)):PC Tp gl 373 [Arg.mk tN (eT a),Arg.mk tN (eT b)] [.int .i64] R:=by
 apply RH;obtain⟨H,_,_⟩:=xw A;obtain⟨F,_,_⟩:=xw w;simp only[rq A,rq w,GC];unfold jZ at h;refine⟨λm=>?_,λm=>⟨λz=>?_,λz=>?_⟩⟩;rw[zb (by simpa[Bool.cond_eq_ite]using m)]at h;have e:YJ .i64 ((if(1:Int)<(((bl a.2.1).size:Nat):Int)then 1 else(((bl a.2.1).size:Nat):Int))-(if(1:Int)<(((bl b.2.1).size:Nat):Int)then 1 else(((bl b.2.1).size:Nat):Int)))=min (a.2.1.length:Int) 1-min (b.2.1.length:Int) 1:=by rw[zh,zh,wrap64 (by split <;> split <;> omega) (by split <;> split <;> omega)];split <;> split <;> omega
 rw[<-e]at h;exact h;rw[za (by simpa[Bool.cond_eq_ite]using m),zb (by simpa using z)]at h;refine⟨λu=>?_,λu=>?_⟩;rw[zb (by simpa using u)]at h;exact h;rw[za (by simpa using u)]at h;exact h;have s:¬(a.2.1=[]\/b.2.1=[]):=by simpa[Bool.cond_eq_ite]using m
 rw[za s,za (by simpa using z)]at h;have B:=yO A;have C:=yO w;refine⟨λi=>∃k:Nat,i=k/\k<=1000/\fo a.2.1 b.2.1=fo (a.2.1.drop k) (b.2.1.drop k),λi=>1000-i.toNat,⟨0,rfl,ZN _,rfl⟩,?_⟩;rintro i ⟨k,rfl,I,e⟩;rw[zh,zh];refine⟨λm=>?_,λm=>?_⟩;have o:k<a.2.1.length\/k<b.2.1.length:=by simpa[Bool.cond_eq_ite]using m
 rw[U2 B C o]at e;have l:∀x y:Int,x=gt a.2.1 k->y=gt b.2.1 k->((decide (x<y))=Ta->R (-1))/\((decide (x<y))=Tb->((decide (x>y))=Ta->R 1)/\((decide (x>y))=Tb->((∃q:Nat,YJ .i64 ((k:Int)+1)=q/\q<=1000/\fo a.2.1 b.2.1=fo (a.2.1.drop q) (b.2.1.drop q))/\1000-(YJ .i64 ((k:Int)+1)).toNat<1000-((k:Int)).toNat))):=λx y p D=>by subst p D;refine⟨λh1=>?_,λh1=>⟨λt=>?_,λt=>?_⟩⟩;rw[zb (by simpa using h1)]at e;rw[e]at h;exact h;rw[za (by simpa using h1),zb (by simpa using t)]at e;rw[e]at h;exact h;rw[za (by simpa using h1),za (by simpa using t)]at e;rw[qd (n:=k+1) (by omega) (by omega)];exact⟨⟨k+1,rfl,by omega,e⟩,by omega⟩
 intro G r;have c:∀x:Int,x=gt a.2.1 k->G x:=λx p=>r x λE f=>by refine⟨λh1=>⟨⟨by omega,by simpa using h1⟩,f _ (l _ _ p ?_)⟩,λh1=>f _ (l _ _ p ?_)⟩;rw[YO];exact Fe C (by simpa using h1);unfold gt;rw[za (by simpa using h1)]
 refine⟨λh1=>⟨⟨by omega,by simpa using h1⟩,c _ ?_⟩,λh1=>c _ ?_⟩;rw[YO];exact Fe B (by simpa using h1);unfold gt;rw[za (by simpa using h1)];have o:¬(k<a.2.1.length\/k<b.2.1.length):=by simpa[Bool.cond_eq_ite]using m
 rw[zac (by omega),zac (by omega),fo]at e;rw[e]at h;exact h
theorem VW{a b:Nm}(i:a.2.1.length<=4611686018427387904)(k:b.2.1.length<=4611686018427387904)(h:R (jI a b)):PC Tp gl 329 [Arg.mk tN (eT a),Arg.mk tN (eT b)] [.int .i64] R:=by
 apply Ut;rw[<-Po]at h;refine W9 i (W9 k ?_);unfold xC at h;cases h1:zy a with
 |false=>
  rw[h1]at h;cases h2:zy b with
  |false=>rw[h2]at h;exact⟨λ_=>⟨λc=>(nomatch c),λ_=>⟨λc=>(nomatch c),λ_=>by simpa using h⟩⟩,λc=>(nomatch c)⟩
  |true=>rw[h2]at h;exact⟨λ_=>⟨λc=>(nomatch c),λ_=>⟨λ_=>by simpa using h,λc=>(nomatch c)⟩⟩,λc=>(nomatch c)⟩
 |true=>
  rw[h1]at h;cases h2:zy b with
  |false=>rw[h2]at h;exact⟨λ_=>⟨λ_=>by simpa using h,λc=>(nomatch c)⟩,λc=>(nomatch c)⟩
  |true=>rw[h2,zb rfl,zb rfl]at h;refine⟨λc=>(nomatch c),λ_=>⟨λf=>⟨λe=>?_,λe=>?_⟩,λf=>⟨λe=>?_,λe=>?_⟩⟩⟩;rw[zb (by simpa using f),zb e]at h;exact h;rw[zb (by simpa using f),za (by rw[show a.1=Tb from e];exact Bool.false_ne_true)]at h;exact h;rw[za (by simpa using f),zb e]at h;exact FI h2 h1 h;rw[za (by simpa using f),za (by rw[show a.1=Tb from e];exact Bool.false_ne_true)]at h;exact FI h1 h2 h
end
end
end Go.X
end
