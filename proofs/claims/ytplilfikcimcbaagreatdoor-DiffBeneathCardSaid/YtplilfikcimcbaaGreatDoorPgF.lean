/- A part of the proof: nothing is stated here for its own sake. -/
import Derived.Test.YtplilfikcimcbaaGreatDoorPgE
import Derived.Lib.Overlaps
open _root_.Go.Addr renaming add->Tl
open _root_.Array renaming size_push->To,toList->Vu
open _root_.Bool renaming and_eq_true->TC
open _root_.Go.Builtin renaming append_->TB
open _root_.Go.Instr renaming storeAt->Tt
open _root_.Go.IntKind renaming wrap->Tj
open _root_.List renaming all_eq_true->T7,append_nil->Uq,drop_zero->Vp,getD_eq_getElem?_getD->TM,getElem_map->US,getElem_mem->TA,length_map->Tx,length_nil->Uu,map_congr_left->UT,mem_append->TE,mem_cons->Tz,mem_filter->UI,mem_flatMap->Vw,mem_map->Ub,mem_of_getElem?->UY,mem_range->Ui,mem_singleton->TP,take_length->TN
open _root_.Nat renaming le_refl->Tm,zero_add->TJ,zero_le->TK
open _root_.Option.some renaming inj->TY
set_option linter.unusedVariables false
set_option maxRecDepth 100000
namespace Go.X
end Go.X
namespace Go.Proofs
end Go.Proofs
open Go Go.X Go.Proofs
open _root_.Bool renaming true->Ta,false->Tc
open _root_.Option renaming some->Td,none->Te
section
namespace Go.X
open Go Go.X Go.Proofs Go.Lib Go.RowKit
section
variable {f:FuncId} {args:Array Value} {h:za} {g:Bool} {M:Fr} {b:Nat} {s1 s2:Bt} {k:Int} {a:Sl} {l:List Tr}
theorem DL{x y:Sl}(e:aK x=aK y):x=y:=by unfold aK at e;injection e with e1 e2 e3;cases x;cases y;simp_all
theorem G5(c:g=Ta){Kt:Bool->za->Prop}(E:XC Tp f args h λv h'=>∃r,v=.bool r/\Kt r h'):
  ∃J:Value->za->Prop,(g=Ta->XC Tp f args h λv h'=>∃r:Bool,v=.bool r/\J (.bool r) h')/\(g=Tc->∃r:Bool,J (.bool r) h)/\(g=Ta->∀v h',J v h'->∃r:Bool,v=.bool r)/\∀r:Bool,∀h',J (.bool r) h'->Kt r h':=by
 refine⟨λv h'=>∃r,v=.bool r/\Kt r h',λ_=>XC.mono E λv h' ⟨r,e,H⟩=>⟨r,e,r,rfl,H⟩,λb=>(by rw[c]at b;cases b),λ_ v h' ⟨r,e,_⟩=>⟨r,e⟩,λr h' ⟨i,e,H⟩=>?_⟩;injection e with e;subst e;exact H
theorem QD(c:g=Ta){Kt:Sl->za->Prop}(E:XC Tp f args h λv h'=>∃s,v=aK s/\Kt s h'):
  ∃J:Value->za->Prop,(g=Ta->XC Tp f args h λv h'=>∃s:Sl,v=aK s/\J (aK s) h')/\(g=Tc->∃s:Sl,J (aK s) h)/\(g=Ta->∀v h',J v h'->∃s:Sl,v=aK s)/\∀s:Sl,∀h',J (aK s) h'->Kt s h':=by
 refine⟨λv h'=>∃s,v=aK s/\Kt s h',λ_=>XC.mono E λv h' ⟨s,e,H⟩=>⟨s,e,s,rfl,H⟩,λb=>(by rw[c]at b;cases b),λ_ v h' ⟨s,e,_⟩=>⟨s,e⟩,λs h' ⟨i,e,H⟩=>?_⟩;rw[DL e];exact H
theorem OE{h h1:za}{s:Sl}(c:g=Ta){Kt:Sl->za->Prop}(E:Kt s h1):
  ∃J:Value->za->Prop,(g=Ta->J (aK s) h1)/\(g=Tc->∃x:Sl,J (aK x) h)/\(g=Ta->∀v h',J v h'->∃x:Sl,v=aK x)/\∀x:Sl,∀h',J (aK x) h'->Kt x h':=by
 refine⟨λv h'=>∃x,v=aK x/\Kt x h',λ_=>⟨s,rfl,E⟩,λb=>(by rw[c]at b;cases b),λ_ v h' ⟨x,e,_⟩=>⟨x,e⟩,λx h' ⟨f,e,H⟩=>?_⟩;rw[DL e];exact H
theorem Hr(m:M b=Te){h f:Tr}{w1 w2:List Value}(h1:Rd M .tree h w1)(l:Rd M .tree f w2)(j:w1.length=4)(n:w2.length=4):Rd (Mx M b (w1++w2).toArray) (.row .tree) [h,f] [aK ⟨Td ⟨b,0,Te⟩,2,2⟩]:=by
 have le:Fr.le M (Mx M b (w1++w2).toArray):=λc cs e=>by unfold Mx;by_cases k:c=b;subst k;rw[m]at e;cases e;rw[zv k];exact e
 refine⟨_,rfl,_,_,rfl,by simp,.inr ⟨b,0,_,rfl,by unfold Mx;rw[zA rfl],λi hi=>?_⟩⟩;have hi:i<2:=hi;rcases(by omega:i=0\/i=1)with rfl|rfl;have:cut (w1++w2).toArray (0+0*sz .tree) (sz .tree)=w1:=by show List.take 4 (List.drop 0 (w1++w2))=w1;rw[Vp,<-j,List.take_left]
 rw[this];exact Rd.mono le h1;have:cut (w1++w2).toArray (0+1*sz .tree) (sz .tree)=w2:=by show List.take 4 (List.drop 4 (w1++w2))=w2;rw[List.drop_left' j,<-n,TN]
 rw[this];exact Rd.mono le l
theorem Sc:Rd (Mx M b #[.string s1,.string s2]) (.row .str) [s1,s2] [aK ⟨Td ⟨b,0,Te⟩,2,2⟩]:=by refine⟨_,rfl,_,_,rfl,by simp,.inr ⟨b,0,_,rfl,by unfold Mx;rw[zA rfl],λi hi=>?_⟩⟩;have hi:i<2:=hi;rcases(by omega:i=0\/i=1)with rfl|rfl <;> rfl
theorem LB{s1 s2 c:Bt}:Rd (Mx M b #[.string s1,.string s2,.string c]) (.row .str) [s1,s2,c] [aK ⟨Td ⟨b,0,Te⟩,3,3⟩]:=by refine⟨_,rfl,_,_,rfl,by simp,.inr ⟨b,0,_,rfl,by unfold Mx;rw[zA rfl],λi hi=>?_⟩⟩;have hi:i<3:=hi;rcases(by omega:i=0\/i=1\/i=2)with rfl|rfl|rfl <;> rfl
def tV(k:Int)(s:Bt)(a b:Sl):Value:=.agg #[.int .i64 k,.string s,aK a,aK b]
theorem Ef{T:Tr}{s:Bt}{a b:Sl}(h:RdV M .tree T (tV k s a b)):Rd M .tree T [.int .i64 k,.string s,aK a,aK b]:=by
 unfold RdV at h;simp only[fR,if_true]at h;obtain⟨cs,e,c⟩:=h;unfold tV at e;injection e with e;have:cs=[.int .i64 k,.string s,aK a,aK b]:=by have:=congrArg Vu e;simpa using this.symm
 rw[<-this];exact c
structure T22 (gl:Fr) (h0:za) (M0:Fr) (ob:Nat) (ok oi:Sl) (hO:za) (E:za->Fr->Prop) (g:za) (M:Fr):Prop where
 hM:Fr.le gl M
 L:Later h0 M0 g M
 fr:g[ob]?=hO[ob]?
 lt:ob<g.size
 r1:RdV M .tree d1 (tV d1.kind d1.text ok oi)
 e:E g M
structure Bx22 (h0:za) (ob:Nat) (g:za) (M:Fr) (b:Nat):Prop where
 B:Blk g b #[.int .i64 0,.string ⟨#[]⟩,aK ⟨Te,0,0⟩,aK ⟨Te,0,0⟩]
 no:M b=Te
 ne:b≠ob
 lo:h0.size<=b
section
variable {gl : Fr} {h0 : za} {M0 : Fr} {ob : Nat} {ok oi : Sl} {hO : za} {E : za -> Fr -> Prop} {g g' : za} {M M' : Fr}
theorem T22.later(b:∀{g M g' M'},Later g M g' M'->E g M->E g' M')(t:T22 gl h0 M0 ob ok oi hO E g M)(L:Later g M g' M'):T22 gl h0 M0 ob ok oi hO E g' M':= ⟨t.hM.trans L.le,t.L.trans L,(L.keep.get _ t.lt).trans t.fr,by have:=L.keep.size;have:=t.lt;omega,t.r1.mono L.le,b L t.e⟩
theorem Bx22.later(x:Bx22 h0 ob g M b)(L:Later g M g' M'):Bx22 h0 ob g' M' b:= ⟨x.B.keep (L.keep.get _ x.B.lt),by rw[L.old b x.B.lt];exact x.no,x.ne,x.lo⟩
theorem ji(ag:AgM M g)(a b:Bt):∃M',Later g M (g.push (.cells #[.string a,.string b] 9)) M'/\RdV M' (.row .str) [a,b] (aK ⟨Td ⟨g.size,0,Te⟩,2,2⟩):= ⟨_,Later.frz ag _ _,(Qo rfl).2 Sc⟩
theorem jk(ag:AgM M g){u w:Tr}{k f:Int}{s c:Bt}{a b e b':Sl}(r:RdV M .tree u (tV k s a b))(h:RdV M .tree w (tV f c e b')):
  ∃M',Later g M (g.push (.cells #[.int .i64 k,.string s,aK a,aK b,.int .i64 f,.string c,aK e,aK b'] 25)) M'/\RdV M' (.row .tree) [u,w] (aK ⟨Td ⟨g.size,0,Te⟩,2,2⟩):=
 ⟨_,Later.frz ag _ _,(Qo rfl).2 (Hr (w1:=[_,_,_,_]) (w2:=[_,_,_,_]) (ag.none (Tm _)) (Ef r) (Ef h) rfl rfl)⟩
theorem Zp(t:T22 gl h0 M0 ob ok oi hO E g M):Later g M (g.push (.cells #[.int .i64 0,.string ⟨#[]⟩,.slice Te 0 0,.slice Te 0 0] 25)) M/\Bx22 h0 ob (g.push (.cells #[.int .i64 0,.string ⟨#[]⟩,.slice Te 0 0,.slice Te 0 0] 25)) M g.size:= ⟨Later.same t.L.ag (Keep.push _ _ (Tm _)),Blk.new _ _ _,t.L.ag.none (Tm _),by have:=t.lt;omega,t.L.keep.size⟩
theorem ke(j:GL gl)(t:T22 gl h0 M0 ob ok oi hO E g M){n:Int}{d:Tr}(h1:-1000000<=n)(i:n<=1000000)(h:Tr.mk 3 (bl (Jm (ql (Lib.itoa n)).1)) [] []=d){K:Int->Bt->Sl->Sl->za->Prop}(l:∀g' M' a b,Later g M g' M'->RdV M' .tree d (tV d.kind d.text a b)->K d.kind d.text a b g'):
  XC Tp 51 #[.int .i64 n] g λv g'=>∃k s a b,v=tV k s a b/\K k s a b g':=by
 refine(DJ j h1 i (R:=λr=>r=d) h).go t.hM t.L.ag (zh (a:=Arg.mk (.int .i64) n) (Qv _ _) zy) λw g' M' r L c e=>?_;have e:r=d:=e;subst e;have f:=Qf.1 c;obtain⟨a,b,rfl,_,_⟩:=qe f;exact⟨_,_,a,b,rfl,l g' M' a b L f⟩
theorem md(t:T22 gl h0 M0 ob ok oi hO E g M){s:Sl}(r:RdV M (.row .tree) l (aK s)){K:Int->Bt->Sl->Sl->za->Prop}(h:∀g' M' a b,Later g M g' M'->RdV M' .tree (.mk 5 ⟨#[]⟩ [] l) (tV 5 ⟨#[]⟩ a b)->K 5 ⟨#[]⟩ a b g'):
  XC Tp 52 #[aK s] g λv g'=>∃k s a b,v=tV k s a b/\K k s a b g':=by
 refine(Pa (gl:=gl) (l:=l) (R:=λr=>r=.mk 5 ⟨#[]⟩ [] l) rfl).go t.hM t.L.ag (zh (a:=Arg.mk (.row .tree) _) r zy) λw g' M' r L c e=>?_;have e:r=.mk 5 ⟨#[]⟩ [] l:=e;subst e;have f:=Qf.1 c;obtain⟨a,b,rfl,_,_⟩:=qe f;exact⟨_,_,a,b,rfl,h g' M' a b L f⟩
theorem sn(t:T22 gl h0 M0 ob ok oi hO E g M){ks:List Bt}{s f:Sl}(j:RdV M (.row .str) ks (aK f))(r:RdV M (.row .tree) l (aK s)){K:Int->Bt->Sl->Sl->za->Prop}(i:∀g' M' a b,Later g M g' M'->RdV M' .tree (.mk 6 ⟨#[]⟩ ks l) (tV 6 ⟨#[]⟩ a b)->K 6 ⟨#[]⟩ a b g'):
  XC Tp 47 #[aK f,aK s] g λv g'=>∃k s a b,v=tV k s a b/\K k s a b g':=by
 refine(Bu (gl:=gl) (ks:=ks) (l:=l) (R:=λr=>r=.mk 6 ⟨#[]⟩ ks l) rfl).go t.hM t.L.ag (zh (a:=Arg.mk (.row .str) _) j (zh (a:=Arg.mk (.row .tree) _) r zy)) λw g' M' r L c e=>?_;have e:r=.mk 6 ⟨#[]⟩ ks l:=e;subst e;have h:=Qf.1 c;obtain⟨a,b,rfl,_,_⟩:=qe h;exact⟨_,_,a,b,rfl,i g' M' a b L h⟩
theorem Gk(t:T22 gl h0 M0 ob ok oi hO E g M)(x:Bx22 h0 ob g M b){s:Bt}{a c:Sl}{K:za->Prop}
  (i:∀g',(∀j,j≠b->g'[j]?=g[j]?)->g'.size=g.size->Later h0 M0 g' M->Blk g' b #[.int .i64 k,.string s,aK a,aK c]->K g'):XRunU Tp (Tt 25 (.pointer (Td ⟨b,0,Te⟩)) (tV k s a c)) g K:=
 Wt x.B λg' f z B=>i g' f z ⟨⟨by have:=t.L.keep.size;omega,λj h=>(f j (by have:=x.lo;omega)).trans (t.L.keep.get j h)⟩,t.L.le,t.L.old,AgM.off t.L.ag λc m e=>f c λl=>by rw[l,x.no]at e;exact nomatch e⟩ B
end
theorem PH:Tr.mk 3 (bl (Jm (ql (Lib.itoa 1)).1)) [] []=d1:=by kernel_rfl
theorem rh:Tr.mk 3 (bl (Jm (ql (Lib.itoa 2)).1)) [] []=d2:=by kernel_rfl
theorem sX:Tr.mk 3 (bl (Jm (ql (Lib.itoa 3)).1)) [] []=d3:=by kernel_rfl
theorem tz:Tr.mk 3 (bl (Jm (ql (Lib.itoa 0)).1)) [] []=d0:=by kernel_rfl
theorem p8{b:Bs}(c:b.length<=2048):iD (.mk 3 (bl b) [] []):=by rw[iD,iJ];exact⟨⟨by rw[zt];exact c,by simp⟩,trivial⟩
theorem ES{b:Bs}(c:b.length<=2048):Sm (.mk 3 (bl b) [] []):=Sm.few (by rw[iS,ix];simp) (p8 c)
theorem D5{a b:Bs}(c:a.length<=2048)(e:b.length<=2048):iD (.mk 5 ⟨#[]⟩ [] [.mk 3 (bl a) [] [],.mk 3 (bl b) [] []]):=by rw[iD,iJ,iJ,iJ];exact⟨⟨by decide,by simp⟩,p8 c,p8 e,trivial⟩
theorem Ss:Sm dA:=by
 refine Sm.few ?_ ?_;have:iS dA=7:=by kernel_rfl
 omega;unfold dA;rw[iD,iJ,iJ,iJ];exact⟨⟨by decide,by decide⟩,p8 (by decide),D5 (by decide) (by decide),trivial⟩
theorem Kw:Sm dB:=by
 refine Sm.few ?_ ?_;have:iS dB=7:=by kernel_rfl
 omega;unfold dB;rw[iD,iJ,iJ,iJ];exact⟨⟨by decide,by decide⟩,D5 (by decide) (by decide),p8 (by decide),trivial⟩
theorem nP{l:List Bt}(h1:decide (l.length<=200)=Ta)(b:l.all (λx=>decide ((lb x).length<=1024))=Ta):PS l:= ⟨zH h1,λx c=>zH (T7.1 b x c)⟩
theorem tf:Sm zT:=Sm.few (by unfold zT;rw[iS,ix];simp) (by unfold zT;rw[iD,iJ];exact⟨⟨by decide,by simp⟩,trivial⟩)
theorem A6:∀o∈dL,OpQ o:=λo b=>by unfold dL at b;simp only[Tz,List.not_mem_nil,or_false]at b;rcases b with rfl|rfl|rfl;exact⟨nP (by kernel_rfl) (by kernel_rfl),nP (by kernel_rfl) (by kernel_rfl),tf⟩;exact⟨nP (by kernel_rfl) (by kernel_rfl),nP (by kernel_rfl) (by kernel_rfl),ES (by decide)⟩;exact⟨nP (by kernel_rfl) (by kernel_rfl),nP (by kernel_rfl) (by kernel_rfl),ES (by decide)⟩
def E22(e:Nat)(c b:Sl)(g:za)(M:Fr):Prop:=Blk g e #[.int .i64 6,.string ⟨#[]⟩,aK c,aK b]/\RdV M .tree dA (tV 6 ⟨#[]⟩ c b)
theorem E22.later{c:Nat}{f b:Sl}{g g':za}{M M':Fr}(L:Later g M g' M')(e:E22 c f b g M):E22 c f b g' M':=⟨e.1.keep (L.keep.get _ e.1.lt),e.2.mono L.le⟩
def iN(_:za)(_:Fr):Prop:=True
end
end Go.X
end
section
namespace Go.X
open Go Go.X Go.Proofs Go.Lib Go.RowKit
set_option maxHeartbeats 4000000 in
set_option maxRecDepth 100000 in
section
theorem HS{gl:Fr}(hg:GL gl)(hb:Brn gl){R:Bool->Prop}(hR:R Ta):PC Tp gl 30 [] [.bool] R:=by
 intro h M vs hM ag ha
 match vs,ha with
 |[],_=>
 apply PX.of
 apply Ry
 refine(DJ hg (n:=1) (by decide) (by decide) (R:=λr=>r=d1) PH).go hM ag (zh (a:=Arg.mk (.int .i64) 1) (Qv _ _) zy) λw E M2 r G Y hr=>?_
 have hr:r=d1:=hr
 subst hr
 have r1:=Qf.1 Y
 obtain⟨ok,oi,rfl,_,_⟩:=qe r1
 refine⟨_,_,ok,oi,rfl,?_⟩
 intro h7
 have k7:Keep E.size E h7:=Keep.push _ _ (Tm _)
 have z7:h7.size=E.size+1:=To _
 have b7:Blk h7 E.size #[.int .i64 0,.string ⟨#[]⟩,aK ⟨Te,0,0⟩,aK ⟨Te,0,0⟩]:=Blk.new _ _ _
 clear_value h7
 refine Wt b7 λh8 f8 z8 b8=>?_
 have V:Later E M2 h8 M2:=Later.same G.ag ⟨by omega,λj hj=>by rw[f8 j (by omega)];exact k7.get j hj⟩
 have co:=G.trans V
 intro cF ck
 have kA:∀{g:za} {Mg:Fr} {U:Nat} {ak ai:Sl},T22 gl h M E.size ok oi h8 iN g Mg->Blk g U #[.int .i64 6,.string ⟨#[]⟩,aK ak,aK ai]->U≠E.size->RdV Mg .tree dA (tV 6 ⟨#[]⟩ ak ai)->cF ⟨U,0,Te⟩ g:=by
  intro P bn U ak ai am cB da rA
  refine ck _ _ ?_
  intro cw cq
  have B1:Blk P E.size #[.int .i64 d1.kind,.string d1.text,aK ok,aK oi]:=b8.keep am.fr
  have I:T22 gl h M E.size ok oi P (E22 U ak ai) P bn:=⟨am.hM,am.L,rfl,am.lt,am.r1,cB,rA⟩
  have kB:∀{g:za} {Mg:Fr} {bb:Nat} {bk bi:Sl},T22 gl h M E.size ok oi P (E22 U ak ai) g Mg->Blk g bb #[.int .i64 6,.string ⟨#[]⟩,aK bk,aK bi]->RdV Mg .tree dB (tV 6 ⟨#[]⟩ bk bi)->cw ⟨bb,0,Te⟩ g:=by
   intro cM cG bb bk bi ah cz rB
   refine cq _ _ ⟨_,_,ak,ai,ah.e.1.ld (cs:=[.int .i64 6,.string ⟨#[]⟩,aK ak,aK ai]),_,_,bk,bi,cz.ld (cs:=[.int .i64 6,.string ⟨#[]⟩,aK bk,aK bi]),?_⟩
   have di:∀{v:Tr},decide (cK v<=100)=Ta->jM 1048576 v->Sm v:=λh1 E=>⟨by have:=zH h1;omega,E⟩
   refine(xX hg hb (x:=dA) (y:=dB) Ss Kw (R:=λr=>r=(dL,0)) Lr).go ah.hM ah.L.ag (zh (a:=Arg.mk .tree dA) ah.e.2 (zh (a:=Arg.mk .tree dB) rB zy)) λw cZ dh r bq Y hr=>?_
   have hr:r=(dL,0):=hr
   subst hr
   obtain⟨us,⟨x1,cH,rfl,q1,x2,rfl,q2⟩,rfl⟩:=Y
   obtain⟨sl,rfl,rl⟩:=i4 q1
   rw[Qo rfl]at q2
   have e2:x2=.int .i64 0:=by simpa[Rd]using q2
   subst e2
   obtain⟨bz,_,_⟩:=rowLen rl
   have cC:sl.len=3:=bz
   refine⟨sl,_,rfl,?_⟩
   have L0:=ah.L.trans bq
   refine(RH hg hb (l:=dL) A6 (by decide) (R:=λr=>r=_) NL).go (ah.hM.trans bq.le) bq.ag (zh (a:=Arg.mk (.row ij) dL) q1 zy) λw df cY r bm Y hr=>?_
   have hr:r=(bl [114,101,109,111,118,101,32,34,47,97,34,10,114,101,112,108,97,99,101,32,34,47,98,47,49,34,32,51,10,97,100,100,32,34,47,99,34,32,48,10],0):=hr
   subst hr
   obtain⟨us,⟨x1,cH,rfl,q3,x2,rfl,q4⟩,rfl⟩:=Y
   rw[jw q3]
   rw[Qo rfl]at q4
   have e4:x2=.int .i64 0:=by simpa[Rd]using q4
   subst e4
   refine⟨_,_,rfl,?_⟩
   have cu:(bif (bif (bif ((0:Int)==0)then((((sl.len:Nat):Int):Int)==3)else Tc)then((0:Int)==0)else Tc)then(((bl [114,101,109,111,118,101,32,34,47,97,34,10,114,101,112,108,97,99,101,32,34,47,98,47,49,34,32,51,10,97,100,100,32,34,47,99,34,32,48,10]:Bt)).toList==((⟨#[114,101,109,111,118,101,32,34,47,97,34,10,114,101,112,108,97,99,101,32,34,47,98,47,49,34,32,51,10,97,100,100,32,34,47,99,34,32,48,10]⟩:Bt):Bt).toList)else Tc)=Ta:=by
    rw[cC]
    kernel_rfl
   have bE:=L0.trans bm
   rw[cu]
   refine QD rfl ?_
   refine(JD hg (l:=dL) (λo ho=>(A6 o ho).s.p) (by decide) (R:=λr=>r=_) Nb).go (hM.trans bE.le) bm.ag (zh (a:=Arg.mk (.row ij) dL) (q1.mono bm.le) zy) λw aj bM r bO Y hr=>?_
   have hr:r=[⟨#[47,97]⟩,⟨#[47,98,47,49]⟩,⟨#[47,99]⟩]:=hr
   subst hr
   obtain⟨sp,rfl,rp⟩:=i4 (Qf.1 Y)
   refine⟨sp,rfl,?_⟩
   refine OE (s:=⟨Td ⟨aj.size,0,Te⟩,3,3⟩) (h1:=aj.push (.cells #[.string ⟨#[47,97]⟩,.string ⟨#[47,98,47,49]⟩,.string ⟨#[47,99]⟩] 9)) rfl ?_
   have bg:Later aj bM (aj.push (.cells #[.string ⟨#[47,97]⟩,.string ⟨#[47,98,47,49]⟩,.string ⟨#[47,99]⟩] 9)) (Mx bM aj.size #[.string ⟨#[47,97]⟩,.string ⟨#[47,98,47,49]⟩,.string ⟨#[47,99]⟩]):=Later.frz bO.ag _ _
   have bN:=(bE.trans bO).trans bg
   refine G5 rfl ?_
   refine(Ls (gl:=gl) (a:=[⟨#[47,97]⟩,⟨#[47,98,47,49]⟩,⟨#[47,99]⟩]) (b:=[⟨#[47,97]⟩,⟨#[47,98,47,49]⟩,⟨#[47,99]⟩]) (by decide) (R:=λr=>r=Ta) λr hr=>hr.2 rfl).go (hM.trans bN.le) bg.ag (zh (a:=Arg.mk (.row .str) _) ((Qo rfl).2 (rp.mono bg.le)) (zh (a:=Arg.mk (.row .str) _) ((Qo rfl).2 LB) zy)) λw cT cE r cA Y hr=>⟨r,Jk Y,?_⟩
   have hr:r=Ta:=hr
   subst hr
   exact⟨cE,Ta,bN.trans cA,Qf.2 (rdBool _),hR⟩
  refine⟨_,_,ok,oi,B1.ld (cs:=[.int .i64 d1.kind,.string d1.text,aK ok,aK oi]),?_⟩
  intro bD bI bH bQ bG bL cc bF bT cg bB bZ bA bJ cy cd bu
  have k:∀{g g':za} {m aA:Fr},T22 gl h M E.size ok oi P (E22 U ak ai) g m->Later g m g' aA->T22 gl h M E.size ok oi P (E22 U ak ai) g' aA:=λt L=>t.later E22.later L
  have aG:∀{g:za} {m:Fr} {u:Nat} {a c:Sl},T22 gl h M E.size ok oi P (E22 U ak ai) g m->Bx22 h E.size g m u->u≠U->RdV m .tree dB (tV 6 ⟨#[]⟩ a c)->bD ⟨u,0,Te⟩ 6 ⟨#[]⟩ a c g:=λ {g m u a c} t x Z r=>
   Gk t x λg' f z L B=>kB ⟨t.hM,L,(f _ (λe=>x.ne e.symm)).trans t.fr,by have:=t.lt;omega,t.r1,t.e.1.keep (f _ (λe=>Z e.symm)),t.e.2⟩ B r
  have az:∀{g:za} {m:Fr} {u:Nat} {si:Sl} {sk:Sl},T22 gl h M E.size ok oi P (E22 U ak ai) g m->Bx22 h E.size g m u->u≠U->RdV m (.row .tree) [dRb,d0] (aK si)->RdV m (.row .str) [⟨#[98]⟩,⟨#[99]⟩] (aK sk)->bI ⟨u,0,Te⟩ si sk g:=by
   intro g m u si sk t x Z ri J
   refine sn t J ri λg1 m a1 b1 q v1=>?_
   exact aG (k t q) (x.later q) Z v1
  have aO:∀{g:za} {m:Fr} {si:Sl} {sk:Sl},T22 gl h M E.size ok oi P (E22 U ak ai) g m->RdV m (.row .tree) [dRb,d0] (aK si)->RdV m (.row .str) [⟨#[98]⟩,⟨#[99]⟩] (aK sk)->bH si sk g:=by
   intro g m si sk t ri J
   refine⟨?_,?_⟩
   ·refine sn t J ri λg1 m a1 b1 q v1=>?_
    have⟨G,x2⟩:=Zp (k t q)
    exact aG (k (k t q) G) x2 (Nat.ne_of_gt (k t q).e.1.lt) v1
   ·have⟨L3,x3⟩:=Zp t
    exact az (k t L3) x3 (Nat.ne_of_gt t.e.1.lt) ri J
  have aC:∀{g:za} {m:Fr} {u:Nat} {aa:Int} {ab:Bt} {ae ac:Sl} {A:Int} {C:Bt} {arr D:Sl} {sk:Sl},T22 gl h M E.size ok oi P (E22 U ak ai) g m->Bx22 h E.size g m u->u≠U->RdV m .tree d0 (tV aa ab ae ac)->RdV m .tree dRb (tV A C arr D)->RdV m (.row .str) [⟨#[98]⟩,⟨#[99]⟩] (aK sk)->bQ ⟨u,0,Te⟩ aa ab ae ac A C arr D sk g:=by
   intro g m u aa ab ae ac A C arr D sk t x Z r0 rr J
   have⟨m,q,i1⟩:=jk t.L.ag rr r0
   exact az (k t q) (x.later q) Z i1 (J.mono q.le)
  have aT:∀{g:za} {m:Fr} {u:Nat} {si:Sl},T22 gl h M E.size ok oi P (E22 U ak ai) g m->Bx22 h E.size g m u->u≠U->RdV m (.row .tree) [dRb,d0] (aK si)->bG ⟨u,0,Te⟩ si g:=by
   intro g m u si t x Z ri
   have⟨m,q,k1⟩:=ji t.L.ag ⟨#[98]⟩ ⟨#[99]⟩
   exact az (k t q) (x.later q) Z (ri.mono q.le) k1
  have aS:∀{g:za} {m:Fr} {aa:Int} {ab:Bt} {ae ac:Sl} {A:Int} {C:Bt} {arr D:Sl} {sk:Sl},T22 gl h M E.size ok oi P (E22 U ak ai) g m->RdV m .tree d0 (tV aa ab ae ac)->RdV m .tree dRb (tV A C arr D)->RdV m (.row .str) [⟨#[98]⟩,⟨#[99]⟩] (aK sk)->bL aa ab ae ac A C arr D sk g:=by
   intro g m aa ab ae ac A C arr D sk t r0 rr J
   refine⟨?_,?_⟩
   ·have⟨m,q,i1⟩:=jk t.L.ag rr r0
    exact aO (k t q) i1 (J.mono q.le)
   ·have⟨G,x2⟩:=Zp t
    exact aC (k t G) x2 (Nat.ne_of_gt t.e.1.lt) r0 rr J
  have an:∀{g:za} {m:Fr} {u:Nat} {A:Int} {C:Bt} {arr D:Sl} {sk:Sl},T22 gl h M E.size ok oi P (E22 U ak ai) g m->Bx22 h E.size g m u->u≠U->RdV m .tree dRb (tV A C arr D)->RdV m (.row .str) [⟨#[98]⟩,⟨#[99]⟩] (aK sk)->cc ⟨u,0,Te⟩ A C arr D sk g:=by
   intro g m u A C arr D sk t x Z rr J
   refine ke hg t (by decide) (by decide) tz λg1 m a1 b1 q v1=>?_
   exact aC (k t q) (x.later q) Z v1 (rr.mono q.le) (J.mono q.le)
  have aH:∀{g:za} {m:Fr} {u:Nat} {aa:Int} {ab:Bt} {ae ac:Sl} {A:Int} {C:Bt} {arr D:Sl},T22 gl h M E.size ok oi P (E22 U ak ai) g m->Bx22 h E.size g m u->u≠U->RdV m .tree d0 (tV aa ab ae ac)->RdV m .tree dRb (tV A C arr D)->bF ⟨u,0,Te⟩ aa ab ae ac A C arr D g:=by
   intro g m u aa ab ae ac A C arr D t x Z r0 rr
   refine⟨?_,?_⟩
   ·have⟨m,q,k1⟩:=ji t.L.ag ⟨#[98]⟩ ⟨#[99]⟩
    exact aC (k t q) (x.later q) Z (r0.mono q.le) (rr.mono q.le) k1
   ·have⟨M2,G,i2⟩:=jk t.L.ag rr r0
    exact aT (k t G) (x.later G) Z i2
  have aI:∀{g:za} {m:Fr} {A:Int} {C:Bt} {arr D:Sl} {sk:Sl},T22 gl h M E.size ok oi P (E22 U ak ai) g m->RdV m .tree dRb (tV A C arr D)->RdV m (.row .str) [⟨#[98]⟩,⟨#[99]⟩] (aK sk)->bT A C arr D sk g:=by
   intro g m A C arr D sk t rr J
   refine⟨?_,?_⟩
   ·refine ke hg t (by decide) (by decide) tz λg1 m a1 b1 q v1=>?_
    exact aS (k t q) v1 (rr.mono q.le) (J.mono q.le)
   ·have⟨G,x2⟩:=Zp t
    exact an (k t G) x2 (Nat.ne_of_gt t.e.1.lt) rr J
  have ax:∀{g:za} {m:Fr} {u:Nat} {sj:Sl} {sk:Sl},T22 gl h M E.size ok oi P (E22 U ak ai) g m->Bx22 h E.size g m u->u≠U->RdV m (.row .tree) [d1,d3] (aK sj)->RdV m (.row .str) [⟨#[98]⟩,⟨#[99]⟩] (aK sk)->cg ⟨u,0,Te⟩ sj sk g:=by
   intro g m u sj sk t x Z rj J
   refine md t rj λg1 m a1 b1 q v1=>?_
   exact an (k t q) (x.later q) Z v1 (J.mono q.le)
  have aV:∀{g:za} {m:Fr} {u:Nat} {A:Int} {C:Bt} {arr D:Sl},T22 gl h M E.size ok oi P (E22 U ak ai) g m->Bx22 h E.size g m u->u≠U->RdV m .tree dRb (tV A C arr D)->bB ⟨u,0,Te⟩ A C arr D g:=by
   intro g m u A C arr D t x Z rr
   refine⟨?_,?_⟩
   ·have⟨m,q,k1⟩:=ji t.L.ag ⟨#[98]⟩ ⟨#[99]⟩
    exact an (k t q) (x.later q) Z (rr.mono q.le) k1
   ·refine ke hg t (by decide) (by decide) tz λg2 M2 a2 b2 G v2=>?_
    exact aH (k t G) (x.later G) Z v2 (rr.mono G.le)
  have aZ:∀{g:za} {m:Fr} {sj:Sl} {sk:Sl},T22 gl h M E.size ok oi P (E22 U ak ai) g m->RdV m (.row .tree) [d1,d3] (aK sj)->RdV m (.row .str) [⟨#[98]⟩,⟨#[99]⟩] (aK sk)->bZ sj sk g:=by
   intro g m sj sk t rj J
   refine⟨?_,?_⟩
   ·refine md t rj λg1 m a1 b1 q v1=>?_
    exact aI (k t q) v1 (J.mono q.le)
   ·have⟨G,x2⟩:=Zp t
    exact ax (k t G) x2 (Nat.ne_of_gt t.e.1.lt) rj J
  have ar:∀{g:za} {m:Fr} {u:Nat} {O:Int} {N:Bt} {S Q:Sl} {sk:Sl},T22 gl h M E.size ok oi P (E22 U ak ai) g m->Bx22 h E.size g m u->u≠U->RdV m .tree d3 (tV O N S Q)->RdV m (.row .str) [⟨#[98]⟩,⟨#[99]⟩] (aK sk)->bA ⟨u,0,Te⟩ O N S Q sk g:=by
   intro g m u O N S Q sk t x Z r3 J
   have⟨m,q,i1⟩:=jk t.L.ag t.r1 r3
   exact ax (k t q) (x.later q) Z i1 (J.mono q.le)
  have aD:∀{g:za} {m:Fr} {u:Nat} {sj:Sl},T22 gl h M E.size ok oi P (E22 U ak ai) g m->Bx22 h E.size g m u->u≠U->RdV m (.row .tree) [d1,d3] (aK sj)->bJ ⟨u,0,Te⟩ sj g:=by
   intro g m u sj t x Z rj
   refine⟨?_,?_⟩
   ·have⟨m,q,k1⟩:=ji t.L.ag ⟨#[98]⟩ ⟨#[99]⟩
    exact ax (k t q) (x.later q) Z (rj.mono q.le) k1
   ·refine md t rj λg2 M2 a2 b2 G v2=>?_
    exact aV (k t G) (x.later G) Z v2
  have ca:∀{g:za} {m:Fr} {O:Int} {N:Bt} {S Q:Sl} {sk:Sl},T22 gl h M E.size ok oi P (E22 U ak ai) g m->RdV m .tree d3 (tV O N S Q)->RdV m (.row .str) [⟨#[98]⟩,⟨#[99]⟩] (aK sk)->cy O N S Q sk g:=by
   intro g m O N S Q sk t r3 J
   refine⟨?_,?_⟩
   ·have⟨m,q,i1⟩:=jk t.L.ag t.r1 r3
    exact aZ (k t q) i1 (J.mono q.le)
   ·have⟨G,x2⟩:=Zp t
    exact⟨(k t G).fr,ar (k t G) x2 (Nat.ne_of_gt t.e.1.lt) r3 J⟩
  have aN:∀{g:za} {m:Fr} {u:Nat} {sk:Sl},T22 gl h M E.size ok oi P (E22 U ak ai) g m->Bx22 h E.size g m u->u≠U->RdV m (.row .str) [⟨#[98]⟩,⟨#[99]⟩] (aK sk)->cd ⟨u,0,Te⟩ sk g:=by
   intro g m u sk t x Z J
   refine ke hg t (by decide) (by decide) sX λg1 m a1 b1 q v1=>?_
   exact⟨(k t q).fr,ar (k t q) (x.later q) Z v1 (J.mono q.le)⟩
  have a6:∀{g:za} {m:Fr} {u:Nat} {O:Int} {N:Bt} {S Q:Sl},T22 gl h M E.size ok oi P (E22 U ak ai) g m->Bx22 h E.size g m u->u≠U->RdV m .tree d3 (tV O N S Q)->bu ⟨u,0,Te⟩ O N S Q g:=by
   intro g m u O N S Q t x Z r3
   refine⟨?_,?_⟩
   ·have⟨m,q,k1⟩:=ji t.L.ag ⟨#[98]⟩ ⟨#[99]⟩
    exact⟨(k t q).fr,ar (k t q) (x.later q) Z (r3.mono q.le) k1⟩
   ·have⟨M2,G,i2⟩:=jk t.L.ag t.r1 r3
    exact aD (k t G) (x.later G) Z i2
  refine⟨?_,?_,?_⟩
  ·have⟨m,q,k1⟩:=ji I.L.ag ⟨#[98]⟩ ⟨#[99]⟩
   refine⟨(k I q).fr,?_,?_⟩
   ·refine ke hg (k I q) (by decide) (by decide) sX λg2 M2 a2 b2 G v2=>?_
    exact⟨(k (k I q) G).fr,ca (k (k I q) G) v2 (k1.mono G.le)⟩
   ·have⟨L3,x3⟩:=Zp (k I q)
    exact⟨(k (k I q) L3).fr,aN (k (k I q) L3) x3 (Nat.ne_of_gt (k I q).e.1.lt) k1⟩
  ·refine ke hg I (by decide) (by decide) sX λg4 M4 a4 b4 F v4=>?_
   refine⟨(k I F).fr,?_,?_,?_⟩
   ·have⟨M5,L5,k5⟩:=ji (k I F).L.ag ⟨#[98]⟩ ⟨#[99]⟩
    exact⟨(k (k I F) L5).fr,ca (k (k I F) L5) (v4.mono L5.le) k5⟩
   ·have⟨M6,L6,i6⟩:=jk (k I F).L.ag (k I F).r1 v4
    refine⟨?_,?_,?_⟩
    ·have⟨M7,L7,k7⟩:=ji (k (k I F) L6).L.ag ⟨#[98]⟩ ⟨#[99]⟩
     exact aZ (k (k (k I F) L6) L7) (i6.mono L7.le) k7
    ·refine md (k (k I F) L6) i6 λg8 M8 a8 b8 V v8=>?_
     refine⟨?_,?_,?_⟩
     ·have⟨M9,L9,k9⟩:=ji (k (k (k I F) L6) V).L.ag ⟨#[98]⟩ ⟨#[99]⟩
      exact aI (k (k (k (k I F) L6) V) L9) (v8.mono L9.le) k9
     ·refine ke hg (k (k (k I F) L6) V) (by decide) (by decide) tz λc8 bn cP de T bj=>?_
      refine⟨?_,?_,?_⟩
      ·have⟨M11,L11,k11⟩:=ji (k (k (k (k I F) L6) V) T).L.ag ⟨#[98]⟩ ⟨#[99]⟩
       exact aS (k (k (k (k (k I F) L6) V) T) L11) (bj.mono L11.le) ((v8.mono T.le).mono L11.le) k11
      ·have⟨M12,L12,i12⟩:=jk (k (k (k (k I F) L6) V) T).L.ag (v8.mono T.le) bj
       refine⟨?_,?_⟩
       ·have⟨cG,L13,k13⟩:=ji (k (k (k (k (k I F) L6) V) T) L12).L.ag ⟨#[98]⟩ ⟨#[99]⟩
        exact aO (k (k (k (k (k (k I F) L6) V) T) L12) L13) (i12.mono L13.le) k13
       ·have⟨L14,x14⟩:=Zp (k (k (k (k (k I F) L6) V) T) L12)
        exact aT (k (k (k (k (k (k I F) L6) V) T) L12) L14) x14 (Nat.ne_of_gt (k (k (k (k (k I F) L6) V) T) L12).e.1.lt) i12
      ·have⟨L15,x15⟩:=Zp (k (k (k (k I F) L6) V) T)
       exact aH (k (k (k (k (k I F) L6) V) T) L15) x15 (Nat.ne_of_gt (k (k (k (k I F) L6) V) T).e.1.lt) bj (v8.mono T.le)
     ·have⟨L16,x16⟩:=Zp (k (k (k I F) L6) V)
      exact aV (k (k (k (k I F) L6) V) L16) x16 (Nat.ne_of_gt (k (k (k I F) L6) V).e.1.lt) v8
    ·have⟨L17,x17⟩:=Zp (k (k I F) L6)
     exact aD (k (k (k I F) L6) L17) x17 (Nat.ne_of_gt (k (k I F) L6).e.1.lt) i6
   ·have⟨af,x18⟩:=Zp (k I F)
    exact⟨(k (k I F) af).fr,a6 (k (k I F) af) x18 (Nat.ne_of_gt (k I F).e.1.lt) v4⟩
  ·have⟨L19,x19⟩:=Zp I
   refine⟨(k I L19).fr,?_,?_⟩
   ·have⟨M20,L20,k20⟩:=ji (k I L19).L.ag ⟨#[98]⟩ ⟨#[99]⟩
    exact⟨(k (k I L19) L20).fr,aN (k (k I L19) L20) (x19.later L20) (Nat.ne_of_gt I.e.1.lt) k20⟩
   ·refine ke hg (k I L19) (by decide) (by decide) sX λcQ dl c7 cV be cv=>?_
    exact⟨(k (k I L19) be).fr,a6 (k (k I L19) be) (x19.later be) (Nat.ne_of_gt I.e.1.lt) cv⟩

 have H:T22 gl h M E.size ok oi h8 iN h8 M2:=⟨hM.trans co.le,co,rfl,by omega,r1,trivial⟩
 refine⟨_,_,ok,oi,b8.ld (cs:=[.int .i64 d1.kind,.string d1.text,aK ok,aK oi]),_,_,ok,oi,b8.ld (cs:=[.int .i64 d1.kind,.string d1.text,aK ok,aK oi]),?_⟩
 intro bP bw cp bU br cm bV cn cj bY b6 bS b9 bC
 have i:∀{g g':za} {m aA:Fr},T22 gl h M E.size ok oi h8 iN g m->Later g m g' aA->T22 gl h M E.size ok oi h8 iN g' aA:=λt L=>t.later (λ_ _=>trivial) L
 have aL:∀{g:za} {m:Fr} {u:Nat} {a c:Sl},T22 gl h M E.size ok oi h8 iN g m->Bx22 h E.size g m u->RdV m .tree dA (tV 6 ⟨#[]⟩ a c)->bP ⟨u,0,Te⟩ 6 ⟨#[]⟩ a c g:=λ {g m u a c} t x r=>
  Gk t x λg' f z L B=>kA ⟨t.hM,L,(f _ (λe=>x.ne e.symm)).trans t.fr,by have:=t.lt;omega,t.r1,trivial⟩ B x.ne r
 have aB:∀{g:za} {m:Fr} {u:Nat} {si:Sl} {sk:Sl},T22 gl h M E.size ok oi h8 iN g m->Bx22 h E.size g m u->RdV m (.row .tree) [d1,dRa] (aK si)->RdV m (.row .str) [⟨#[97]⟩,⟨#[98]⟩] (aK sk)->bw ⟨u,0,Te⟩ si sk g:=by
  intro g m u si sk t x ri J
  refine sn t J ri λg1 m a1 b1 q v1=>?_
  exact aL (i t q) (x.later q) v1
 have aQ:∀{g:za} {m:Fr} {si:Sl} {sk:Sl},T22 gl h M E.size ok oi h8 iN g m->RdV m (.row .tree) [d1,dRa] (aK si)->RdV m (.row .str) [⟨#[97]⟩,⟨#[98]⟩] (aK sk)->cp si sk g:=by
  intro g m si sk t ri J
  refine⟨?_,?_⟩
  ·refine sn t J ri λg1 m a1 b1 q v1=>?_
   have⟨G,x2⟩:=Zp (i t q)
   exact aL (i (i t q) G) x2 v1
  ·have⟨L3,x3⟩:=Zp t
   exact aB (i t L3) x3 ri J
 have ay:∀{g:za} {m:Fr} {u:Nat} {A:Int} {C:Bt} {arr D:Sl} {sk:Sl},T22 gl h M E.size ok oi h8 iN g m->Bx22 h E.size g m u->RdV m .tree dRa (tV A C arr D)->RdV m (.row .str) [⟨#[97]⟩,⟨#[98]⟩] (aK sk)->bU ⟨u,0,Te⟩ A C arr D sk g:=by
  intro g m u A C arr D sk t x rr J
  have⟨m,q,i1⟩:=jk t.L.ag t.r1 rr
  exact aB (i t q) (x.later q) i1 (J.mono q.le)
 have aM:∀{g:za} {m:Fr} {u:Nat} {si:Sl},T22 gl h M E.size ok oi h8 iN g m->Bx22 h E.size g m u->RdV m (.row .tree) [d1,dRa] (aK si)->br ⟨u,0,Te⟩ si g:=by
  intro g m u si t x ri
  have⟨m,q,k1⟩:=ji t.L.ag ⟨#[97]⟩ ⟨#[98]⟩
  exact aB (i t q) (x.later q) (ri.mono q.le) k1
 have aJ:∀{g:za} {m:Fr} {A:Int} {C:Bt} {arr D:Sl} {sk:Sl},T22 gl h M E.size ok oi h8 iN g m->RdV m .tree dRa (tV A C arr D)->RdV m (.row .str) [⟨#[97]⟩,⟨#[98]⟩] (aK sk)->cm A C arr D sk g:=by
  intro g m A C arr D sk t rr J
  refine⟨?_,?_⟩
  ·have⟨m,q,i1⟩:=jk t.L.ag t.r1 rr
   exact aQ (i t q) i1 (J.mono q.le)
  ·have⟨G,x2⟩:=Zp t
   exact⟨(i t G).fr,ay (i t G) x2 rr J⟩
 have au:∀{g:za} {m:Fr} {u:Nat} {sj:Sl} {sk:Sl},T22 gl h M E.size ok oi h8 iN g m->Bx22 h E.size g m u->RdV m (.row .tree) [d1,d2] (aK sj)->RdV m (.row .str) [⟨#[97]⟩,⟨#[98]⟩] (aK sk)->bV ⟨u,0,Te⟩ sj sk g:=by
  intro g m u sj sk t x rj J
  refine md t rj λg1 m a1 b1 q v1=>?_
  exact⟨(i t q).fr,ay (i t q) (x.later q) v1 (J.mono q.le)⟩
 have aE:∀{g:za} {m:Fr} {u:Nat} {A:Int} {C:Bt} {arr D:Sl},T22 gl h M E.size ok oi h8 iN g m->Bx22 h E.size g m u->RdV m .tree dRa (tV A C arr D)->cn ⟨u,0,Te⟩ A C arr D g:=by
  intro g m u A C arr D t x rr
  refine⟨?_,?_⟩
  ·have⟨m,q,k1⟩:=ji t.L.ag ⟨#[97]⟩ ⟨#[98]⟩
   exact⟨(i t q).fr,ay (i t q) (x.later q) (rr.mono q.le) k1⟩
  ·have⟨M2,G,i2⟩:=jk t.L.ag t.r1 rr
   exact aM (i t G) (x.later G) i2
 have aP:∀{g:za} {m:Fr} {sj:Sl} {sk:Sl},T22 gl h M E.size ok oi h8 iN g m->RdV m (.row .tree) [d1,d2] (aK sj)->RdV m (.row .str) [⟨#[97]⟩,⟨#[98]⟩] (aK sk)->cj sj sk g:=by
  intro g m sj sk t rj J
  refine⟨?_,?_⟩
  ·refine md t rj λg1 m a1 b1 q v1=>?_
   exact⟨(i t q).fr,aJ (i t q) v1 (J.mono q.le)⟩
  ·have⟨G,x2⟩:=Zp t
   exact⟨(i t G).fr,au (i t G) x2 rj J⟩
 have al:∀{g:za} {m:Fr} {u:Nat} {O:Int} {N:Bt} {S Q:Sl} {sk:Sl},T22 gl h M E.size ok oi h8 iN g m->Bx22 h E.size g m u->RdV m .tree d2 (tV O N S Q)->RdV m (.row .str) [⟨#[97]⟩,⟨#[98]⟩] (aK sk)->bY ⟨u,0,Te⟩ O N S Q sk g:=by
  intro g m u O N S Q sk t x r3 J
  have⟨m,q,i1⟩:=jk t.L.ag t.r1 r3
  exact⟨(i t q).fr,au (i t q) (x.later q) i1 (J.mono q.le)⟩
 have aU:∀{g:za} {m:Fr} {u:Nat} {sj:Sl},T22 gl h M E.size ok oi h8 iN g m->Bx22 h E.size g m u->RdV m (.row .tree) [d1,d2] (aK sj)->b6 ⟨u,0,Te⟩ sj g:=by
  intro g m u sj t x rj
  refine⟨?_,?_⟩
  ·have⟨m,q,k1⟩:=ji t.L.ag ⟨#[97]⟩ ⟨#[98]⟩
   exact⟨(i t q).fr,au (i t q) (x.later q) (rj.mono q.le) k1⟩
  ·refine md t rj λg2 M2 a2 b2 G v2=>?_
   exact⟨(i t G).fr,aE (i t G) (x.later G) v2⟩
 have aY:∀{g:za} {m:Fr} {O:Int} {N:Bt} {S Q:Sl} {sk:Sl},T22 gl h M E.size ok oi h8 iN g m->RdV m .tree d2 (tV O N S Q)->RdV m (.row .str) [⟨#[97]⟩,⟨#[98]⟩] (aK sk)->bS O N S Q sk g:=by
  intro g m O N S Q sk t r3 J
  refine⟨?_,?_⟩
  ·have⟨m,q,i1⟩:=jk t.L.ag t.r1 r3
   exact⟨(i t q).fr,aP (i t q) i1 (J.mono q.le)⟩
  ·have⟨G,x2⟩:=Zp t
   exact⟨(i t G).fr,(i t G).fr,al (i t G) x2 r3 J⟩
 have aF:∀{g:za} {m:Fr} {u:Nat} {sk:Sl},T22 gl h M E.size ok oi h8 iN g m->Bx22 h E.size g m u->RdV m (.row .str) [⟨#[97]⟩,⟨#[98]⟩] (aK sk)->b9 ⟨u,0,Te⟩ sk g:=by
  intro g m u sk t x J
  refine ke hg t (by decide) (by decide) rh λg1 m a1 b1 q v1=>?_
  exact⟨(i t q).fr,(i t q).fr,al (i t q) (x.later q) v1 (J.mono q.le)⟩
 have a7:∀{g:za} {m:Fr} {u:Nat} {O:Int} {N:Bt} {S Q:Sl},T22 gl h M E.size ok oi h8 iN g m->Bx22 h E.size g m u->RdV m .tree d2 (tV O N S Q)->bC ⟨u,0,Te⟩ O N S Q g:=by
  intro g m u O N S Q t x r3
  refine⟨?_,?_⟩
  ·have⟨m,q,k1⟩:=ji t.L.ag ⟨#[97]⟩ ⟨#[98]⟩
   exact⟨(i t q).fr,(i t q).fr,al (i t q) (x.later q) (r3.mono q.le) k1⟩
  ·have⟨M2,G,i2⟩:=jk t.L.ag t.r1 r3
   exact⟨(i t G).fr,aU (i t G) (x.later G) i2⟩
 refine⟨?_,?_,?_⟩
 ·have⟨m,q,k1⟩:=ji H.L.ag ⟨#[97]⟩ ⟨#[98]⟩
  refine⟨(i H q).fr,(i H q).fr,?_,?_⟩
  ·refine ke hg (i H q) (by decide) (by decide) rh λg2 M2 a2 b2 G v2=>?_
   exact⟨(i (i H q) G).fr,(i (i H q) G).fr,aY (i (i H q) G) v2 (k1.mono G.le)⟩
  ·have⟨L3,x3⟩:=Zp (i H q)
   exact⟨(i (i H q) L3).fr,(i (i H q) L3).fr,aF (i (i H q) L3) x3 k1⟩
 ·refine ke hg H (by decide) (by decide) rh λg4 M4 a4 b4 F v4=>?_
  refine⟨(i H F).fr,(i H F).fr,?_,?_,?_⟩
  ·have⟨M5,L5,k5⟩:=ji (i H F).L.ag ⟨#[97]⟩ ⟨#[98]⟩
   exact⟨(i (i H F) L5).fr,(i (i H F) L5).fr,aY (i (i H F) L5) (v4.mono L5.le) k5⟩
  ·have⟨M6,L6,i6⟩:=jk (i H F).L.ag (i H F).r1 v4
   refine⟨(i (i H F) L6).fr,?_,?_,?_⟩
   ·have⟨M7,L7,k7⟩:=ji (i (i H F) L6).L.ag ⟨#[97]⟩ ⟨#[98]⟩
    exact⟨(i (i (i H F) L6) L7).fr,aP (i (i (i H F) L6) L7) (i6.mono L7.le) k7⟩
   ·refine md (i (i H F) L6) i6 λg8 M8 a8 b8 V v8=>?_
    refine⟨(i (i (i H F) L6) V).fr,?_,?_,?_⟩
    ·have⟨M9,L9,k9⟩:=ji (i (i (i H F) L6) V).L.ag ⟨#[97]⟩ ⟨#[98]⟩
     exact⟨(i (i (i (i H F) L6) V) L9).fr,aJ (i (i (i (i H F) L6) V) L9) (v8.mono L9.le) k9⟩
    ·have⟨bn,T,i10⟩:=jk (i (i (i H F) L6) V).L.ag (i (i (i H F) L6) V).r1 v8
     refine⟨?_,?_⟩
     ·have⟨M11,L11,k11⟩:=ji (i (i (i (i H F) L6) V) T).L.ag ⟨#[97]⟩ ⟨#[98]⟩
      exact aQ (i (i (i (i (i H F) L6) V) T) L11) (i10.mono L11.le) k11
     ·have⟨L12,x12⟩:=Zp (i (i (i (i H F) L6) V) T)
      exact aM (i (i (i (i (i H F) L6) V) T) L12) x12 i10
    ·have⟨L13,x13⟩:=Zp (i (i (i H F) L6) V)
     exact⟨(i (i (i (i H F) L6) V) L13).fr,aE (i (i (i (i H F) L6) V) L13) x13 v8⟩
   ·have⟨L14,x14⟩:=Zp (i (i H F) L6)
    exact⟨(i (i (i H F) L6) L14).fr,aU (i (i (i H F) L6) L14) x14 i6⟩
  ·have⟨L15,x15⟩:=Zp (i H F)
   exact⟨(i (i H F) L15).fr,(i (i H F) L15).fr,a7 (i (i H F) L15) x15 v4⟩
 ·have⟨L16,x16⟩:=Zp H
  refine⟨(i H L16).fr,(i H L16).fr,?_,?_⟩
  ·have⟨M17,L17,k17⟩:=ji (i H L16).L.ag ⟨#[97]⟩ ⟨#[98]⟩
   exact⟨(i (i H L16) L17).fr,(i (i H L16) L17).fr,aF (i (i H L16) L17) (x16.later L17) k17⟩
  ·refine ke hg (i H L16) (by decide) (by decide) rh λcO dm cL dd af cJ=>?_
   exact⟨(i (i H L16) af).fr,(i (i H L16) af).fr,a7 (i (i H L16) af) (x16.later af) cJ⟩
end
end Go.X
end
section
namespace Go.X
open Go Go.X Go.Proofs Go.Lib Go.RowKit
section
variable {v a b:Tr}
def SQ(p:List Bt):Prop:=∀s∈p,(lb s).length<=1048576
theorem SQ.snoc{p:List Bt}(h:SQ p){s:Bt}(c:(lb s).length<=1048576):SQ (p++[s]):=λx b=>by rcases TE.1 b with b|b;exact h x b;rw[TP.1 b];exact c
def SmB(v:Tr):Prop:=Sm v/\cK v<=1000000
theorem PZ:SmB zT:=⟨tf,by unfold zT;rw[cK,Zc];omega⟩
theorem SmB.item{v x:Tr}(h:SmB v)(b:x∈v.items):SmB x:=⟨h.1.item b,by have:=qq b;have:=h.2;omega⟩
theorem SmB.len(h:SmB v):v.items.length<=1000000:=by have:=h.2;have:=Zk v.items;have:=w7 v;omega
theorem sT{l:List Tr}(h:∀x∈l,SmB x)(i:Nat):SmB (l.getD i zT):=by
 rw[TM];cases e:l[i]? with
 |none=>exact PZ
 |some x=>exact h x (UY e)
theorem wY{i:Nat}(hi:i<=1000000):(lb (iE i)).length<=1048576:=by unfold iE;rw[j4];have:=Go.X.itoa_len (i:Int);omega
theorem Gn(b:Sm v){k:Bt}(c:k∈v.keys):(lb k).length<=1048576:=by rw[ny];exact((mA _ v).1 b.tx).1.2.2 k c
def OQ(n:Nat)(o:dK):Prop:=SQ o.2.1/\o.2.1.length<=n/\o.2.2.1=[]/\Sm o.2.2.2
theorem FX{rw:List Tr->List Tr->Option (List (Nat×Nat))}(y:∀us ws m,rw us ws=Td m->Rising 0 0 us.length ws.length m):∀(f:Nat) (p:List Bt) (a b:Tr),SmB a->SmB b->SQ p->∀o∈ik rw f p a b,OQ (p.length+f) o
 |0,p,a,b,_,_,_,o,c=>nomatch c
 |f+1,p,a,b,ha,hb,hp,o,c=>by
  have L:∀i,SmB (iG a i):=sT λx j=>ha.item j;have w:∀i,SmB (iG b i):=sT λx j=>hb.item j;have H:∀k,SmB (gR a k):=λk=>sT (λx j=>ha.item j) _;have t:∀k,SmB (gR b k):=λk=>sT (λx j=>hb.item j) _;have ln:∀s:Bt,(p++[s]).length=p.length+1:=λs=>by simp
  have sub:∀s u v,(lb s).length<=1048576->SmB u->SmB v->o∈ik rw f (p++[s]) u v->OQ (p.length+(f+1)) o:=λs u v J C E h=>by obtain⟨h1,z,D,A⟩:=FX y f (p++[s]) u v C E (hp.snoc J) o h;exact⟨h1,by rw[ln]at z;omega,D,A⟩
  have r:∀k∈zf a.keys,(lb k).length<=1048576:=λk e=>Gn ha.1 ((qi a.keys).mem_iff.1 e);have F:∀k∈zf b.keys,(lb k).length<=1048576:=λk e=>Gn hb.1 ((qi b.keys).mem_iff.1 e);have l:o∈[jB p b]->OQ (p.length+(f+1)) o:=λh=>by rw[TP.1 h];exact⟨hp,by show p.length<=_;omega,rfl,hb.1⟩
  unfold ik at c;split at c;exact nomatch c;split at c;unfold iW at c;rcases TE.1 c with c|c;obtain⟨k,e,rfl⟩:=Ub.1 c;exact⟨hp.snoc (r k (UI.1 e).1),by show(p++[k]).length<=_;rw[ln];omega,rfl,tf⟩;rcases TE.1 c with c|c;obtain⟨k,e,h⟩:=Vw.1 c;exact sub k _ _ (r k (UI.1 e).1) (H k) (t k) h;obtain⟨k,e,rfl⟩:=Ub.1 c;exact⟨hp.snoc (F k (UI.1 e).1),by show(p++[k]).length<=_;rw[ln];omega,rfl,(t k).1⟩;split at c;split at c;rename_i m B;have n:=(xm (y _ _ _ B)).1;have la:=ha.len;have I:=hb.len;unfold iZ at c;rcases TE.1 c with c|c;obtain⟨q,G,h⟩:=Vw.1 c;exact sub _ _ _ (wY (by have:=n q G;omega)) (L q.1) (w q.2) h;rcases TE.1 c with c|c;obtain⟨i,hi,rfl⟩:=Ub.1 c;exact⟨hp.snoc (wY (by have:=Ui.1 (UI.1 (List.mem_reverse.1 hi)).1;omega)),by show(p++[_]).length<=_;rw[ln];omega,rfl,tf⟩;obtain⟨i,hi,rfl⟩:=Ub.1 c;exact⟨hp.snoc (wY (by have:=Ui.1 (UI.1 hi).1;omega)),by show(p++[_]).length<=_;rw[ln];omega,rfl,(w i).1⟩;exact l c;exact l c
theorem PM(e:Sm a)(f:Sm b):∀o∈(iw a b).1,OQ 33 o:=λo c=>by unfold iw at c;split at c;rename_i h;rw[TC]at h;have:=FX Xl 33 [] a b ⟨e,by have:=GV.sz ⟨h.1,e⟩;omega⟩ ⟨f,by have:=GV.sz ⟨h.2,f⟩;omega⟩ (λs i=>nomatch i) o c;rwa[Uu,TJ]at this;exact nomatch c
theorem Fo(h:(iw a b).2=0):zm a=Ta/\zm b=Ta/\(iw a b).1=jZ a b:=by unfold iw at h ⊢;split;rename_i c;rw[TC]at c;exact⟨c.1,c.2,rfl⟩;rename_i c;rw[zv c]at h;exact nomatch h
end
section
variable {a b:Tr}
theorem Ei{α β:Type}{f g:α->List β}{l:List α}(h:∀x∈l,f x=g x):l.flatMap f=l.flatMap g:=by unfold List.flatMap;rw[UT h]
theorem Rq(v:Tr):1<=ie v:=by cases v;unfold ie;omega
theorem FN:∀(f:Nat) (p:List Bt) (a b:Tr),GV a->GV b->ie a<=f->ik iC f p a b=ik iC (f+1) p a b
 |0,p,a,b,ga,gb,h=>by have:=Rq a;omega
 |f+1,p,a,b,ga,gb,h=>by rw[ik,ik];have e:∀q x y,x∈a.items->y∈b.items->ik iC f q x y=ik iC (f+1) q x y:=λq x y i r=>FN f q x y (ga.item i) (gb.item r) (by have:=s7 i;omega);split;rfl;split;rename_i j;obtain⟨na,la⟩:=ga.keys j.1;obtain⟨n,lb⟩:=gb.keys j.2;unfold iW;rw[Ei λk o=>?_];obtain⟨h1,l⟩:=UI.1 o;exact e _ _ _ (tI na la ((qi a.keys).mem_iff.1 h1)) (tI n lb (by simpa using l));split;split;rename_i m t;have:=(xm (Xl _ _ _ t)).1;unfold iZ;rw[Ei λq c=>e _ _ _ (td (this q c).2.1) (td (this q c).2.2.2)];rfl;rfl
abbrev ia(key:Bt)(a:Tr):Tr:=.mk 6 ⟨#[]⟩ [key] [a]
theorem AB(key:Bt):idxOfS [key] key=0:=DO (l:=[key]) (by simp) (i:=0) (by simp)
theorem Ho{key:Bt}(ga:GV (ia key a))(gb:GV (ia key b)):jZ (ia key a) (ia key b)=(jZ a b).map (jE [key]):=by
 have j:GV a:=ga.item (x:=a) (by simp[Tr.items]);have f:GV b:=gb.item (x:=b) (by simp[Tr.items]);have i:Za (ia key a) (ia key b)=Za a b:=by simp[Za,mo,Tr.keys,Tr.items,Tr.kind,Tr.text,AB]
 have k:=ga.dp;have c:=s7 (v:=ia key a) (x:=a) (by simp[Tr.items]);show ik iC 33 [] _ _=(ik iC 33 [] a b).map _;rw[<-FN 32 [] a b j f (by omega),<-w0 32 [key] [] a b];rw[ik,i];split;rename_i h;rw[Uq];unfold ik;rw[zA h];rw[zA ⟨rfl,rfl⟩];have e:zf [key]=[key]:=List.perm_singleton.1 (qi [key]);simp[iW,Tr.keys,e,gR,AB,Tr.items]
theorem HG(h:a.kind≠b.kind):jZ a b=[jB [] b]:=by
 have c:Za a b=Tc:=by rw[qO];simp[h]
 show ik iC 33 [] a b=_;rw[ik,c,zv (by simp),zv (λe=>h (e.1.trans e.2.symm)),zv (λe=>h (e.1.trans e.2.symm))]
end
end Go.X
end
section
namespace Go.X
section
theorem Q0(b:Int)(c:Bt)(d:Sl)(e:Sl)(f:Int)(g:Bt)(i:Sl)(j:Sl)(e3:Bt)(h:za)(R:Value->za->Prop) (H:let k:=h.push (.cells #[iV b,.string c,aK d,aK e] 25);let l:=k.push (.cells #[iV f,.string g,aK i,aK j] 25);XC Tp 30 #[] l (λm n=>∃o,m=.bool o/\∃p q r s,zc n ⟨h.size,0,Te⟩ 0 (tL p q r s)/\XC Tp 12 #[tA p q r s,iV 120] n (λt u=>∃v,t=.bool v/\∃w x y z,(v=Ta->zc u ⟨k.size,0,Te⟩ 0 (tL w x y z))/\∃A:Value->za->Prop,(v=Ta->XC Tp 12 #[tA w x y z,iV 120] u (λB C=>∃D,B=.bool D/\A (.bool D) C))/\(v=Tc->∃E,A (.bool E) u)/\(v=Ta->∀F G,A F G->∃I,F=.bool I)/\∀J:Bool,∀L,A (.bool J) L->((bif (!(bif v then J else Tc))then Ta else(decide ((e3.size:Int)>1024)))=Ta->R (.bool o) L)/\((bif (!(bif v then J else Tc))then Ta else(decide ((e3.size:Int)>1024)))=Tc->∃M N O P,zc L ⟨h.size,0,Te⟩ 0 (tL M N O P)/\∃Q S T U,zc L ⟨k.size,0,Te⟩ 0 (tL Q S T U)/\XC Tp 33 #[tA M N O P,tA Q S T U] L (λV W=>∃X Y,V=.tuple #[aK X,iV Y]/\∀Z:Sl->Int->za->Prop,(∀aa:Sl,∀ab:Int,∀ac:za,(((bif (Y != 0)then Ta else(ab != 0))=Ta->R (.bool o) ac)/\((bif (Y != 0)then Ta else(ab != 0))=Tc->(((X.len:Int) != (aa.len:Int))=Ta->R (.bool Tc) ac)/\(((X.len:Int) != (aa.len:Int))=Tc->∃(ad:Int->za->Prop) (ae:Int->za->Nat),ad 0 ac/\∀af:Int,∀ag:za,ad af ag->((decide (af<X.len)=Ta->∃ah,(X.a=Td ah/\0<=af/\af<X.len)/\∃ai,zb ag (Tl (ah.add (af.toNat*7)) 0)=Td (.string ai)/\∃aj,(aa.a=Td aj/\0<=af/\af<aa.len)/\∃ak,zb ag (Tl (aj.add (af.toNat*7)) 0)=Td (.string ak)/\∃al,((!(!(ai.toList==ak.toList)))=Ta->(X.a=Td al/\0<=af/\af<X.len))/\∃am an ao ap,((!(!(ai.toList==ak.toList)))=Ta->zc ag (Tl (al.add (af.toNat*7)) 3) 0 (tL am an ao ap))/\∃aq,((!(!(ai.toList==ak.toList)))=Ta->(aa.a=Td aq/\0<=af/\af<aa.len))/\∃ar au av aw,((!(!(ai.toList==ak.toList)))=Ta->zc ag (Tl (aq.add (af.toNat*7)) 3) 0 (tL ar au av aw))/\let ax:Sl->Sl->Bool->za->Prop:=λ(ay:Sl) (az:Sl) aA (aB:za)=>(∃aC:Value->za->Prop,((!aA)=Ta->XC Tp 48 #[aK az,aK ay] aB (λaD aE=>∃aF,aD=iV aF/\aC (iV aF) aE))/\((!aA)=Tc->∃aG,aC (iV aG) aB)/\((!aA)=Ta->∀aH aI,aC aH aI->∃aJ,aH=iV aJ)/\∀aL:Int,∀aM,aC (iV aL) aM->((bif aA then Ta else(aL != 0))=Ta->R (.bool Tc) aM)/\((bif aA then Ta else(aL != 0))=Tc->(ad (Tj .i64 (af+1)) aM/\ae (Tj .i64 (af+1)) aM<ae af ag)));let aN:Sl->Sl->Sl->Bool->za->Prop:=λ(aO:Sl) (aP:Sl) (aQ:Sl) aS (aT:za)=>(∃aU:Value->za->Prop,((!aS)=Ta->XRun Tp (TB #[22,22] 22 #[aK aP,aK aO]) aT (λaV aW=>∃aX,aV=aK aX/\aU (aK aX) aW))/\((!aS)=Tc->∃aY,aU (aK aY) aT)/\((!aS)=Ta->∀aZ a0,aU aZ a0->∃a1,aZ=aK a1)/\∀a2:Sl,∀a3,aU (aK a2) a3->ax a2 aQ aS a3);let a4:Sl->Sl->Addr->Bool->za->Prop:=λ(a5:Sl) (a6:Sl) (a7:Addr) a8 (a9:za)=>(∃ba,((!a8)=Ta->zb a9 a7=Td (aK ba))/\aN ba a5 a6 a8 a9);let bb:Sl->Sl->Bool->za->Prop:=λ(bc:Sl) (bd:Sl) be (bf:za)=>(∃bg:Value->za->Prop,((!be)=Ta->let bh:=bf.push (.cells #[.string e3] 9);bg (.slice (Td ⟨bf.size,0,Te⟩) 1 1) bh)/\((!be)=Tc->∃bi,bg (aK bi) bf)/\((!be)=Ta->∀bj bk,bg bj bk->∃bl,bj=aK bl)/\∀bm:Sl,∀bn,bg (aK bm) bn->aN bc bm bd be bn);let bo:Sl->Sl->Addr->Bool->za->Prop:=λ(bp:Sl) (bq:Sl) (br:Addr) bs (bt:za)=>((∃bu,((!bs)=Ta->zb bt br=Td (aK bu))/\aN bp bq bu bs bt)/\(∃bv:Value->za->Prop,((!bs)=Ta->XRun Tp (TB #[22,22] 22 #[aK bq,aK bp]) bt (λbw bx=>∃bz,bw=aK bz/\bv (aK bz) bx))/\((!bs)=Tc->∃bA,bv (aK bA) bt)/\((!bs)=Ta->∀bB bC,bv bB bC->∃bD,bB=aK bD)/\∀bE:Sl,∀bF,bv (aK bE) bF->∃bG,((!bs)=Ta->zb bF br=Td (aK bG))/\ax bE bG bs bF));∃bH:Value->za->Prop,((!(!(ai.toList==ak.toList)))=Ta->XC Tp 17 #[tA am an ao ap,tA ar au av aw] ag (λbI bJ=>∃bL,bI=.bool bL/\bH (.bool bL) bJ))/\((!(!(ai.toList==ak.toList)))=Tc->∃bM,bH (.bool bM) ag)/\((!(!(ai.toList==ak.toList)))=Ta->∀bN bO,bH bN bO->∃bP,bN=.bool bP)/\∀bQ:Bool,∀bS,bH (.bool bQ) bS->∃bT,((!(bif (!(ai.toList==ak.toList))then Ta else(!bQ)))=Ta->(aa.a=Td bT/\0<=af/\af<aa.len))/\∃bU,((!(bif (!(ai.toList==ak.toList))then Ta else(!bQ)))=Ta->(X.a=Td bU/\0<=af/\af<X.len))/\(∃bV,((!(bif (!(ai.toList==ak.toList))then Ta else(!bQ)))=Ta->zb bS (Tl (bT.add (af.toNat*7)) 1)=Td (aK bV))/\(∃bW:Value->za->Prop,((!(bif (!(ai.toList==ak.toList))then Ta else(!bQ)))=Ta->let bX:=bS.push (.cells #[.string e3] 9);bW (.slice (Td ⟨bS.size,0,Te⟩) 1 1) bX)/\((!(bif (!(ai.toList==ak.toList))then Ta else(!bQ)))=Tc->∃bY,bW (aK bY) bS)/\((!(bif (!(ai.toList==ak.toList))then Ta else(!bQ)))=Ta->∀bZ b0,bW bZ b0->∃b1,bZ=aK b1)/\∀b2:Sl,∀b3,bW (aK b2) b3->a4 b2 bV (Tl (bU.add (af.toNat*7)) 1) (bif (!(ai.toList==ak.toList))then Ta else(!bQ)) b3)/\(∃b4,((!(bif (!(ai.toList==ak.toList))then Ta else(!bQ)))=Ta->zb bS (Tl (bU.add (af.toNat*7)) 1)=Td (aK b4))/\bb b4 bV (bif (!(ai.toList==ak.toList))then Ta else(!bQ)) bS))/\(∃b5:Value->za->Prop,((!(bif (!(ai.toList==ak.toList))then Ta else(!bQ)))=Ta->let b6:=bS.push (.cells #[.string e3] 9);b5 (.slice (Td ⟨bS.size,0,Te⟩) 1 1) b6)/\((!(bif (!(ai.toList==ak.toList))then Ta else(!bQ)))=Tc->∃b7,b5 (aK b7) bS)/\((!(bif (!(ai.toList==ak.toList))then Ta else(!bQ)))=Ta->∀b8 b9,b5 b8 b9->∃ca,b8=aK ca)/\∀cb:Sl,∀cc,b5 (aK cb) cc->(∃cd,((!(bif (!(ai.toList==ak.toList))then Ta else(!bQ)))=Ta->zb cc (Tl (bT.add (af.toNat*7)) 1)=Td (aK cd))/\a4 cb cd (Tl (bU.add (af.toNat*7)) 1) (bif (!(ai.toList==ak.toList))then Ta else(!bQ)) cc)/\(∃ce,((!(bif (!(ai.toList==ak.toList))then Ta else(!bQ)))=Ta->zb cc (Tl (bU.add (af.toNat*7)) 1)=Td (aK ce))/\bo ce cb (Tl (bT.add (af.toNat*7)) 1) (bif (!(ai.toList==ak.toList))then Ta else(!bQ)) cc))/\(∃cf,((!(bif (!(ai.toList==ak.toList))then Ta else(!bQ)))=Ta->zb bS (Tl (bU.add (af.toNat*7)) 1)=Td (aK cf))/\(∃cg,((!(bif (!(ai.toList==ak.toList))then Ta else(!bQ)))=Ta->zb bS (Tl (bT.add (af.toNat*7)) 1)=Td (aK cg))/\bb cf cg (bif (!(ai.toList==ak.toList))then Ta else(!bQ)) bS)/\(∃ch:Value->za->Prop,((!(bif (!(ai.toList==ak.toList))then Ta else(!bQ)))=Ta->let ci:=bS.push (.cells #[.string e3] 9);ch (.slice (Td ⟨bS.size,0,Te⟩) 1 1) ci)/\((!(bif (!(ai.toList==ak.toList))then Ta else(!bQ)))=Tc->∃cj,ch (aK cj) bS)/\((!(bif (!(ai.toList==ak.toList))then Ta else(!bQ)))=Ta->∀ck cl,ch ck cl->∃cm,ck=aK cm)/\∀cn:Sl,∀co,ch (aK cn) co->bo cf cn (Tl (bT.add (af.toNat*7)) 1) (bif (!(ai.toList==ak.toList))then Ta else(!bQ)) co)))/\(decide (af<X.len)=Tc->∃cp,zb ag (Tl ⟨h.size,0,Te⟩ 3)=Td (aK cp)/\∃cq,(((cp.len:Int)==0)=Ta->zb ag (Tl ⟨h.size,0,Te⟩ 0)=Td (iV cq))/\∃cr,(((cp.len:Int)==0)=Ta->zb ag (Tl ⟨k.size,0,Te⟩ 0)=Td (iV cr))/\∃cs,(((bif ((cp.len:Int)==0)then(cq != cr)else Tc)&&(!((X.len:Int) != 1)))=Ta->(X.a=Td cs/\0<=(0:Int)/\(0:Int)<(X.len:Int)))/\∃ct,(((bif ((cp.len:Int)==0)then(cq != cr)else Tc)&&(!((X.len:Int) != 1)))=Ta->zb ag (Tl (cs.add ((0:Int).toNat*7)) 0)=Td (.string ct))/\∃cu,(((bif ((cp.len:Int)==0)then(cq != cr)else Tc)&&(!(bif ((X.len:Int) != 1)then Ta else(!(ct.toList==(⟨#[114,101,112,108,97,99,101]⟩:Bt).toList)))))=Ta->(X.a=Td cu/\0<=(0:Int)/\(0:Int)<(X.len:Int)))/\∃cv,(((bif ((cp.len:Int)==0)then(cq != cr)else Tc)&&(!(bif ((X.len:Int) != 1)then Ta else(!(ct.toList==(⟨#[114,101,112,108,97,99,101]⟩:Bt).toList)))))=Ta->zb ag (Tl (cu.add ((0:Int).toNat*7)) 1)=Td (aK cv))/\((bif (bif ((cp.len:Int)==0)then(cq != cr)else Tc)then(bif (bif ((X.len:Int) != 1)then Ta else(!(ct.toList==(⟨#[114,101,112,108,97,99,101]⟩:Bt).toList)))then Ta else((cv.len:Int) != 0))else Tc)=Ta->R (.bool Tc) ag)/\((bif (bif ((cp.len:Int)==0)then(cq != cr)else Tc)then(bif (bif ((X.len:Int) != 1)then Ta else(!(ct.toList==(⟨#[114,101,112,108,97,99,101]⟩:Bt).toList)))then Ta else((cv.len:Int) != 0))else Tc)=Tc->R (.bool o) ag))))))->Z aa ab ac)->∃cw cx cy cz,zc W ⟨h.size,0,Te⟩ 0 (tL cw cx cy cz)/\∃cA cB cC cD,zc W ⟨k.size,0,Te⟩ 0 (tL cA cB cC cD)/\let cE:Sl->Sl->Int->Bt->Sl->Sl->za->Prop:=λ(cF:Sl) (cG:Sl) cH cI (cJ:Sl) (cL:Sl) (cM:za)=>(XC Tp 47 #[aK cG,aK cF] cM (λcN cO=>∃cP cQ cS cT,cN=tA cP cQ cS cT/\XC Tp 33 #[tA cH cI cJ cL,tA cP cQ cS cT] cO (λcU cV=>∃cW cX,cU=.tuple #[aK cW,iV cX]/\Z cW cX cV)));let cY:Sl->Int->Bt->Sl->Sl->za->Prop:=λ(cZ:Sl) c0 c1 (c2:Sl) (c3:Sl) (c4:za)=>(let c5:=c4.push (.cells #[iV cA,.string cB,aK cC,aK cD] 25);cE (⟨Td ⟨c4.size,0,Te⟩,1,1⟩:Sl) cZ c0 c1 c2 c3 c5);let c6:Sl->Int->Bt->Sl->Sl->za->Prop:=λ(c7:Sl) c8 c9 (da:Sl) (db:Sl) (dc:za)=>(let dd:=dc.push (.cells #[.string e3] 9);cE c7 (⟨Td ⟨dc.size,0,Te⟩,1,1⟩:Sl) c8 c9 da db dd);let de:Sl->Sl->Sl->Sl->za->Prop:=λ(df:Sl) (dg:Sl) (dh:Sl) (di:Sl) (dj:za)=>(XC Tp 47 #[aK di,aK dh] dj (λdk dl=>∃dm dn dp dq,dk=tA dm dn dp dq/\cE df dg dm dn dp dq dl));let dr:Sl->Sl->Sl->za->Prop:=λ(ds:Sl) (dt:Sl) (du:Sl) (dv:za)=>((XC Tp 47 #[aK du,aK dt] dv (λdw dx=>∃dy dz dA dB,dw=tA dy dz dA dB/\(dx)[(⟨k.size,0,Te⟩:Addr).block]?=(W)[(⟨k.size,0,Te⟩:Addr).block]?/\cY ds dy dz dA dB dx))/\(let dC:=dv.push (.cells #[iV cA,.string cB,aK cC,aK cD] 25);de (⟨Td ⟨dv.size,0,Te⟩,1,1⟩:Sl) ds dt du dC));let dD:Sl->Sl->Sl->za->Prop:=λ(dE:Sl) (dF:Sl) (dG:Sl) (dH:za)=>((XC Tp 47 #[aK dG,aK dF] dH (λdI dJ=>∃dL dM dN dO,dI=tA dL dM dN dO/\c6 dE dL dM dN dO dJ))/\(let dP:=dH.push (.cells #[.string e3] 9);de dE (⟨Td ⟨dH.size,0,Te⟩,1,1⟩:Sl) dF dG dP));let dQ:Sl->Sl->Sl->za->Prop:=λ(dS:Sl) (dT:Sl) (dU:Sl) (dV:za)=>(let dW:=dV.push (.cells #[iV cw,.string cx,aK cy,aK cz] 25);de dS dT (⟨Td ⟨dV.size,0,Te⟩,1,1⟩:Sl) dU dW);let dX:Sl->Sl->Sl->za->Prop:=λ(dY:Sl) (dZ:Sl) (d0:Sl) (d1:za)=>(let d2:=d1.push (.cells #[.string e3] 9);de dY dZ d0 (⟨Td ⟨d1.size,0,Te⟩,1,1⟩:Sl) d2);let d3:Sl->Sl->za->Prop:=λ(d4:Sl) (d5:Sl) (d6:za)=>((XC Tp 47 #[aK d5,aK d4] d6 (λd7 d8=>∃d9 ea eb ec,d7=tA d9 ea eb ec/\(d8)[(⟨k.size,0,Te⟩:Addr).block]?=(W)[(⟨k.size,0,Te⟩:Addr).block]?/\(let ed:=d8.push (.cells #[.string e3] 9);(ed)[(⟨k.size,0,Te⟩:Addr).block]?=(W)[(⟨k.size,0,Te⟩:Addr).block]?/\cY (⟨Td ⟨d8.size,0,Te⟩,1,1⟩:Sl) d9 ea eb ec ed)/\(let ee:=d8.push (.cells #[iV cA,.string cB,aK cC,aK cD] 25);c6 (⟨Td ⟨d8.size,0,Te⟩,1,1⟩:Sl) d9 ea eb ec ee)))/\(let ef:=d6.push (.cells #[.string e3] 9);(ef)[(⟨k.size,0,Te⟩:Addr).block]?=(W)[(⟨k.size,0,Te⟩:Addr).block]?/\dr (⟨Td ⟨d6.size,0,Te⟩,1,1⟩:Sl) d4 d5 ef)/\(let eg:=d6.push (.cells #[iV cA,.string cB,aK cC,aK cD] 25);dD (⟨Td ⟨d6.size,0,Te⟩,1,1⟩:Sl) d4 d5 eg));let eh:Sl->Sl->za->Prop:=λ(ei:Sl) (ej:Sl) (ek:za)=>((let el:=ek.push (.cells #[iV cw,.string cx,aK cy,aK cz] 25);(el)[(⟨k.size,0,Te⟩:Addr).block]?=(W)[(⟨k.size,0,Te⟩:Addr).block]?/\dr ei (⟨Td ⟨ek.size,0,Te⟩,1,1⟩:Sl) ej el)/\(let em:=ek.push (.cells #[iV cA,.string cB,aK cC,aK cD] 25);(em)[(⟨h.size,0,Te⟩:Addr).block]?=(W)[(⟨h.size,0,Te⟩:Addr).block]?/\dQ (⟨Td ⟨ek.size,0,Te⟩,1,1⟩:Sl) ei ej em));let en:Sl->Sl->za->Prop:=λ(eo:Sl) (ep:Sl) (eq:za)=>((let er:=eq.push (.cells #[iV cw,.string cx,aK cy,aK cz] 25);dD eo (⟨Td ⟨eq.size,0,Te⟩,1,1⟩:Sl) ep er)/\(let es:=eq.push (.cells #[.string e3] 9);(es)[(⟨h.size,0,Te⟩:Addr).block]?=(W)[(⟨h.size,0,Te⟩:Addr).block]?/\dQ eo (⟨Td ⟨eq.size,0,Te⟩,1,1⟩:Sl) ep es));let et:Sl->Sl->za->Prop:=λ(eu:Sl) (ev:Sl) (ew:za)=>((let ex:=ew.push (.cells #[.string e3] 9);(ex)[(⟨k.size,0,Te⟩:Addr).block]?=(W)[(⟨k.size,0,Te⟩:Addr).block]?/\dr eu ev (⟨Td ⟨ew.size,0,Te⟩,1,1⟩:Sl) ex)/\(let ey:=ew.push (.cells #[iV cA,.string cB,aK cC,aK cD] 25);dX (⟨Td ⟨ew.size,0,Te⟩,1,1⟩:Sl) eu ev ey));let ez:Sl->Sl->za->Prop:=λ(eA:Sl) (eB:Sl) (eC:za)=>((let eD:=eC.push (.cells #[.string e3] 9);dD eA eB (⟨Td ⟨eC.size,0,Te⟩,1,1⟩:Sl) eD)/\(let eE:=eC.push (.cells #[.string e3] 9);dX eA (⟨Td ⟨eC.size,0,Te⟩,1,1⟩:Sl) eB eE));let eF:Sl->Sl->za->Prop:=λ(eG:Sl) (eH:Sl) (eI:za)=>((let eJ:=eI.push (.cells #[.string e3] 9);(eJ)[(⟨h.size,0,Te⟩:Addr).block]?=(W)[(⟨h.size,0,Te⟩:Addr).block]?/\dQ eG eH (⟨Td ⟨eI.size,0,Te⟩,1,1⟩:Sl) eJ)/\(let eL:=eI.push (.cells #[iV cw,.string cx,aK cy,aK cz] 25);dX eG eH (⟨Td ⟨eI.size,0,Te⟩,1,1⟩:Sl) eL));(let eM:=W.push (.cells #[.string e3] 9);(eM)[(⟨k.size,0,Te⟩:Addr).block]?=(W)[(⟨k.size,0,Te⟩:Addr).block]?/\(eM)[(⟨h.size,0,Te⟩:Addr).block]?=(W)[(⟨h.size,0,Te⟩:Addr).block]?/\(let eN:=eM.push (.cells #[iV cw,.string cx,aK cy,aK cz] 25);(eN)[(⟨k.size,0,Te⟩:Addr).block]?=(W)[(⟨k.size,0,Te⟩:Addr).block]?/\d3 (⟨Td ⟨eM.size,0,Te⟩,1,1⟩:Sl) (⟨Td ⟨W.size,0,Te⟩,1,1⟩:Sl) eN)/\(let eO:=eM.push (.cells #[.string e3] 9);(eO)[(⟨k.size,0,Te⟩:Addr).block]?=(W)[(⟨k.size,0,Te⟩:Addr).block]?/\(eO)[(⟨h.size,0,Te⟩:Addr).block]?=(W)[(⟨h.size,0,Te⟩:Addr).block]?/\eh (⟨Td ⟨eM.size,0,Te⟩,1,1⟩:Sl) (⟨Td ⟨W.size,0,Te⟩,1,1⟩:Sl) eO)/\(let eP:=eM.push (.cells #[iV cA,.string cB,aK cC,aK cD] 25);(eP)[(⟨h.size,0,Te⟩:Addr).block]?=(W)[(⟨h.size,0,Te⟩:Addr).block]?/\en (⟨Td ⟨eM.size,0,Te⟩,1,1⟩:Sl) (⟨Td ⟨W.size,0,Te⟩,1,1⟩:Sl) eP))/\(let eQ:=W.push (.cells #[iV cw,.string cx,aK cy,aK cz] 25);(eQ)[(⟨k.size,0,Te⟩:Addr).block]?=(W)[(⟨k.size,0,Te⟩:Addr).block]?/\(let eS:=eQ.push (.cells #[.string e3] 9);(eS)[(⟨k.size,0,Te⟩:Addr).block]?=(W)[(⟨k.size,0,Te⟩:Addr).block]?/\d3 (⟨Td ⟨W.size,0,Te⟩,1,1⟩:Sl) (⟨Td ⟨eQ.size,0,Te⟩,1,1⟩:Sl) eS)/\(let eT:=eQ.push (.cells #[.string e3] 9);(eT)[(⟨k.size,0,Te⟩:Addr).block]?=(W)[(⟨k.size,0,Te⟩:Addr).block]?/\et (⟨Td ⟨eQ.size,0,Te⟩,1,1⟩:Sl) (⟨Td ⟨W.size,0,Te⟩,1,1⟩:Sl) eT)/\(let eU:=eQ.push (.cells #[iV cA,.string cB,aK cC,aK cD] 25);ez (⟨Td ⟨eQ.size,0,Te⟩,1,1⟩:Sl) (⟨Td ⟨W.size,0,Te⟩,1,1⟩:Sl) eU))/\(let eV:=W.push (.cells #[.string e3] 9);(eV)[(⟨k.size,0,Te⟩:Addr).block]?=(W)[(⟨k.size,0,Te⟩:Addr).block]?/\(eV)[(⟨h.size,0,Te⟩:Addr).block]?=(W)[(⟨h.size,0,Te⟩:Addr).block]?/\(let eW:=eV.push (.cells #[.string e3] 9);(eW)[(⟨k.size,0,Te⟩:Addr).block]?=(W)[(⟨k.size,0,Te⟩:Addr).block]?/\(eW)[(⟨h.size,0,Te⟩:Addr).block]?=(W)[(⟨h.size,0,Te⟩:Addr).block]?/\eh (⟨Td ⟨W.size,0,Te⟩,1,1⟩:Sl) (⟨Td ⟨eV.size,0,Te⟩,1,1⟩:Sl) eW)/\(let eX:=eV.push (.cells #[iV cw,.string cx,aK cy,aK cz] 25);(eX)[(⟨k.size,0,Te⟩:Addr).block]?=(W)[(⟨k.size,0,Te⟩:Addr).block]?/\et (⟨Td ⟨W.size,0,Te⟩,1,1⟩:Sl) (⟨Td ⟨eV.size,0,Te⟩,1,1⟩:Sl) eX)/\(let eY:=eV.push (.cells #[iV cA,.string cB,aK cC,aK cD] 25);(eY)[(⟨h.size,0,Te⟩:Addr).block]?=(W)[(⟨h.size,0,Te⟩:Addr).block]?/\eF (⟨Td ⟨eV.size,0,Te⟩,1,1⟩:Sl) (⟨Td ⟨W.size,0,Te⟩,1,1⟩:Sl) eY))/\(let eZ:=W.push (.cells #[iV cA,.string cB,aK cC,aK cD] 25);(eZ)[(⟨h.size,0,Te⟩:Addr).block]?=(W)[(⟨h.size,0,Te⟩:Addr).block]?/\(let e0:=eZ.push (.cells #[.string e3] 9);(e0)[(⟨h.size,0,Te⟩:Addr).block]?=(W)[(⟨h.size,0,Te⟩:Addr).block]?/\en (⟨Td ⟨W.size,0,Te⟩,1,1⟩:Sl) (⟨Td ⟨eZ.size,0,Te⟩,1,1⟩:Sl) e0)/\(let e1:=eZ.push (.cells #[iV cw,.string cx,aK cy,aK cz] 25);ez (⟨Td ⟨W.size,0,Te⟩,1,1⟩:Sl) (⟨Td ⟨eZ.size,0,Te⟩,1,1⟩:Sl) e1)/\(let e2:=eZ.push (.cells #[.string e3] 9);(e2)[(⟨h.size,0,Te⟩:Addr).block]?=(W)[(⟨h.size,0,Te⟩:Addr).block]?/\eF (⟨Td ⟨W.size,0,Te⟩,1,1⟩:Sl) (⟨Td ⟨eZ.size,0,Te⟩,1,1⟩:Sl) e2))))))):
  XC Tp 9 #[.agg #[.int .i64 b,.string c,.slice d.a d.len d.cap,.slice e.a e.len e.cap],.agg #[.int .i64 f,.string g,.slice i.a i.len i.cap,.slice j.a j.len j.cap],.string e3] h R:=
 XF ⟨[(14,7000),(6,8000)],[(12,[(13,.one (.int .i64))])],[(7,[(11,.one (.sl)),(12,.one (.int .i64))])]⟩ [.tmp 6] 141 Tryz.func9 H
end
section
theorem NS{M:Fr}{r:Tr}{w:Value}(h:Yg M [.tree] r w):∃sk si:Sl,w=.agg #[.int .i64 r.kind,.string r.text,aK sk,aK si]/\RdV M .tree r (.agg (xz r sk si).toArray):=by have h:=Qf.1 h;obtain⟨sk,si,e,_⟩:=qe h;exact⟨sk,si,e,by rw[e]at h;exact h⟩
end
end Go.X
end
section
namespace Go.X
open Go Go.X Go.Proofs Go.Lib Go.RowKit
section
theorem S2{gl:Fr}{v:Tr}{m:Int}(f:0<=m/\m<=1000){R:Bool->Prop}(h:∀b,(b=Ta->(iS v:Int)<=m/\iD v)->R b):PC Tp gl 12 [Arg.mk .tree v,Arg.mk (.int .i64) m] [.bool] R:=by
 apply Pk;rw[xy];refine CU v m 0 f (by omega) λr h1 j i=>⟨λb=>b=Ta->iD v,λ_=>Bw v λb c=>c,λb c=>h _ λe=>?_⟩;cases hr:decide (r>=0)with
 |false=>rw[hr]at e;cases e
 |true=>
  rw[hr,zK]at e;have h0:0<=r:=by simp at hr;omega
  have:=i h0;exact⟨by omega,c hr e⟩
end
section
variable {M:Fr} {h g:za} {a:Tr} {b:Nat}
theorem zW{r:List dK×Int}{w:Value}(h:Yg M [.row ij,.int .i64] r w):∃s:Sl,w=.tuple #[aK s,.int .i64 r.2]/\Rd M (.row ij) r.1 [aK s]:=by obtain⟨us,⟨i,e,rfl,h1,f,rfl,b⟩,rfl⟩:=h;obtain⟨s,rfl,c⟩:=i4 h1;rw[Xf b];exact⟨s,rfl,c⟩
theorem MW{f:FuncId}{args:Array Value}{g:Bool}(c:g=Ta){Kt:Int->za->Prop}(E:XC Tp f args h λv h'=>∃r,v=.int .i64 r/\Kt r h'):
  ∃J:Value->za->Prop,(g=Ta->XC Tp f args h λv h'=>∃r:Int,v=.int .i64 r/\J (.int .i64 r) h')/\(g=Tc->∃r:Int,J (.int .i64 r) h)/\(g=Ta->∀v h',J v h'->∃r:Int,v=.int .i64 r)/\∀r:Int,∀h',J (.int .i64 r) h'->Kt r h':=by
 refine⟨λv h'=>∃r,v=.int .i64 r/\Kt r h',λ_=>XC.mono E λv h' ⟨r,e,H⟩=>⟨r,e,r,rfl,H⟩,λi=>(by simp_all),λ_ v h' ⟨r,e,_⟩=>⟨r,e⟩,λr h' ⟨b,e,H⟩=>?_⟩;simp_all
theorem By{s:Sem Value}{g:Bool}(c:g=Ta){Kt:Sl->za->Prop}(E:XRun Tp s h λv h'=>∃r,v=aK r/\Kt r h'):
  ∃J:Value->za->Prop,(g=Ta->XRun Tp s h λv h'=>∃r:Sl,v=aK r/\J (aK r) h')/\(g=Tc->∃r:Sl,J (aK r) h)/\(g=Ta->∀v h',J v h'->∃r:Sl,v=aK r)/\∀r:Sl,∀h',J (aK r) h'->Kt r h':=by
 refine⟨λv h'=>∃r,v=aK r/\Kt r h',λ_=>XRun.mono E λv h' ⟨r,e,H⟩=>⟨r,e,r,rfl,H⟩,λf=>(by simp_all),λ_ v h' ⟨r,e,_⟩=>⟨r,e⟩,λr h' ⟨b,e,H⟩=>?_⟩;have:r=b:=by unfold aK at e;injection e with e1 e2 e3;cases r;cases b;simp_all
 grind
theorem ut(ag:AgM M g){l:List dK}{s:Sl}(H:Rd M (.row ij) l [aK s]){k:Nat}(h:k<l.length){o:dK}(j:l[k]=o):∃(p:Addr) (sp sk si:Sl),(s.a=Td p/\(0:Int)<=(k:Int)/\((k:Nat):Int)<((s.len:Nat):Int)) /\
  zb g ((p.add (((k:Nat):Int).toNat*7)).add 0)=Td (.string o.1)/\zb g ((p.add (((k:Nat):Int).toNat*7)).add 1)=Td (aK sp)/\zc g ((p.add (((k:Nat):Int).toNat*7)).add 3) 0 (xz o.2.2.2 sk si)/\RdV M (.row .str) o.2.1 (aK sp)/\RdV M .tree o.2.2.2 (.agg (xz o.2.2.2 sk si).toArray):=by
 obtain⟨a,sp,sf,sk,si,h1,c,f,_,i⟩:=opAt ag H h;obtain⟨b,q,_,e,_⟩:=Go.X.rowAt H h;have m:a=⟨b,q,Te⟩:=by have:=h1.1;rw[e]at this;exact(TY this).symm
 subst m;rw[j]at c f i;refine⟨_,sp,sk,si,h1,c.1,c.2.1,?_,f,i⟩;simp only[zc,ya,xz,Wh,Nat.add_assoc,Nat.reduceAdd]at c ⊢;simp_all
theorem CH{key:Bt}(h:Sm a)(e:cK a<=1000)(c:key.size<=1024):Sm (ia key a):=by refine⟨by rw[cK,Zc,Zc];omega,?_⟩;rw[mA];refine⟨⟨(TK _:(⟨#[]⟩:Bt).size<=_),by simp[Tr.keys],λk b=>?_⟩,?_⟩;grind;simp only[lG];exact⟨h.tx,trivial⟩
theorem BU(ag:AgM M g){sk si:Sl}(e:M b=Td (ze a.kind a.text sk si).toArray):zc g ⟨b,0,Te⟩ 0 [.int .i64 a.kind,.string a.text,aK sk,aK si]:=nC (vs:=ze a.kind a.text sk si) ag e rfl
theorem ul(ag:AgM M g){cs:Array Value}(e:M b=Td cs){i:Nat}{v:Value}(c:cut cs i 1=[v]):zb g ((⟨b,0,Te⟩:Addr).add i)=Td v:=by rw[Wh,TJ];exact oZ ag e c
set_option maxHeartbeats 4000000 in
set_option maxRecDepth 100000 in
theorem Me{gl:Fr}(hg:GL gl)(hb:Brn gl){a b:Tr}{key:Bt}{R:Bool->Prop}(hR:R Ta):PC Tp gl 9 [Arg.mk .tree a,Arg.mk .tree b,Arg.mk .str key] [.bool] R:=by
 intro h M vs hM ag ha;obtain⟨u,v,w,rfl,aZ,br,bM⟩:∃u v w,vs=[u,v,w]/\RdV M .tree a u/\RdV M .tree b v/\RdV M .str key w:=by
  match vs,ha with
  |[u,v,w],⟨h1,h2,h3,_⟩=>grind
 have aT:=aZ;have bn:=br;obtain⟨ak,Y,rfl,bH,a6⟩:=qe aZ;obtain⟨bk,bi,rfl,bN,bL⟩:=qe br;cases jw bM;apply PX.of;apply Q0 a.kind a.text ak Y b.kind b.text bk bi key;intro h1 h2;obtain⟨M2,H,ma,mb⟩:∃M2,Later h M h2 M2/\M2 h.size=Td (ze a.kind a.text ak Y).toArray/\M2 h1.size=Td (ze b.kind b.text bk bi).toArray:=by have L1:Later h M h1 (Mx M h.size (ze a.kind a.text ak Y).toArray):=Later.frz ag _ 25;have L2:Later h1 _ h2 (Mx _ h1.size (ze b.kind b.text bk bi).toArray):=Later.frz L1.ag _ 25;exact⟨_,L1.trans L2,L2.le _ _ (mP ..),mP ..⟩
 clear_value h2 h1;have nc:∀{g Mg},Later h2 M2 g Mg->zc g ⟨h.size,0,Te⟩ 0 [.int .i64 a.kind,.string a.text,aK ak,aK Y]:=λL=>BU L.ag (L.le _ _ ma);have al:∀{g Mg},Later h2 M2 g Mg->zc g ⟨h1.size,0,Te⟩ 0 [.int .i64 b.kind,.string b.text,aK bk,aK bi]:=λL=>BU L.ag (L.le _ _ mb);have fin:∀{g Mg},Later h2 M2 g Mg->∃M' r,Later h M g M'/\Yg M' [.bool] r (.bool Ta)/\R r:=λL=>⟨_,Ta,H.trans L,Qf.2 (rdBool Ta),hR⟩;have T:=hM.trans H.le;have a7:∀{Mg},Fr.le M2 Mg->RdV Mg .tree a (.agg #[.int .i64 a.kind,.string a.text,aK ak,aK Y]):=λl=>aT.mono (H.le.trans l);have bq:∀{Mg},Fr.le M2 Mg->RdV Mg .tree b (.agg #[.int .i64 b.kind,.string b.text,aK bk,aK bi]):=λl=>bn.mono (H.le.trans l);refine(HS hg hb (R:=λr=>r=Ta) rfl).go (vs:=[]) T H.ag zy λw g3 M3 r L3 p C=>?_;have C:r=Ta:=C;subst C;refine⟨Ta,Jk p,_,_,ak,Y,nc L3,?_⟩;have few:∀x:Tr,PC Tp gl 12 [Arg.mk .tree x,Arg.mk (.int .i64) 120] [.bool] (λr=>r=Ta->(iS x:Int)<=120/\iD x):=λx=>S2 (by omega) λb hb=>hb;refine(few a).go (vs:=[_,_]) (T.trans L3.le) L3.ag (zh (a7 L3.le) (zh (Qv .i64 120) zy)) λw g4 M4 r1 L4 p bS=>?_
 replace L4:=L3.trans L4
 refine⟨r1,Jk p,_,_,bk,bi,λ_=>al L4,λv g=>∃Mg,Later h2 M2 g Mg/\∃r,v=.bool r/\(r1=Ta->r=Ta->(iS b:Int)<=120/\iD b),λO=>?_,λO=>⟨Tc,M4,L4,Tc,rfl,λ_ h=>nomatch h⟩,λO v g ⟨_,_,r,e,_⟩=>⟨r,e⟩,?_⟩;refine(few b).go (vs:=[_,_]) (T.trans L4.le) L4.ag (zh (bq L4.le) (zh (Qv .i64 120) zy)) λw g5 M5 r2 L5 p aO=>?_;exact⟨r2,Jk p,M5,L4.trans L5,r2,rfl,λ_=>aO⟩;rintro r2 g5 ⟨M5,L5,bV,e,aO⟩;cases e;refine⟨λ_=>fin L5,λO=>?_⟩;obtain⟨c1,c2,c3⟩:r1=Ta/\r2=Ta/\key.size<=1024:=by grind
 obtain⟨ka,ta⟩:=bS c1;obtain⟨kb,tb⟩:=aO c1 c2;have sa:Sm a:=Sm.few (by omega) ta;have sb:Sm b:=Sm.few (by omega) tb;have sA:Sm (ia key a):=CH sa (by have:=qZ a;omega) c3;have sB:Sm (ia key b):=CH sb (by have:=qZ b;omega) c3;refine⟨_,_,ak,Y,nc L5,_,_,bk,bi,al L5,?_⟩;refine(xX hg hb sa sb (R:=λr=>r=iw a b) rfl).go (vs:=[_,_]) (T.trans L5.le) L5.ag (zh (a7 L5.le) (zh (bq L5.le) zy)) λw y z r S p C=>?_;have C:r=iw a b:=C;subst C
 replace S:=L5.trans S
 obtain⟨sl,rfl,rl⟩:=zW p;refine⟨sl,_,rfl,?_⟩;intro K hK;have bO:∀(sm:Sl) (g:za) (Mg:Fr),Later y z g Mg->Rd Mg (.row ij) (iw (ia key a) (ia key b)).1 [aK sm]->K sm (iw (ia key a) (ia key b)).2 g:=by
  intro sm g7 M7 L7 rm;apply hK;refine⟨λ_=>fin (S.trans L7),λO=>?_⟩;obtain⟨e1,e2⟩:(iw a b).2=0/\(iw (ia key a) (ia key b)).2=0:=by cases h1:((iw a b).2 != 0) <;> cases h2:((iw (ia key a) (ia key b)).2 != 0) <;> rw[h1,h2]at O <;> simp at O h1 h2;omega
  obtain⟨ra,rb,e1⟩:=Fo e1;obtain⟨rA,rB,e2⟩:=Fo e2;rw[e1]at rl;rw[e2,Ho ⟨rA,sA⟩ ⟨rB,sB⟩]at rm;have be:∀_:a.kind≠b.kind,jZ a b=[jB [] b]:=HG;have bP:=yN ⟨ra,sa⟩ ⟨rb,sb⟩;have bm:∀o∈jZ a b,o.2.1.length<=33:=λo ho=>(PM sa sb o (by rw[e1];exact ho)).2.1;generalize jZ a b=l at rl rm be bP bm;have ll:=(rowLen rl).1;have lm:=(rowLen rm).1;rw[Tx]at lm;refine⟨λO=>(by rw[ll,lm]at O;simp at O),λ_=>?_⟩;refine⟨λi g=>∃(k:Nat) (Mg:Fr),i=(k:Int)/\k<=l.length/\Later h2 M2 g Mg/\Rd Mg (.row ij) l [aK sl]/\Rd Mg (.row ij) (l.map (jE [key])) [aK sm],λi _=>l.length-i.toNat,⟨0,M7,rfl,TK _,S.trans L7,rl.mono L7.le,rm⟩,?_⟩;rintro i g ⟨k,Mg,rfl,hk,L,rl,rm⟩;refine⟨λO=>?_,λO=>?_⟩;have ac:k<l.length:=by rw[ll]at O;simpa using O
  obtain⟨o,ho⟩:∃o,l[k]=o:=⟨_,rfl⟩;have bU:o.2.1.length<=33:=bm o (ho ▸ TA ac);obtain⟨p1,sp,sk,si,ab,d1,d2,d3,an,bB⟩:=ut L.ag rl ac ho;obtain⟨p2,tp,tk,ti,aS,f1,f2,f3,bJ,bG⟩:=ut (o:=jE [key] o) L.ag rm (by rw[Tx];exact ac) (by rw[US,ho]);have g1:(!(!((o.1:Bt).toList==(o.1:Bt).toList)))=Ta:=by simp
  refine⟨p1,ab,_,d1,p2,aS,_,f1,p1,λ_=>ab,_,_,sk,si,λ_=>d3,p2,λ_=>aS,_,_,tk,ti,λ_=>f3,?_⟩;intro Z1 Z2 Z3 Z4 Z5;have bu:∀s g' M',Later g Mg g' M'->Rd M' (.row .str) (key::o.2.1) [aK s]->Z1 s tp Tc g':=by
   intro s g' M' L' rs;refine MW rfl (Kt:=λr g'=>_) ?_;refine(Sj (a:=(jE [key] o).2.1) (b:=key::o.2.1) (by show(key::o.2.1).length<=1000000;simp;omega) (R:=λr=>r=jR (jE [key] o).2.1 (key::o.2.1)) rfl).go (vs:=[aK tp,aK s]) ((T.trans L.le).trans L'.le) L'.ag (zh (bJ.mono L'.le) (zh ((Qo rfl).2 rs) zy)) λw E j r f p C=>?_;have C:r=jR (jE [key] o).2.1 (key::o.2.1):=C;have h0:r=0:=by rw[C];exact(F9 _ _).2 rfl
   subst h0;refine⟨0,IF p,λO=>(by simp at O),λ_=>?_⟩;rw[yr ac (by omega)];have aQ:=L'.trans f;exact⟨⟨k+1,j,rfl,ac,L.trans aQ,rl.mono aQ.le,rm.mono aQ.le⟩,by simp;omega⟩
  have aN:∀n g' M',Later g Mg g' M'->Rd M' (.row .str) [key] [aK ⟨Td ⟨n,0,Te⟩,1,1⟩]->Z2 sp ⟨Td ⟨n,0,Te⟩,1,1⟩ tp Tc g':=by intro n g' M' L' rs;refine By rfl (Kt:=λs g'=>Z1 s tp Tc g') ?_;exact BP L'.ag rs ((Qo rfl).1 (an.mono L'.le)) (by simp;omega) λs E j f r9=>⟨s,rfl,bu s E j (L'.trans f) r9⟩
  have aa:∀g' M',Later g Mg g' M'->∃j,Later g Mg (g'.push (.cells #[.string key] 9)) j/\Rd j (.row .str) [key] [aK ⟨Td ⟨g'.size,0,Te⟩,1,1⟩]:=by
   intro g' M' L';have f:Later g' M' (g'.push (.cells #[.string key] 9)) (Mx M' g'.size #[.string key]):=Later.frz L'.ag _ _;refine⟨_,L'.trans f,_,rfl,_,1,rfl,⟨by simp,by simp⟩,.inr ⟨g'.size,0,#[.string key],rfl,mP ..,λi hi=>?_⟩⟩;have:i=0:=by simp at hi;exact hi
   subst this;rfl
  have bA:∀n g' M',Later g Mg g' M'->Rd M' (.row .str) [key] [aK ⟨Td ⟨n,0,Te⟩,1,1⟩]->Z3 ⟨Td ⟨n,0,Te⟩,1,1⟩ tp ((p1.add (((k:Nat):Int).toNat*7)).add 1) Tc g':= λn g' M' L' rs=>⟨sp,λ_=>ym L'.keep d2,aN n g' M' L' rs⟩;have bw:∀g' M',Later g Mg g' M'->Z4 sp tp Tc g':=by intro g' M' L';obtain⟨j,f,r9⟩:=aa g' M' L';exact rU rfl (Kt:=λs g'=>Z2 sp s tp Tc g') (aN _ _ j f r9)
  have bz:∀n g' M',Later g Mg g' M'->Rd M' (.row .str) [key] [aK ⟨Td ⟨n,0,Te⟩,1,1⟩]->Z5 sp ⟨Td ⟨n,0,Te⟩,1,1⟩ ((p2.add (((k:Nat):Int).toNat*7)).add 1) Tc g':=by intro n g' M' L' rs;refine⟨⟨tp,λ_=>ym L'.keep f2,aN n g' M' L' rs⟩,?_⟩;refine By rfl (Kt:=λs g'=>∃x:Sl,((!Tc)=Ta->zb g' ((p2.add (((k:Nat):Int).toNat*7)).add 1)=Td (aK x))/\Z1 s x Tc g') ?_;exact BP L'.ag rs ((Qo rfl).1 (an.mono L'.le)) (by simp;omega) λs E j f r9=>⟨s,rfl,tp,λ_=>ym (L'.trans f).keep f2,bu s E j (L'.trans f) r9⟩
  clear_value Z1 Z2 Z3 Z4 Z5;refine PT g1 (Kt:=λr g'=>_) ?_;refine(BZ o.2.2.2 o.2.2.2 (R:=λr=>r=Ta) (λr C=>C.2 rfl)).go (vs:=[_,_]) ((T.trans L.le)) L.ag (zh bB (zh bG zy)) λw E j r f p C=>?_;have C:r=Ta:=C;subst C;have g2:(bif (!((o.1:Bt).toList==(o.1:Bt).toList))then Ta else(!Ta))=Tc:=by simp
  refine⟨Ta,Jk p,?_⟩;have bQ:((jE [key] o).1:Bt)=o.1:=rfl;rw[bQ,g2];have z1:=ym f.keep d2;have z2:=ym f.keep f2;refine⟨p2,λ_=>aS,p1,λ_=>ab,⟨tp,λ_=>z2,?_,sp,λ_=>z1,bw _ _ f⟩,?_,sp,λ_=>z1,⟨tp,λ_=>z2,bw _ _ f⟩,?_⟩;obtain⟨G,m,r8⟩:=aa E j f;exact rU (g:=!Tc) rfl (Kt:=λs g'=>Z3 s tp ((p1.add (((k:Nat):Int).toNat*7)).add 1) Tc g') (bA _ _ G m r8);obtain⟨G,m,r8⟩:=aa E j f;refine rU (g:=!Tc) (h:=E) (h1:=E.push (.cells #[.string key] 9)) (s:=⟨Td ⟨E.size,0,Te⟩,1,1⟩) rfl (Kt:=λs g'=>(∃x:Sl,((!Tc)=Ta->zb g' ((p2.add (((k:Nat):Int).toNat*7)).add 1)=Td (aK x))/\Z3 s x ((p1.add (((k:Nat):Int).toNat*7)).add 1) Tc g')/\(∃x:Sl,((!Tc)=Ta->zb g' ((p1.add (((k:Nat):Int).toNat*7)).add 1)=Td (aK x))/\Z5 x s ((p2.add (((k:Nat):Int).toNat*7)).add 1) Tc g')) ?_;exact⟨⟨tp,λ_=>ym m.keep f2,bA _ _ G m r8⟩,sp,λ_=>ym m.keep d2,bz _ _ G m r8⟩;obtain⟨G,m,r8⟩:=aa E j f;exact rU (g:=!Tc) rfl (Kt:=λs g'=>Z5 sp s ((p2.add (((k:Nat):Int).toNat*7)).add 1) Tc g') (bz _ _ G m r8);have bT:=(rowLen a6).1;refine⟨Y,ul L.ag (L.le _ _ ma) rfl,a.kind,λ_=>ul L.ag (L.le _ _ ma) rfl,b.kind,λ_=>ul L.ag (L.le _ _ mb) rfl,?_⟩;by_cases Z:(bif (((Y.len:Nat):Int)==0)then(a.kind != b.kind)else Tc)=Ta;have bF:a.kind≠b.kind:=by cases h0:(((Y.len:Nat):Int)==0) <;> rw[h0]at Z <;> simp at Z;exact Z
  have h1:=be bF;subst h1;obtain⟨p1,sp,sk,si,ab,d1,d2,d3,an,bB⟩:=ut (k:=0) L.ag rl (by simp) rfl;have l1:sl.len=1:=ll;have l0:sp.len=0:=(rowLen ((Qo rfl).1 an)).1;refine⟨p1,λ_=>ab,(⟨#[114,101,112,108,97,99,101]⟩:Bt),λ_=>d1,p1,λ_=>ab,sp,λ_=>d2,?_⟩;rw[Z,l1,l0];exact⟨λhx=>(by simp at hx),λ_=>fin L⟩;rw[Bool.not_eq_true]at Z;rw[Z];exact⟨⟨0,0,Te⟩,λhx=>(by simp at hx),⟨#[]⟩,λhx=>(by simp at hx),⟨0,0,Te⟩,λhx=>(by simp at hx),⟨Te,0,0⟩,λhx=>(by simp at hx),λhx=>(by simp at hx),λ_=>fin L⟩
 refine⟨_,_,ak,Y,nc S,_,_,bk,bi,al S,?_⟩;have bE:=T.trans S.le;have aa:∀g' M',Later y z g' M'->∃j,Later y z (g'.push (.cells #[.string key] 9)) j/\Fr.le M' j/\Rd j (.row .str) [key] [aK ⟨Td ⟨g'.size,0,Te⟩,1,1⟩]:=by
  intro g' M' L';have f:Later g' M' (g'.push (.cells #[.string key] 9)) (Mx M' g'.size #[.string key]):=Later.frz L'.ag _ _;refine⟨_,L'.trans f,f.le,_,rfl,_,1,rfl,⟨by simp,by simp⟩,.inr ⟨g'.size,0,#[.string key],rfl,mP ..,λi hi=>?_⟩⟩;have:i=0:=by simp at hi;exact hi
  subst this;rfl
 have aJ:∀(x:Tr) (xk xi:Sl),Rd z (.row .str) x.keys [aK xk]->Rd z (.row .tree) x.items [aK xi]->∀g' M',Later y z g' M'->∃j,Later y z (g'.push (.cells #[.int .i64 x.kind,.string x.text,aK xk,aK xi] 25)) j/\Fr.le M' j/\Rd j (.row .tree) [x] [aK ⟨Td ⟨g'.size,0,Te⟩,1,1⟩]:=by
  intro x xk xi r1 r2 g' M' L';have f:Later g' M' (g'.push (.cells #[.int .i64 x.kind,.string x.text,aK xk,aK xi] 25)) (Mx M' g'.size #[.int .i64 x.kind,.string x.text,aK xk,aK xi]):=Later.frz L'.ag _ _;refine⟨_,L'.trans f,f.le,_,rfl,_,1,rfl,⟨by simp,by simp⟩,.inr ⟨g'.size,0,_,rfl,mP ..,λi hi=>?_⟩⟩;have:i=0:=by simp at hi;exact hi
  subst this;have hz:Rd (Mx M' g'.size #[.int .i64 x.kind,.string x.text,aK xk,aK xi]) .tree x [.int .i64 x.kind,.string x.text,aK xk,aK xi]:=by have a1:=r1.mono (L'.le.trans f.le);have a2:=r2.mono (L'.le.trans f.le);cases x;exact TrRd.of a1 a2
  exact hz
 have aV:=aJ a ak Y (bH.mono (H.le.trans S.le)) (a6.mono (H.le.trans S.le));have bD:=aJ b bk bi (bN.mono (H.le.trans S.le)) (bL.mono (H.le.trans S.le));have bl:∀{g' M'} (c:Nat),c<y.size->Later y z g' M'->g'[c]?=y[c]?:=λc O L=>L.keep.get c O;have ba:h.size<y.size:=S.ag.lt (S.le _ _ ma);have bb:h1.size<y.size:=S.ag.lt (S.le _ _ mb);have P:∀(x:Tr) (q t:Sl) {g':za} {M':Fr} (L':Later y z g' M') (r1:Rd M' (.row .str) [key] [aK q]) (r2:Rd M' (.row .tree) [x] [aK t]) {K:Value->za->Prop} (hK:∀s1 s2 E j,Later y z E j->Fr.le M' j->RdV j .tree (ia key x) (.agg #[.int .i64 6,.string ⟨#[]⟩,aK s1,aK s2])->K (.agg #[.int .i64 6,.string ⟨#[]⟩,aK s1,aK s2]) E),
   XC Tp 47 #[aK q,aK t] g' K:=by
  intro x q t g' M' L' r1 r2 K hK;refine(Bu (R:=λr=>r=ia key x) rfl).go (vs:=[aK q,aK t]) (bE.trans L'.le) L'.ag (zh ((Qo rfl).2 r1) (zh ((Qo rfl).2 r2) zy)) λw E j r f p C=>?_;have C:r=ia key x:=C;subst C;obtain⟨s1,s2,rfl,hB⟩:=NS p;exact hK s1 s2 E j (L'.trans f) f.le hB
 intro aG bj bC ay a8 aY aU bg aE aI aA ar aH az;have N:∀{g' M'} (L:Later y z g' M') {Q:Prop},(∀j,Later y z (g'.push (.cells #[.string key] 9)) j->Fr.le M' j->Rd j (.row .str) [key] [aK ⟨Td ⟨g'.size,0,Te⟩,1,1⟩]->Q)->Q:=λL _ k=>let ⟨_,a,b,c⟩:=aa _ _ L;k _ a b c;have lA:∀{g' M'} (L:Later y z g' M') {Q:Prop},(∀j,Later y z (g'.push (.cells #[.int .i64 a.kind,.string a.text,aK ak,aK Y] 25)) j->Fr.le M' j->Rd j (.row .tree) [a] [aK ⟨Td ⟨g'.size,0,Te⟩,1,1⟩]->Q)->Q:=λL _ k=>let ⟨_,a,b,c⟩:=aV _ _ L;k _ a b c;have lB:∀{g' M'} (L:Later y z g' M') {Q:Prop},(∀j,Later y z (g'.push (.cells #[.int .i64 b.kind,.string b.text,aK bk,aK bi] 25)) j->Fr.le M' j->Rd j (.row .tree) [b] [aK ⟨Td ⟨g'.size,0,Te⟩,1,1⟩]->Q)->Q:=λL _ k=>let ⟨_,a,b,c⟩:=bD _ _ L;k _ a b c;have aj:∀t q s1 s2 g M',Later y z g M'->Rd M' (.row .tree) [b] [aK t]->Rd M' (.row .str) [key] [aK q]->RdV M' .tree (ia key a) (.agg #[.int .i64 6,.string ⟨#[]⟩,aK s1,aK s2])->aG t q 6 ⟨#[]⟩ s1 s2 g:=by intro t q s1 s2 g M' L F D U;refine P b q t L D F λs3 s4 E j f le bI=>⟨_,_,s3,s4,rfl,?_⟩;refine(xX hg hb sA sB (R:=λr=>r=iw (ia key a) (ia key b)) rfl).go (vs:=[_,_]) (bE.trans f.le) f.ag (zh (U.mono le) (zh bI zy)) λw gA MA r LA p C=>?_;have C:r=iw (ia key a) (ia key b):=C;subst C;obtain⟨sm,rfl,rm⟩:=zW p;exact⟨sm,_,rfl,bO sm gA MA (f.trans LA) rm⟩
 have aB:∀q s1 s2 g M',Later y z g M'->Rd M' (.row .str) [key] [aK q]->RdV M' .tree (ia key a) (.agg #[.int .i64 6,.string ⟨#[]⟩,aK s1,aK s2])->bj q 6 ⟨#[]⟩ s1 s2 g:= λq s1 s2 g M' L D U=>lB L λj f le r=>aj _ _ _ _ _ _ f r (D.mono le) (U.mono le);have aC:∀t s1 s2 g M',Later y z g M'->Rd M' (.row .tree) [b] [aK t]->RdV M' .tree (ia key a) (.agg #[.int .i64 6,.string ⟨#[]⟩,aK s1,aK s2])->bC t 6 ⟨#[]⟩ s1 s2 g:= λt s1 s2 g M' L F U=>N L λj f le r=>aj _ _ _ _ _ _ f (F.mono le) r (U.mono le);have V:∀t q A B g M',Later y z g M'->Rd M' (.row .tree) [b] [aK t]->Rd M' (.row .str) [key] [aK q]->Rd M' (.row .tree) [a] [aK A]->Rd M' (.row .str) [key] [aK B]->ay t q A B g:= λt q A B g M' L F D J I=>P a B A L I J λs1 s2 E j f le U=>⟨_,_,s1,s2,rfl,aj _ _ _ _ _ _ f (F.mono le) (D.mono le) U⟩;have am:∀q A B g M',Later y z g M'->Rd M' (.row .str) [key] [aK q]->Rd M' (.row .tree) [a] [aK A]->Rd M' (.row .str) [key] [aK B]->a8 q A B g:= λq A B g M' L D J I=>⟨P a B A L I J λs1 s2 E j f le U=>⟨_,_,s1,s2,rfl,bl _ bb f,aB _ _ _ _ _ f (D.mono le) U⟩,lB L λj f le r=>V _ _ _ _ _ _ f r (D.mono le) (J.mono le) (I.mono le)⟩;have ae:∀t A B g M',Later y z g M'->Rd M' (.row .tree) [b] [aK t]->Rd M' (.row .tree) [a] [aK A]->Rd M' (.row .str) [key] [aK B]->aY t A B g:= λt A B g M' L F J I=>⟨P a B A L I J λs1 s2 E j f le U=>⟨_,_,s1,s2,rfl,aC _ _ _ _ _ f (F.mono le) U⟩,N L λj f le r=>V _ _ _ _ _ _ f (F.mono le) r (J.mono le) (I.mono le)⟩;have af:∀t q B g M',Later y z g M'->Rd M' (.row .tree) [b] [aK t]->Rd M' (.row .str) [key] [aK q]->Rd M' (.row .str) [key] [aK B]->aU t q B g:= λt q B g M' L F D I=>lA L λj f le r=>V _ _ _ _ _ _ f (F.mono le) (D.mono le) r (I.mono le);have ah:∀t q A g M',Later y z g M'->Rd M' (.row .tree) [b] [aK t]->Rd M' (.row .str) [key] [aK q]->Rd M' (.row .tree) [a] [aK A]->bg t q A g:= λt q A g M' L F D J=>N L λj f le r=>V _ _ _ _ _ _ f (F.mono le) (D.mono le) (J.mono le) r;clear_value aG ay;have aF:∀A B g M',Later y z g M'->Rd M' (.row .tree) [a] [aK A]->Rd M' (.row .str) [key] [aK B]->aE A B g:= λA B g M' L J I=>⟨P a B A L I J λs1 s2 E j f le U=>⟨_,_,s1,s2,rfl,bl _ bb f,N f λG m aP r=>⟨bl _ bb m,aB _ _ _ _ _ m r (U.mono aP)⟩,lB f λG m aP r=>aC _ _ _ _ _ m r (U.mono aP)⟩,N L λj f le r=>⟨bl _ bb f,am _ _ _ _ _ f r (J.mono le) (I.mono le)⟩,lB L λj f le r=>ae _ _ _ _ _ f r (J.mono le) (I.mono le)⟩;have ax:∀q B g M',Later y z g M'->Rd M' (.row .str) [key] [aK q]->Rd M' (.row .str) [key] [aK B]->aI q B g:= λq B g M' L D I=>⟨lA L λj f le r=>⟨bl _ bb f,am _ _ _ _ _ f (D.mono le) r (I.mono le)⟩,lB L λj f le r=>⟨bl _ ba f,af _ _ _ _ _ f r (D.mono le) (I.mono le)⟩⟩;have aL:∀t B g M',Later y z g M'->Rd M' (.row .tree) [b] [aK t]->Rd M' (.row .str) [key] [aK B]->aA t B g:= λt B g M' L F I=>⟨lA L λj f le r=>ae _ _ _ _ _ f (F.mono le) r (I.mono le),N L λj f le r=>⟨bl _ ba f,af _ _ _ _ _ f (F.mono le) r (I.mono le)⟩⟩;have aM:∀q A g M',Later y z g M'->Rd M' (.row .str) [key] [aK q]->Rd M' (.row .tree) [a] [aK A]->ar q A g:= λq A g M' L D J=>⟨N L λj f le r=>⟨bl _ bb f,am _ _ _ _ _ f (D.mono le) (J.mono le) r⟩,lB L λj f le r=>ah _ _ _ _ _ f r (D.mono le) (J.mono le)⟩;have aD:∀t A g M',Later y z g M'->Rd M' (.row .tree) [b] [aK t]->Rd M' (.row .tree) [a] [aK A]->aH t A g:= λt A g M' L F J=>⟨N L λj f le r=>ae _ _ _ _ _ f (F.mono le) (J.mono le) r,N L λj f le r=>ah _ _ _ _ _ f (F.mono le) r (J.mono le)⟩;have au:∀t q g M',Later y z g M'->Rd M' (.row .tree) [b] [aK t]->Rd M' (.row .str) [key] [aK q]->az t q g:= λt q g M' L F D=>⟨N L λj f le r=>⟨bl _ ba f,af _ _ _ _ _ f (F.mono le) (D.mono le) r⟩,lA L λj f le r=>ah _ _ _ _ _ f (F.mono le) (D.mono le) r⟩;clear_value aE aI aA ar aH az;have L0:Later y z y z:=Later.refl S.ag;exact⟨N L0 λj f _ r=>⟨bl _ bb f,bl _ ba f,lA f λG m le s=>⟨bl _ bb m,aF _ _ _ _ m s (r.mono le)⟩,N f λG m le s=>⟨bl _ bb m,bl _ ba m,ax _ _ _ _ m s (r.mono le)⟩,lB f λG m le s=>⟨bl _ ba m,aL _ _ _ _ m s (r.mono le)⟩⟩,lA L0 λj f _ r=>⟨bl _ bb f,N f λG m le s=>⟨bl _ bb m,aF _ _ _ _ m (r.mono le) s⟩,N f λG m le s=>⟨bl _ bb m,aM _ _ _ _ m s (r.mono le)⟩,lB f λG m le s=>aD _ _ _ _ m s (r.mono le)⟩,N L0 λj f _ r=>⟨bl _ bb f,bl _ ba f,N f λG m le s=>⟨bl _ bb m,bl _ ba m,ax _ _ _ _ m (r.mono le) s⟩,lA f λG m le s=>⟨bl _ bb m,aM _ _ _ _ m (r.mono le) s⟩,lB f λG m le s=>⟨bl _ ba m,au _ _ _ _ m s (r.mono le)⟩⟩,lB L0 λj f _ r=>⟨bl _ ba f,N f λG m le s=>⟨bl _ ba m,aL _ _ _ _ m (r.mono le) s⟩,lA f λG m le s=>aD _ _ _ _ m (r.mono le) s,N f λG m le s=>⟨bl _ ba m,au _ _ _ _ m (r.mono le) s⟩⟩⟩
end
end Go.X
end
