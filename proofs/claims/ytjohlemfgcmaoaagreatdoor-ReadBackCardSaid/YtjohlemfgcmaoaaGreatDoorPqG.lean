/- A part of the proof: nothing is stated here for its own sake. -/
import Derived.Test.YtjohlemfgcmaoaaGreatDoorPqF
open _root_.Array renaming size_push->Am
open _root_.BitVec renaming ofInt->Ao
open _root_.Bool renaming and_eq_true->As,cond_true_left->Ca,eq_iff_iff->AJ,or_eq_false_iff->BX,or_eq_true->Br,true_and->BZ
open _root_.Int renaming toNat_natCast->Al
open _root_.Go.IntKind renaming bits->Ak,wrap->Aa
open _root_.List renaming all_eq_true->AD,append_assoc->AM,cons_append->AE,drop_drop->Bj,drop_left->DD,eq_nil_of_length_eq_zero->AO,filter_cons->DY,length->Cr,length_append->Ag,length_cons->Ap,length_drop->AI,length_eq_zero_iff->A7,length_map->AH,length_pos_iff->Bf,map_cons->Az,map_map->BG,map_nil->Cm,mem_append->Aw,mem_cons->Af,mem_cons_of_mem->Ae,mem_cons_self->Aj,mem_map->Bc,mem_singleton->A6,nil_append->A8,nodup_cons->BE,nodup_nil->Di,take_left->CH,zip_cons_cons->CB
open _root_.Nat renaming add_assoc->Dv,add_sub_cancel_left->CC,le_refl->Ac,le_trans->CV,zero_add->AK
open _root_.Option.some renaming inj->Au
set_option linter.unusedVariables false
set_option maxRecDepth 100000
namespace Go.X
end Go.X
namespace Go.Proofs
end Go.Proofs
open Go Go.X Go.Proofs
section
namespace Go.X
open Go Go.Lib
section
variable {r s w:Bs} {a N lv:Nat} {ln:Bool} {v:Tr}
def qco(r:Bs):Prop:=∀c,r.head?=some c->c=44\/c=93\/c=125\/c=10
theorem zvw:qco []:=λc h=>by cases h
theorem zd4{c:UInt8}(h:c=44\/c=93\/c=125\/c=10):qco (c::r):=λd hd=>by
 have hd:some c=some d:=hd
 rw[<-Au hd];exact h
theorem zgs{p:UInt8->Bool}:∀{w r:Bs},(∀c∈w,p c=true)->(∀c,r.head?=some c->p c=false)->Yg p (w++r)=w.length
 |[],[],_,_=>rfl
 |[],c::r,_,h=>by
  unfold Yg
  rw[A8,List.takeWhile_cons,if_neg (by rw[h c rfl];simp)]
 |c::w,r,h,h2=>by
  have:=zgs (w:=w) (r:=r) (λd hd=>h d (Ae _ hd)) h2
  unfold Yg at this ⊢
  rw[AE,List.takeWhile_cons,if_pos (h c Aj),Ap,this,Ap]
theorem z3r(h:(zi w).2=0)(hs:s.drop a=w++r)(hr:qco r):Z7 s a=(9,a+w.length,0)/\∃c t,w=c::t/\c∈zcn:=by
 have aa:zdq w=true:=by
  unfold zi at h
  cases e:W6 w with
  |none=>rw[e]at h;simp at h
  |some x=>exact(zb6 e).1
 obtain⟨hb,c,t,e,hc⟩:=z3g aa
 have Z:Yg (xg zcm) (w++r)=w.length:=zgs (λc hc=>by unfold xg;exact decide_eq_true (hb c hc)) λc hc=>by
  have:∀c:UInt8,c=44\/c=93\/c=125\/c=10->xg zcm c=false:=by rintro c (rfl|rfl|rfl|rfl) <;> decide
  exact this c (hr c hc)
 have n1:c∉yl/\c∉xf/\c≠34:=by
  have:∀c∈zcn,c∉yl/\c∉xf/\c≠34:=by decide
  exact this c hc
 refine⟨?_,c,t,e,hc⟩
 unfold Z7
 rw[hs]
 rw[e,AE]at Z ⊢
 rw[e]at h
 dsimp only
 have ab:(c::(t++r)).take (c::t).length=c::t:=by rw[<-AE,CH]
 rw[if_neg n1.1,if_neg n1.2.1,if_neg n1.2.2,if_pos hc,Z,ab,if_pos h]
theorem zvx(h:Qq w≠0)(hs:s.drop a=w++r)(hr:qco r):Z7 s a=(Qq w,a+w.length,0):=by
 have hw:w=[116,114,117,101]\/w=[102,97,108,115,101]\/w=[110,117,108,108]:=by
  unfold Qq at h
  by_cases h1:w=[116,114,117,101]
  ·exact .inl h1
  ·rw[if_neg h1]at h
   by_cases h2:w=[102,97,108,115,101]
   ·exact .inr (.inl h2)
   ·rw[if_neg h2]at h
    by_cases h3:w=[110,117,108,108]
    ·exact .inr (.inr h3)
    ·rw[if_neg h3]at h;exact absurd rfl h
 have aa:∀c∈w,xg j5 c=true:=by rcases hw with rfl|rfl|rfl <;> decide
 have Z:Yg (xg j5) (w++r)=w.length:=zgs aa λc hc=>by
  have:∀c:UInt8,c=44\/c=93\/c=125\/c=10->xg j5 c=false:=by rintro c (rfl|rfl|rfl|rfl) <;> decide
  exact this c (hr c hc)
 obtain⟨c,t,e,hc⟩:∃c t,w=c::t/\(c=116\/c=102\/c=110):=by
  rcases hw with rfl|rfl|rfl
  ·exact⟨_,_,rfl,.inl rfl⟩
  ·exact⟨_,_,rfl,.inr (.inl rfl)⟩
  ·exact⟨_,_,rfl,.inr (.inr rfl)⟩
 have n1:c∉yl/\c∉xf/\c≠34/\c∉zcn:=by rcases hc with rfl|rfl|rfl <;> decide
 unfold Z7
 rw[hs]
 rw[e,AE]at Z ⊢
 rw[e]at h
 dsimp only
 have ab:(c::(t++r)).take (c::t).length=c::t:=by rw[<-AE,CH]
 rw[if_neg n1.1,if_neg n1.2.1,if_neg n1.2.2.1,if_neg n1.2.2.2,Z,ab,if_neg h]
theorem zi4(hw:∀c∈w,c∈xf)(hr:∀c,r.head?=some c->c∉xf)(hs:s.drop a=w++r):∃T,Lex s a (a+w.length) T/\zy T=[]:=by
 cases w with
 |nil=>exact⟨[],.nil,rfl⟩
 |cons c t=>
  have hc:=hw c Aj
  have Z:Yg (xg xf) (c::t++r)=(c::t).length:=zgs (λd hd=>by unfold xg;exact decide_eq_true (hw d hd)) λd hd=>by unfold xg;exact decide_eq_false (hr d hd)
  have h1:c∉yl:=by
   have:∀c∈xf,c∉yl:=by decide
   exact this c hc
  have tk:Z7 s a=(1,a+(c::t).length,0):=by
   unfold Z7
   rw[hs,AE]
   dsimp only
   rw[if_neg h1,if_pos hc]
   rw[AE]at Z
   rw[Z]
  exact⟨_,Lex.step (T:=[]) tk (yh hs (by simp)) .nil,rfl⟩
theorem jq(A B:List Tk):zy (A++B)=zy A++zy B:=List.filter_append ..
theorem qq{t:Tk}{T:List Tk}(h:t.1≠1):zy (t::T)=t::zy T:=by unfold zy;rw[DY,if_pos (decide_eq_true h)]
theorem zd5(h:s.drop a=w++r):s.drop (a+w.length)=r:=by rw[<-Bj,h,DD]
theorem zlo:∀c∈yv ln N lv,c∈xf:=by
 intro c hc
 unfold yv at hc
 split at hc
 ·rcases Af.1 hc with rfl|hc
  ·decide
  ·rw[(List.mem_replicate.1 hc).2];decide
 ·cases hc
def w9(ln:Bool)(N lv:Nat)(cb:UInt8):List Bs->Bs
 |[]=>yv ln N lv++[cb]
 |p::ps=>yv ln N (lv+1)++(p++(if ps=[]then w9 ln N lv cb []else 44::w9 ln N lv cb ps))
theorem zlp{ln:Bool}{N lv:Nat}{cb:UInt8}:∀{ps:List Bs},ps≠[]->w9 ln N lv cb ps=Zc ln N (lv+1) ps++(yv ln N lv++[cb])
 |[],h=>absurd rfl h
 |[p],_=>by
  rw[w9,if_pos rfl,w9,Zc];simp
 |p::q::ps,_=>by
  rw[w9,if_neg (by simp),zlp (ps:=q::ps) (by simp)]
  rw[Zc,Zc]
  simp[AM]
theorem zra{cb:UInt8}{ps:List Bs}(h:ps≠[]):Xi ln N lv ps++[cb]=w9 ln N lv cb ps:=by
 rw[zlp h]
 unfold Xi
 rw[if_neg h,AM]
def OKs(nx:List Bs->Bs×Tr->List Bs)(Fresh:List Bs->Bs×Tr->Prop):List Bs->List (Bs×Tr)->Prop
 |_,[]=>True
 |had,kv::l=>Fresh had kv/\OKs nx Fresh (nx had kv) l
theorem z3s{cb:UInt8}(Z:cb=93\/cb=125)(hs:s.drop a=w9 ln N lv cb []++r):∃T,Lex s a (a+(w9 ln N lv cb []).length) T/\∃c,zy T=[c]/\c.1=2+indexByte yl cb:=by
 rw[w9]at hs ⊢
 rw[AM]at hs
 have ab:cb∈yl:=by rcases Z with rfl|rfl <;> decide
 have ae:cb∉xf:=by rcases Z with rfl|rfl <;> decide
 obtain⟨T1,L1,n1⟩:=zi4 zlo (r:=[cb]++r) (λc hc=>by
  have hc:some cb=some c:=hc
  rw[<-Au hc];exact ae) hs
 have aa:=zd5 hs
 have tk:=Qs ab aa
 have L2:=Lex.step (T:=[]) tk (yh aa (by simp)) .nil
 refine⟨T1++[(2+indexByte yl cb,(((a+(yv ln N lv).length:Nat):Int),((a+(yv ln N lv).length+1:Nat):Int)))],?_,(2+indexByte yl cb,(((a+(yv ln N lv).length:Nat):Int),((a+(yv ln N lv).length+1:Nat):Int))),?_,rfl⟩
 ·have:=L1.append L2
  rw[Ag,<-Dv]
  exact this
 ·rw[jq,n1,A8,qq (show(2+indexByte yl cb:Int)≠1 by rcases Z with rfl|rfl <;> decide)];rfl
theorem znu{ln:Bool}{N lv:Nat}{s:Bs}{cb:UInt8}(aa:cb=93\/cb=125){K:List Bs->List Bs->Bs×Tr->List Tk->Nat->Prop}{nx:List Bs->Bs×Tr->List Bs}{Fresh:List Bs->Bs×Tr->Prop}{P:Bs×Tr->Bs}:∀(kvs:List (Bs×Tr)) (had:List Bs) (a:Nat) (r:Bs),kvs≠[]->OKs nx Fresh had kvs ->
  (∀kv∈kvs,(∃c t,P kv=c::t/\c∉xf)/\∀had a r,Fresh had kv->s.drop a=P kv++r->qco r->∃T,Lex s a (a+(P kv).length) T/\K had (nx had kv) kv (zy T) (tsz kv.2)) ->
  s.drop a=w9 ln N lv cb (kvs.map P)++r->∃T,Lex s a (a+(w9 ln N lv cb (kvs.map P)).length) T/\KidsG K (2+indexByte yl cb) had kvs (zy T) (Yf (kvs.map (·.2)))
 |[],had,a,r,h,_,_,_=>absurd rfl h
 |kv::kvs,had,a,r,_,hok,hK,hs=>by
  obtain⟨⟨c0,t0,e0,ai⟩,ah⟩:=hK kv Aj
  rw[Az,w9,AM]at hs
  obtain⟨T1,L1,n1⟩:=zi4 zlo (λc hc=>by
   rw[e0]at hc
   have hc:some c0=some c:=hc
   rw[<-Au hc];exact ai) hs
  have ae:=zd5 hs
  rw[AM]at ae
  have ab:qco ((if kvs.map P=[]then w9 ln N lv cb []else 44::w9 ln N lv cb (kvs.map P))++r):=by
   split
   ·rw[w9]
    unfold yv
    split
    ·exact zd4 (.inr (.inr (.inr rfl)))
    ·rcases aa with rfl|rfl
     ·exact zd4 (.inr (.inl rfl))
     ·exact zd4 (.inr (.inr (.inl rfl)))
   ·exact zd4 (.inl rfl)
  obtain⟨T2,L2,k2⟩:=ah had _ _ hok.1 ae ab
  have Z:=zd5 ae
  by_cases hn:kvs=[]
  ·subst hn
   rw[Cm,if_pos rfl]at Z
   obtain⟨T3,L3,c,n3,hc⟩:=z3s aa Z
   refine⟨T1++(T2++T3),?_,?_⟩
   ·have:=L1.append (L2.append L3)
    rw[Az,Cm,w9,if_pos rfl]
    simp only[Ag]at this ⊢
    rw[show a+((yv ln N (lv+1)).length+((P kv).length+(w9 ln N lv cb []).length))=a+(yv ln N (lv+1)).length+(P kv).length+(w9 ln N lv cb []).length from by omega]
    exact this
   ·rw[jq,n1,A8,jq,n3]
    exact KidsG.last k2 hc
  ·have af:kvs.map P≠[]:=λe=>hn (List.map_eq_nil_iff.1 e)
   rw[if_neg af,AE]at Z
   have tk:=Qs (c:=44) (by decide) Z
   have aj:s.drop (a+(yv ln N (lv+1)).length+(P kv).length+1)=w9 ln N lv cb (kvs.map P)++r:=by rw[<-Bj,Z];rfl
   obtain⟨T3,L3,k3⟩:=znu aa kvs (nx had kv) _ r hn hok.2 (λx hx=>hK x (Ae _ hx)) aj
   have L4:=Lex.step tk (yh Z (by simp)) L3
   refine⟨T1++(T2++(2+indexByte yl 44,(((a+(yv ln N (lv+1)).length+(P kv).length:Nat):Int),((a+(yv ln N (lv+1)).length+(P kv).length+1:Nat):Int)))::T3),?_,?_⟩
   ·have:=L1.append (L2.append L4)
    rw[Az,w9,if_neg af]
    simp only[Ag,Ap]at this ⊢
    rw[show a+((yv ln N (lv+1)).length+((P kv).length+((w9 ln N lv cb (kvs.map P)).length+1)))=a+(yv ln N (lv+1)).length+(P kv).length+1+(w9 ln N lv cb (kvs.map P)).length from by omega]
    exact this
   ·rw[jq,n1,A8,jq,qq (show(2+indexByte yl 44:Int)≠1 by decide),Az,Yf]
    exact KidsG.more k2 (show(2+indexByte yl 44:Int)=6 by decide) k3
theorem zrb(h:okV v=true):(v.kind=1/\lb v.text=[]/\v.keys=[]/\v.items=[])\/(v.kind=2/\(lb v.text=[116,114,117,101]\/lb v.text=[102,97,108,115,101])/\v.keys=[]/\v.items=[]) \/
  (v.kind=3/\((zi (lb v.text)).2=0/\qz (zi (lb v.text)).1=lb v.text)/\v.keys=[]/\v.items=[])\/(v.kind=4/\jd (lb v.text)=true/\v.keys=[]/\v.items=[]) \/
  (v.kind=5/\lb v.text=[]/\v.keys=[])\/(v.kind=6/\xe v.keys=true/\v.keys.length=v.items.length/\lb v.text=[]):=by
 unfold okV at h
 rw[As]at h
 obtain⟨h7,h⟩:=h
 have h7:v.kind≠7:=of_decide_eq_true h7
 unfold qe at h
 by_cases h1:v.kind=1
 ·rw[if_pos h1]at h
  simp only[As,beq_iff_eq,List.isEmpty_iff]at h
  exact .inl ⟨h1,h.1.1,h.1.2,h.2⟩
 ·rw[if_neg h1]at h
  by_cases h2:v.kind=2
  ·rw[if_pos h2]at h
   simp only[As,beq_iff_eq,List.isEmpty_iff,Br]at h
   exact .inr (.inl ⟨h2,h.1.1,h.1.2,h.2⟩)
  ·rw[if_neg h2]at h
   by_cases h3:v.kind=3
   ·rw[if_pos h3]at h
    unfold zxh at h
    simp only[As,beq_iff_eq,List.isEmpty_iff,decide_eq_true_eq]at h
    exact .inr (.inr (.inl ⟨h3,h.1.1,h.1.2,h.2⟩))
   ·rw[if_neg h3]at h
    by_cases h4:v.kind=4
    ·rw[if_pos h4]at h
     simp only[As,List.isEmpty_iff]at h
     exact .inr (.inr (.inr (.inl ⟨h4,h.1.1,h.1.2,h.2⟩)))
    ·rw[if_neg h4]at h
     by_cases h5:v.kind=5
     ·rw[if_pos h5]at h
      simp only[As,beq_iff_eq,List.isEmpty_iff]at h
      exact .inr (.inr (.inr (.inr (.inl ⟨h5,h.1,h.2⟩))))
     ·rw[if_neg h5]at h
      by_cases h6:v.kind=6
      ·rw[if_pos h6]at h
       simp only[As,beq_iff_eq,decide_eq_true_eq]at h
       exact .inr (.inr (.inr (.inr (.inr ⟨h6,h.1.1,h.1.2,h.2⟩))))
      ·rw[if_neg h6,if_neg h7]at h;cases h
theorem ztm{t:Bs}(h:jd t=true):(zp8 t).1=zfa t:=by unfold zp8;rw[if_pos h];rfl
theorem zvy(h:okV v=true):∃c t,jo ln N v lv=c::t/\c∉xf:=by
 rw[zcv]
 rcases zrb h with⟨hk,_⟩|⟨hk,ht,_⟩|⟨hk,⟨ht,_⟩,_⟩|⟨hk,ht,_⟩|⟨hk,_⟩|⟨hk,_⟩
 ·rw[hk];exact⟨_,_,rfl,by decide⟩
 ·rw[hk,if_neg (by decide),if_neg (by decide),if_neg (by decide),if_neg (by decide)]
  rcases ht with e|e <;> (rw[e];exact⟨_,_,rfl,by decide⟩)
 ·rw[hk,if_neg (by decide),if_neg (by decide),if_neg (by decide),if_neg (by decide)]
  obtain⟨_,c,t,e,hc⟩:=z3r (s:=lb v.text) (a:=0) (r:=[]) ht (by simp) zvw
  refine⟨c,t,e,?_⟩
  have:∀c∈zcn,c∉xf:=by decide
  exact this c hc
 ·rw[hk,if_neg (by decide),if_pos rfl,ztm ht]
  exact⟨_,_,rfl,by decide⟩
 ·rw[hk,if_neg (by decide),if_neg (by decide),if_pos rfl]
  exact⟨_,_,rfl,by decide⟩
 ·rw[hk,if_neg (by decide),if_neg (by decide),if_neg (by decide),if_pos rfl]
  exact⟨_,_,rfl,by decide⟩
theorem znv(hs:s.drop a=w++r)(hw:w≠[]):ya s ((a:Int),((a+w.length:Nat):Int))=w/\Jv s ((a:Int),((a+w.length:Nat):Int))=w:=by
 have Z:=yh hs (by simp[hw])
 have aa:a+w.length<=s.length:=by
  have:=congrArg Cr hs
  rw[AI,Ag]at this
  omega
 have hp:=Bf.2 hw
 have hc:Jv s ((a:Int),((a+w.length:Nat):Int))=w:=by
  unfold Jv
  simp only[Al]
  rw[hs,CC,CH]
 refine⟨?_,hc⟩
 rw[za0 (by dsimp only;omega) (by dsimp only;omega) (by dsimp only;omega)];exact hc
theorem z3t{nx:List Bs->Bs×Tr->List Bs}:∀(l:List (Bs×Tr)) (had:List Bs),OKs nx (λ_ _=>True) had l
 |[],_=>trivial
 |_::l,_=>⟨trivial,z3t l _⟩
theorem zvz:∀(l:List (Bs×Tr)) (had:List Bs),(l.map (·.1)).Nodup->(∀kv∈l,kv.1∉had)->OKs (λhad kv=>had++[kv.1]) (λhad kv=>kv.1∉had) had l
 |[],_,_,_=>trivial
 |kv::l,had,hn,hh=>by
  rw[Az,BE]at hn
  refine⟨hh kv Aj,zvz l _ hn.2 λx hx hm=>?_⟩
  rcases Aw.1 hm with h|h
  ·exact hh x (Ae _ hx) h
  ·rw[A6]at h
   exact hn.1 (h ▸ Bc.2 ⟨x,hx,rfl⟩)
theorem zv0:∀{ks:List Bt},ks.Nodup->(ks.map lb).Nodup
 |[],_=>Di
 |k::ks,h=>by
  rw[BE]at h
  rw[Az,BE]
  refine⟨λhm=>?_,zv0 h.2⟩
  obtain⟨q,hq,e⟩:=Bc.1 hm
  have:q=k:=by rw[<-Y0 q,e,Y0]
  exact h.1 (this ▸ hq)
theorem znw{k:Int}(hk:k≠1)(h:Z7 s a=(k,a+w.length,0))(hs:s.drop a=w++r)(hw:w≠[]):Lex s a (a+w.length) [(k,((a:Int),((a+w.length:Nat):Int)))]/\zy [(k,((a:Int),((a+w.length:Nat):Int)))]=[(k,((a:Int),((a+w.length:Nat):Int)))]:=
 ⟨Lex.step (T:=[]) h (yh hs (by simp[hw])) .nil,by rw[qq hk];rfl⟩
set_option maxHeartbeats 1000000 in
theorem ztn{ln:Bool}{N:Nat}:∀(n:Nat) (v:Tr) (lv d:Nat),tsz v<=n->zb9 okV v=true->tdp v<=d->∀(s r:Bs) (a:Nat),s.drop a=jo ln N v lv++r->qco r->∃T,Lex s a (a+(jo ln N v lv).length) T/\PV s d v (zy T) (tsz v)
 |0,v,_,_,h,_,_=>by have:=zcb v;omega
 |n+1,v,lv,0,_,_,hd=>by rw[zpu]at hd;omega
 |n+1,v,lv,d+1,hz,hok,hd=>by
  intro s r a hs hr
  rw[xt,As]at hok
  obtain⟨hv,ab⟩:=hok
  rw[xu,AD]at ab
  have an:∀x∈v.items,tsz x<=n/\tdp x<=d/\zb9 okV x=true:=λx hx=>⟨by have:=wv hx;omega,by have:=znp hx;omega,ab x hx⟩
  have eta:v=.mk v.kind v.text v.keys v.items:=by cases v;rfl
  have af:∀{t:Bt},lb t=[]->t=bl []:=λ {t} h=>by rw[<-Y0 t,h]
  rw[zcv]at hs ⊢
  rcases zrb hv with⟨hk,ht,h1,h2⟩|⟨hk,ht,h1,h2⟩|⟨hk,⟨ht,aE⟩,h1,h2⟩|⟨hk,ht,h1,h2⟩|⟨hk,ht,h1⟩|⟨hk,ah,aA,ht⟩
  ·rw[if_pos hk]at hs ⊢
   have tk:=zvx (w:=[110,117,108,108]) (by decide) hs hr
   obtain⟨L,nb⟩:=znw (by decide) tk hs (by simp)
   refine⟨_,L,?_⟩
   rw[nb]
   refine⟨_,.inl ⟨rfl,show zw 12≠0 by decide,show zw 12≠5 by decide,show zw 12≠6 by decide,?_,?_⟩⟩
   ·rw[eta,hk,h1,h2,af ht];rfl
   ·rw[Z2,h2];rfl
  ·rw[if_neg (by omega),if_neg (by omega),if_neg (by omega),if_neg (by omega)]at hs ⊢
   have hw:Qq (lb v.text)=10\/Qq (lb v.text)=11:=by rcases ht with e|e <;> (rw[e];decide)
   have Z:lb v.text≠[]:=by rcases ht with e|e <;> (rw[e];simp)
   have tk:=zvx (w:=lb v.text) (by omega) hs hr
   obtain⟨L,nb⟩:=znw (by omega) tk hs Z
   refine⟨_,L,?_⟩
   rw[nb]
   have am:zw (Qq (lb v.text))=2:=by rcases hw with e|e <;> (rw[e];decide)
   refine⟨_,.inl ⟨rfl,?_,?_,?_,?_,?_⟩⟩
   ·dsimp only;rw[am];decide
   ·dsimp only;rw[am];decide
   ·dsimp only;rw[am];decide
   ·dsimp only
    rw[am,(znv hs Z).1]
    unfold Ym
    rw[if_pos rfl,Y0]
    rw[eta,hk,h1,h2]
   ·rw[Z2,h2];rfl
  ·rw[if_neg (by omega),if_neg (by omega),if_neg (by omega),if_neg (by omega)]at hs ⊢
   obtain⟨tk,c,t,e,_⟩:=z3r ht hs hr
   have Z:lb v.text≠[]:=by rw[e];simp
   obtain⟨L,nb⟩:=znw (by decide) tk hs Z
   refine⟨_,L,?_⟩
   rw[nb]
   refine⟨_,.inl ⟨rfl,show zw 9≠0 by decide,show zw 9≠5 by decide,show zw 9≠6 by decide,?_,?_⟩⟩
   ·dsimp only
    rw[show zw 9=3 from rfl,(znv hs Z).1]
    unfold Ym
    rw[if_neg (by decide),if_pos rfl,aE,Y0]
    rw[eta,hk,h1,h2]
   ·rw[Z2,h2];rfl
  ·rw[if_neg (by omega),if_pos hk,ztm ht]at hs ⊢
   have tk:=z3e ht hs
   obtain⟨L,nb⟩:=znw (by decide) tk hs (by unfold zfa;simp)
   refine⟨_,L,?_⟩
   rw[nb]
   have:=qff (d:=d) ht hs
   rw[Y0]at this
   rw[show v=.mk 4 v.text [] []from by rw[eta,hk,h1,h2]]
   exact this
  ·rw[if_neg (by omega),if_neg (by omega),if_pos hk]at hs ⊢
   have ev:v=.mk 5 (bl []) [] v.items:=by rw[eta,hk,h1,af ht]
   by_cases hn:v.items=[]
   ·rw[hn]at hs ⊢
    have hs:s.drop a=91::([93]++r):=hs
    have tk:=Qs (c:=91) (by decide) hs
    have aa:s.drop (a+1)=93::r:=by rw[<-Bj,hs];rfl
    have ap:=Qs (c:=93) (by decide) aa
    refine⟨_,Lex.step (b:=a+2) tk (yh hs (by simp)) (Lex.step (T:=[]) ap (yh aa (by simp)) .nil),?_⟩
    rw[qq (show(2+indexByte yl 91:Int)≠1 by decide),qq (show(2+indexByte yl 93:Int)≠1 by decide)]
    exact⟨_,.inr (.inl ⟨_,rfl,.inl ⟨show(2+indexByte yl 91:Int)=4 by decide,show(2+indexByte yl 93:Int)=5 by decide,by rw[ev,hn]⟩,by rw[Z2,hn];rfl⟩)⟩
   ·have aj:(v.items.map λx=>jo ln N x (lv+1))=(v.items.map λx=>(([]:Bs),x)).map λkv=>jo ln N kv.2 (lv+1):=by rw[BG];rfl
    have Z:(v.items.map λx=>(([]:Bs),x))≠[]:=λe=>hn (List.map_eq_nil_iff.1 e)
    have hw:(91::Xi ln N lv (v.items.map λx=>jo ln N x (lv+1))++[93]:Bs)=91::w9 ln N lv 93 ((v.items.map λx=>(([]:Bs),x)).map λkv=>jo ln N kv.2 (lv+1)):=by
     rw[AE,zra (by rw[aj];exact λe=>Z (List.map_eq_nil_iff.1 e)),aj]
    rw[hw]at hs ⊢
    have tk:=Qs (c:=91) (by decide) hs
    have aa:s.drop (a+1)=w9 ln N lv 93 ((v.items.map λx=>(([]:Bs),x)).map λkv=>jo ln N kv.2 (lv+1))++r:=by rw[<-Bj,hs];rfl
    obtain⟨T,L,k⟩:=znu (.inl rfl) (K:=KA (PV s d)) (nx:=λhad _=>had) (Fresh:=λ_ _=>True) (P:=λkv=>jo ln N kv.2 (lv+1)) _ [] (a+1) r Z (z3t _ _) (λkv ai=>by
     obtain⟨x,hx,rfl⟩:=Bc.1 ai
     obtain⟨g1,g2,g3⟩:=an x hx
     have ae:=g3
     rw[xt,As]at ae
     refine⟨zvy ae.1,λhad b q _ hb hq=>?_⟩
     obtain⟨T,L,k⟩:=ztn n x (lv+1) d g1 g3 g2 s q b hb hq
     exact⟨T,L,rfl,k⟩) aa
    refine⟨_,by rw[Ap,show a+((w9 ln N lv 93 ((v.items.map λx=>(([]:Bs),x)).map λkv=>jo ln N kv.2 (lv+1))).length+1)=a+1+(w9 ln N lv 93 ((v.items.map λx=>(([]:Bs),x)).map λkv=>jo ln N kv.2 (lv+1))).length from by omega];exact Lex.step tk (yh hs (by simp)) L,?_⟩
    rw[qq (show(2+indexByte yl 91:Int)≠1 by decide)]
    have em:(v.items.map λx=>(([]:Bs),x)).map (·.2)=v.items:=by rw[BG];exact List.map_id _
    refine⟨_,.inr (.inr (.inl ⟨_,_,_,rfl,show(2+indexByte yl 91:Int)=4 by decide,k,?_,?_⟩))⟩
    ·rw[em];exact ev
    ·rw[em,Z2,Nat.add_comm]
  ·rw[if_neg (by omega),if_neg (by omega),if_neg (by omega),if_pos hk]at hs ⊢
   by_cases hn:v.items=[]
   ·have ay:v.keys=[]:=by rw[hn]at aA;exact AO aA
    have ev:v=.mk 6 (bl []) [] []:=by rw[eta,hk,hn,ay,af ht]
    rw[hn,ay]at hs ⊢
    have hs:s.drop a=123::([125]++r):=hs
    have tk:=Qs (c:=123) (by decide) hs
    have aa:s.drop (a+1)=125::r:=by rw[<-Bj,hs];rfl
    have ap:=Qs (c:=125) (by decide) aa
    refine⟨_,Lex.step (b:=a+2) tk (yh hs (by simp)) (Lex.step (T:=[]) ap (yh aa (by simp)) .nil),?_⟩
    rw[qq (show(2+indexByte yl 123:Int)≠1 by decide),qq (show(2+indexByte yl 125:Int)≠1 by decide)]
    exact⟨_,.inr (.inl ⟨_,rfl,.inr ⟨show(2+indexByte yl 123:Int)=2 by decide,show(2+indexByte yl 125:Int)=3 by decide,ev⟩,by rw[Z2,hn];rfl⟩)⟩
   ·obtain⟨kvs,ar⟩:∃kvs:List (Bs×Tr),kvs=(v.keys.map lb).zip v.items:=⟨_,rfl⟩
    have e1:kvs.map (·.1)=v.keys.map lb:=by rw[ar,List.map_fst_zip (by rw[AH];omega)]
    have e2:kvs.map (·.2)=v.items:=by rw[ar,List.map_snd_zip (by rw[AH];omega)]
    have e3:(kvs.map λkv=>bl kv.1)=v.keys:=by
     have:(kvs.map λkv=>bl kv.1)=(kvs.map (·.1)).map bl:=by rw[BG];rfl
     rw[this,e1,BG]
     have:bl ∘ lb=id:=by funext x;exact Y0 x
     rw[this,List.map_id]
    have Z:kvs≠[]:=λe=>hn (by rw[<-e2,e];rfl)
    have aj:List.zipWith (ze9 ln) v.keys (v.items.map λx=>jo ln N x (lv+1))=kvs.map λkv=>ze9 ln (bl kv.1) (jo ln N kv.2 (lv+1)):=by
     rw[ar]
     have:∀(ks:List Bt) (xs:List Tr),List.zipWith (ze9 ln) ks (xs.map λx=>jo ln N x (lv+1))=((ks.map lb).zip xs).map λkv=>ze9 ln (bl kv.1) (jo ln N kv.2 (lv+1)):=by
      intro ks
      induction ks with
      |nil=>intro xs;rfl
      |cons k ks ih=>
       intro xs
       cases xs with
       |nil=>rfl
       |cons x xs=>simp only[Az,List.zipWith_cons_cons,CB,ih,Y0]
     exact this _ _
    have hw:(123::Xi ln N lv (List.zipWith (ze9 ln) v.keys (v.items.map λx=>jo ln N x (lv+1)))++[125]:Bs)=123::w9 ln N lv 125 (kvs.map λkv=>ze9 ln (bl kv.1) (jo ln N kv.2 (lv+1))):=by
     rw[AE,aj,zra (λe=>Z (List.map_eq_nil_iff.1 e))]
    rw[hw]at hs ⊢
    have tk:=Qs (c:=123) (by decide) hs
    have aa:s.drop (a+1)=w9 ln N lv 125 (kvs.map λkv=>ze9 ln (bl kv.1) (jo ln N kv.2 (lv+1)))++r:=by rw[<-Bj,hs];rfl
    unfold xe at ah
    rw[As,AD]at ah
    have aB:(kvs.map (·.1)).Nodup:=by
     rw[e1]
     exact zv0 (of_decide_eq_true ah.2)
    obtain⟨T,L,k⟩:=znu (.inr rfl) (K:=KO s (PV s d)) (nx:=λhad kv=>had++[kv.1]) (Fresh:=λhad kv=>kv.1∉had) (P:=λkv=>ze9 ln (bl kv.1) (jo ln N kv.2 (lv+1))) kvs [] (a+1) r Z (zvz _ _ aB (λ_ _=>by simp)) (λkv ai=>by
     have hx:kv.2∈v.items:=by rw[<-e2];exact Bc.2 ⟨kv,ai,rfl⟩
     have au:jd kv.1=true:=by
      have:kv.1∈v.keys.map lb:=by rw[<-e1];exact Bc.2 ⟨kv,ai,rfl⟩
      obtain⟨q,hq,e⟩:=Bc.1 this
      rw[<-e];exact ah.1 q hq
     obtain⟨g1,g2,g3⟩:=an _ hx
     have az:ze9 ln (bl kv.1) (jo ln N kv.2 (lv+1))=zfa kv.1++58::((if ln then [32]else [])++jo ln N kv.2 (lv+1)):=by unfold ze9;rw[yp,ztm au]
     rw[az]
     refine⟨⟨_,_,rfl,by decide⟩,λhad b q hf hb hq=>?_⟩
     rw[AM]at hb
     have tq:=z3e au hb
     have ak:=zd5 hb
     rw[AE]at ak
     have tc:=Qs (c:=58) (by decide) ak
     have ax:s.drop (b+(zfa kv.1).length+1)=(if ln then [32]else [])++(jo ln N kv.2 (lv+1)++q):=by rw[<-Bj,ak];simp
     have ae:=g3
     rw[xt,As]at ae
     obtain⟨c0,t0,e0,aF⟩:=zvy (ln:=ln) (N:=N) (lv:=lv+1) ae.1
     obtain⟨T1,L1,n1⟩:=zi4 (λc hc=>by
      split at hc
      ·rw[A6.1 hc];decide
      ·cases hc) (λc hc=>by
      rw[e0]at hc
      have hc:some c0=some c:=hc
      rw[<-Au hc];exact aF) ax
     have aC:=zd5 ax
     obtain⟨T2,L2,k2⟩:=ztn n kv.2 (lv+1) d g1 g3 g2 s q _ aC hq
     have sl:=znv hb (by unfold zfa;simp)
     refine⟨(8,((b:Int),((b+(zfa kv.1).length:Nat):Int)))::(2+indexByte yl 58,(((b+(zfa kv.1).length:Nat):Int),((b+(zfa kv.1).length+1:Nat):Int)))::(T1++T2),?_,?_⟩
     ·refine Lex.step tq (yh hb (by unfold zfa;simp)) (Lex.step tc (yh ak (by simp)) ?_)
      have:=L1.append L2
      simp only[Ag,Ap]at this ⊢
      rw[show b+((zfa kv.1).length+((if ln=true then [32]else []:Bs).length+(jo ln N kv.2 (lv+1)).length+1))=b+(zfa kv.1).length+1+(if ln=true then [32]else []:Bs).length+(jo ln N kv.2 (lv+1)).length from by omega]
      exact this
     ·rw[qq (show(8:Int)≠1 by decide),qq (show(2+indexByte yl 58:Int)≠1 by decide),jq,n1,A8]
      exact⟨_,_,_,rfl,rfl,show(2+indexByte yl 58:Int)=7 by decide,by dsimp only;rw[sl.2,zvq au],by dsimp only;rw[sl.1,sl.2],hf,rfl,k2⟩) aa
    refine⟨_,by rw[Ap,show a+((w9 ln N lv 125 (kvs.map λkv=>ze9 ln (bl kv.1) (jo ln N kv.2 (lv+1)))).length+1)=a+1+(w9 ln N lv 125 (kvs.map λkv=>ze9 ln (bl kv.1) (jo ln N kv.2 (lv+1)))).length from by omega];exact Lex.step tk (yh hs (by simp)) L,?_⟩
    rw[qq (show(2+indexByte yl 123:Int)≠1 by decide)]
    refine⟨_,.inr (.inr (.inr ⟨_,_,_,rfl,show(2+indexByte yl 123:Int)=2 by decide,k,?_,?_⟩))⟩
    ·rw[e2,e3,eta,hk,af ht]
    ·rw[e2,Z2,Nat.add_comm]
theorem znx(hr:ye v=true)(hl:(jo ln N v 0).length<=65536):∃n:Int,Qf (jo ln N v 0)=(v,n,0):=by
 unfold ye Q9 at hr
 simp only[As,decide_eq_true_eq]at hr
 obtain⟨T,L,k⟩:=ztn (ln:=ln) (N:=N) (tsz v) v 0 32 (Ac _) hr.2 hr.1.2 (jo ln N v 0) [] 0 (by simp) zvw
 rw[AK]at L
 exact⟨_,qfe hl L k hr.1.1⟩
end
section
variable {xs ys:List Tr} {α:Type} {v:Tr}
theorem z3u(h:xs.Perm ys):Yf xs=Yf ys:=by
 induction h with
 |nil=>rfl
 |cons x _ ih=>rw[Yf,Yf,ih]
 |swap x y l=>simp only[Yf];omega
 |trans _ _ a b=>rw[a,b]
theorem z3v(h:xs.Perm ys):X6 xs=X6 ys:=by
 induction h with
 |nil=>rfl
 |cons x _ ih=>rw[X6,X6,ih]
 |swap x y l=>simp only[X6];omega
 |trans _ _ a b=>rw[a,b]
theorem z7r{xs ys:List Nat}(h:xs.Perm ys):xs.sum=ys.sum:=by
 induction h with
 |nil=>rfl
 |cons x _ ih=>rw[List.sum_cons,List.sum_cons,ih]
 |swap x y l=>simp only[List.sum_cons];omega
 |trans _ _ a b=>rw[a,b]
theorem zny{p:α->Bool}{xs ys:List α}(h:xs.Perm ys):xs.all p=ys.all p:=by
 rw[AJ,AD,AD]
 exact⟨λa x hx=>a x (h.mem_iff.2 hx),λa x hx=>a x (h.mem_iff.1 hx)⟩
theorem zi5:∀(ks:List Bt) (ys:List Tr),ks.Nodup->ks.length=ys.length->(ks.map λq=>(q,zvt (ks.zip ys) q))=ks.zip ys
 |[],ys,_,_=>by simp
 |k::ks,[],_,h=>by simp at h
 |k::ks,y::ys,hn,h=>by
  rw[BE]at hn
  rw[Az,CB]
  congr 1
  ·rw[zvt,if_pos rfl]
  ·rw[<-zi5 ks ys hn.2 (by simpa using h)]
   refine List.map_congr_left λq hq=>?_
   have:k≠q:=λe=>hn.1 (e ▸ hq)
   rw[zvt,if_neg this]
   congr 2
   exact zi5 ks ys hn.2 (by simpa using h)
structure SrtF (v w:Tr):Prop where
 k:w.kind=v.kind
 t:w.text=v.text
 kp:w.keys.Perm v.keys
 ip:w.items.Perm (v.items.map qa)
 zp:(w.keys.zip w.items).Perm (v.keys.zip (v.items.map qa))
theorem z7s(hv:qe v=true)(h6:v.kind≠6):v.keys=[]:=by
 unfold qe at hv
 simp only[h6,if_false]at hv
 by_cases h1:v.kind=1
 ·simp[h1]at hv;exact hv.1.2
 ·by_cases h2:v.kind=2
  ·simp[h2]at hv;exact hv.1.2
  ·by_cases h3:v.kind=3
   ·simp[h3]at hv;exact hv.1.2
   ·by_cases h4:v.kind=4
    ·simp[h4]at hv;exact hv.1.2
    ·by_cases h5:v.kind=5
     ·simp[h5]at hv;exact hv.2
     ·by_cases h7:v.kind=7
      ·simp[h7]at hv;exact hv.1.2
      ·simp[h1,h2,h3,h4,h5,h7]at hv
theorem z7t(hv:qe v=true)(h6:v.kind=6):v.keys.Nodup/\v.keys.length=v.items.length:=by
 unfold qe xe at hv
 simp[h6]at hv
 exact⟨hv.1.1.2,hv.1.2⟩
theorem qfh(hv:qe v=true):SrtF v (qa v):=by
 rw[zfd]
 by_cases h6:v.kind=6
 ·rw[if_pos h6]
  obtain⟨hn,hl⟩:=z7t hv h6
  have hz:=zi5 v.keys (v.items.map qa) hn (by rw[AH];exact hl)
  have hp:=(Jt v.keys).map λq=>(q,zvt (v.keys.zip (v.items.map qa)) q)
  rw[hz]at hp
  have e:∀l:List Bt,l.zip (l.map λq=>zvt (v.keys.zip (v.items.map qa)) q)=l.map λq=>(q,zvt (v.keys.zip (v.items.map qa)) q):=by
   intro l
   induction l with
   |nil=>rfl
   |cons x l ih=>rw[Az,CB,ih,Az]
  refine⟨rfl,rfl,Jt _,?_,?_⟩
  ·have:=hp.map (·.2)
   rw[BG,List.map_snd_zip (by rw[AH];omega)]at this
   exact this
  ·show((w8 v.keys).zip _).Perm _
   rw[e];exact hp
 ·rw[if_neg h6]
  have hk:=z7s hv h6
  exact⟨rfl,rfl,by rw[hk],.refl _,by rw[hk]⟩
theorem Wz{a:List α}:a.isEmpty=decide (a.length=0):=by cases a <;> simp
theorem zto{a b:List Bt}(h:a.Perm b):xe a=xe b:=by
 unfold xe
 rw[zny h]
 congr 1
 rw[AJ,decide_eq_true_eq,decide_eq_true_eq]
 exact h.nodup_iff
theorem zrc{v w:Tr}(h1:w.kind=v.kind)(h2:w.text=v.text)(h3:w.keys.length=v.keys.length)(h4:w.items.length=v.items.length)(h5:xe w.keys=xe v.keys):qe w=qe v:=by
 unfold qe
 rw[h1,h2,h5,Wz,Wz,Wz,Wz,h3,h4]
theorem zrd(ln:Bool)(nd lv:Nat)(ps:List Bs):(Zc ln nd lv ps).length+(if ps=[]then 0 else 1)=(ps.map λp=>p.length+(1+(yv ln nd lv).length)).sum:=by
 cases ps with
 |nil=>rfl
 |cons p ps=>
  have:∀qs:List Bs,(qs.flatMap λq=>44::(yv ln nd lv++q)).length=(qs.map λp=>p.length+(1+(yv ln nd lv).length)).sum:=by
   intro qs
   induction qs with
   |nil=>rfl
   |cons q qs ih=>rw[List.flatMap_cons,Ag,ih,Az,List.sum_cons];simp;omega
  rw[Zc,Ag,Ag,this,Az,List.sum_cons,if_neg (by simp)];omega
theorem zre{ln:Bool}{nd lv:Nat}{ps qs:List Bs}(h:(ps.map Cr).Perm (qs.map Cr)):(Xi ln nd lv ps).length=(Xi ln nd lv qs).length:=by
 have e:(ps=[])↔(qs=[]):=by
  have:=h.length_eq
  rw[AH,AH]at this
  rw[<-A7,<-A7,this]
 have h1:=zrd ln nd (lv+1) ps
 have h2:=zrd ln nd (lv+1) qs
 have h3:=z7r (h.map λn=>n+(1+(yv ln nd (lv+1)).length))
 rw[BG,BG]at h3
 have h3:(ps.map λp=>p.length+(1+(yv ln nd (lv+1)).length)).sum=(qs.map λp=>p.length+(1+(yv ln nd (lv+1)).length)).sum:=h3
 unfold Xi
 rw[Ag,Ag]
 by_cases hp:ps=[]
 ·rw[if_pos hp]at h1 ⊢
  rw[if_pos (e.1 hp)]at h2 ⊢
  omega
 ·rw[if_neg hp]at h1 ⊢
  rw[if_neg (λq=>hp (e.2 q))]at h2 ⊢
  omega
theorem zi6{α β γ:Type}(f:α->β->γ):∀(a:List α) (b:List β),List.zipWith f a b=(a.zip b).map λp=>f p.1 p.2
 |[],_=>by simp
 |_::_,[]=>by simp
 |x::a,y::b=>by rw[List.zipWith_cons_cons,CB,Az,zi6 f a b]
structure SrtG (v:Tr):Prop where
 sz:tsz (qa v)=tsz v
 dp:tdp (qa v)=tdp v
 okv:zb9 okV (qa v)=zb9 okV v
 nok:zb9 qe (qa v)=true
 tx:∀m,txB m v->txB m (qa v)
 len:∀(ln:Bool) (N lv:Nat),(jo ln N (qa v) lv).length=(jo ln N v lv).length
theorem zv1{f:Tr->Tr}:∀{l:List Tr},(∀x∈l,tsz (f x)=tsz x)->Yf (l.map f)=Yf l
 |[],_=>rfl
 |x::l,h=>by rw[Az,Yf,Yf,h x Aj,zv1 λy hy=>h y (Ae _ hy)]
theorem zv2{f:Tr->Tr}:∀{l:List Tr},(∀x∈l,tdp (f x)=tdp x)->X6 (l.map f)=X6 l
 |[],_=>rfl
 |x::l,h=>by rw[Az,X6,X6,h x Aj,zv2 λy hy=>h y (Ae _ hy)]
theorem zd6:∀(n:Nat) (v:Tr),tsz v<=n->zb9 qe v=true->SrtG v
 |0,v,h,_=>by have:=zcb v;omega
 |n+1,v,hz,hok=>by
  rw[xt,As,xu,AD]at hok
  obtain⟨hv,hk⟩:=hok
  have S:=qfh hv
  have ih:∀x∈v.items,SrtG x:=λx hx=>zd6 n x (by have:=wv hx;omega) (hk x hx)
  have nk:qe (qa v)=qe v:=zrc S.k S.t S.kp.length_eq (by rw[S.ip.length_eq,AH]) (zto S.kp)
  refine⟨?_,?_,?_,?_,λm h=>?_,λln N lv=>?_⟩
  ·rw[Z2,Z2 v,z3u S.ip,zv1 λx hx=>(ih x hx).sz]
  ·rw[zpu,zpu v,z3v S.ip,zv2 λx hx=>(ih x hx).dp]
  ·rw[xt,xt _ v,xu,xu,zny S.ip,List.all_map]
   have e1:okV (qa v)=okV v:=by unfold okV;rw[nk,S.k]
   rw[e1]
   congr 1
   rw[AJ,AD,AD]
   exact⟨λa x hx=>by rw[<-(ih x hx).okv];exact a x hx,λa x hx=>by
    show zb9 okV (qa x)=true
    rw[(ih x hx).okv];exact a x hx⟩
  ·rw[xt,nk,hv,BZ,xu,zny S.ip,List.all_map,AD]
   exact λx hx=>(ih x hx).nok
  ·rw[zk8]at h ⊢
   obtain⟨⟨h1,h2,h3⟩,h4⟩:=h
   refine⟨⟨by rw[S.t];exact h1,by rw[S.kp.length_eq];exact h2,λk hk=>h3 k (S.kp.mem_iff.1 hk)⟩,zgn.2 λx hx=>?_⟩
   obtain⟨y,hy,rfl⟩:=Bc.1 (S.ip.mem_iff.1 hx)
   exact(ih y hy).tx m (zgn.1 h4 y hy)
  ·rw[zcv,zcv (v:=v),S.k,S.t]
   split
   ·rfl
   ·split
    ·rfl
    ·split
     ·simp only[Ag,Ap]
      congr 2
      refine zre ?_
      rw[BG,BG]
      have h1:=S.ip.map λx=>(jo ln N x (lv+1)).length
      rw[BG]at h1
      refine h1.trans ?_
      have:v.items.map ((λx=>(jo ln N x (lv+1)).length) ∘ qa)=v.items.map (Cr ∘ λx=>jo ln N x (lv+1)):=List.map_congr_left λx hx=>(ih x hx).len ln N (lv+1)
      rw[this]
     ·split
      ·simp only[Ag,Ap]
       congr 2
       refine zre ?_
       have conv:∀(ks:List Bt) (xs:List Tr),(List.zipWith (ze9 ln) ks (xs.map λx=>jo ln N x (lv+1))).map Cr=(ks.zip xs).map λp=>(ze9 ln p.1 (jo ln N p.2 (lv+1))).length:=by
        intro ks xs
        rw[zi6,List.zip_map_right,BG,BG]
        rfl
       rw[conv,conv]
       have h1:=S.zp.map λp=>(ze9 ln p.1 (jo ln N p.2 (lv+1))).length
       refine h1.trans ?_
       rw[List.zip_map_right,BG]
       have:(v.keys.zip v.items).map ((λp=>(ze9 ln p.1 (jo ln N p.2 (lv+1))).length) ∘ Prod.map id qa)=(v.keys.zip v.items).map λp=>(ze9 ln p.1 (jo ln N p.2 (lv+1))).length:=List.map_congr_left λp hp=>by
        have:=(ih p.2 (List.of_mem_zip hp).2).len ln N (lv+1)
        show(ze9 ln p.1 (jo ln N (qa p.2) (lv+1))).length=_
        unfold ze9
        simp only[Ag,Ap,this]
       rw[this]
      ·rfl
theorem zrf(h:X7 v=true):ye (qa v)=ye v:=by
 unfold X7 at h
 rw[As]at h
 have S:=zd6 (tsz v) v (Ac _) h.2
 have e:∀w:Tr,ye w=(Q9 w&&zb9 okV w):=λw=>rfl
 rw[e,e,S.okv]
 unfold Q9
 rw[S.sz,S.dp]
theorem zlq(h:ye v=true):X7 v=true:=by
 have e:ye v=(Q9 v&&zb9 okV v):=rfl
 rw[e,As]at h
 unfold X7
 rw[h.1,BZ]
 exact zd3 (λx hx=>by unfold okV at hx;rw[As]at hx;exact hx.2) v h.2
theorem z3w(h:Sm v):Sm (ji v):=by
 unfold ji
 by_cases ho:X7 v=true
 ·rw[if_pos ho]
  unfold X7 at ho
  rw[As]at ho
  have S:=zd6 (tsz v) v (Ac _) ho.2
  exact⟨by rw[S.sz];exact h.sz,S.tx _ h.tx⟩
 ·rw[if_neg ho]
  exact⟨by decide,by rw[zk8];exact⟨⟨by decide,by decide,by decide⟩,trivial⟩⟩
theorem zai:ye (ji v)=ye v:=by
 unfold ji
 by_cases ho:X7 v=true
 ·rw[if_pos ho];exact zrf ho
 ·rw[if_neg ho]
  cases hr:ye v with
  |true=>exact absurd (zlq hr) ho
  |false=>rfl
theorem zx4(hr:ye v=true):(jo false 0 (ji v) 0).length=(jo false 0 v 0).length:=by
 have ho:=zlq hr
 unfold ji
 rw[if_pos ho]
 unfold X7 at ho
 rw[As]at ho
 exact(zd6 (tsz v) v (Ac _) ho.2).len _ _ _
end
end Go.X
end
section
namespace Go.X
open Go Go.X Go.Proofs Go.RowKit
section
variable {gl:Fr} {v:Tr}
set_option maxRecDepth 100000 in
theorem zrg(hg:GL gl)(hv:Sm v){R:Tr->Prop}(hR:R (ji v)):PC Tp gl 37 [Arg.mk .tree v] [.tree] R:=by
 intro h M vs hM ag ha
 match vs,ha with
 |[u],⟨hu,_⟩=>
  have hu:RdV M .tree v u:=hu
  have aj:=hu
  obtain⟨sk,si,rfl,rk,ri⟩:=wn hu
  apply PX.of
  apply ziw v.kind v.text sk si
  intro h1
  have k1:Keep h.size h h1:=Keep.push _ _ (Ac _)
  have z1:h1.size=h.size+1:=Am _
  have B1:Blk h1 h.size #[.int .i64 v.kind,.string v.text,slV sk,slV si]:=Blk.new _ _ _
  clear_value h1
  intro h2
  have k2:Keep h1.size h1 h2:=Keep.push _ _ (Ac _)
  have z2:h2.size=h1.size+1:=Am _
  have R2:Blk h2 h1.size #[.int .i64 0,.string ⟨#[]⟩,.slice none 0 0,.slice none 0 0]:=Blk.new _ _ _
  clear_value h2
  have B2:=B1.ofKeep k2
  have ak:Keep h.size h h2:=k1.trans k2 (by omega)
  have L2:Later h M h2 M:=Later.same ag ak
  refine⟨v.kind,v.text,sk,si,B2.ld (cs:=[_,_,slV sk,slV si]),?_⟩
  refine(qa7 hg hv (R:=λr=>r=X7 v) rfl).go (vs:=[.agg #[.int .i64 v.kind,.string v.text,slV sk,slV si]]) hM L2.ag (yj aj jy) λw h8 M8 r L8 ah hr=>?_
  subst hr
  have z8:=L8.keep.size
  have R8:=R2.keep (L8.keep.get h1.size (by omega))
  have B8:=B2.keep (L8.keep.get h.size (by omega))
  have nR:M8 h1.size=none:=by rw[L8.old _ (by omega)];exact ag.none (by omega)
  have af:=L2.trans L8
  have aa:∀{g g':za} {M':Fr},Later h M g M'->M' h1.size=none->(∀j,j≠h1.size->g'[j]?=g[j]?)->g'.size=g.size->Later h M g' M':=λ {g g' M'} L hn f z=>⟨⟨by have:=L.keep.size;omega,λj hj=>by rw[f j (by omega)];exact L.keep.get j hj⟩,L.le,L.old,λc cs e=>by
   rw[f c (λh=>by subst h;rw[hn]at e;cases e)]
   exact L.ag c cs e⟩
  refine⟨_,zn1 ah,λhx=>?_,λhx=>?_⟩
  ·have hx:X7 v=false:=by simpa using hx
   unfold ji at hR
   rw[if_neg (by rw[hx];simp)]at hR
   refine Yd (k:=0) (s:=⟨#[]⟩) (sk:=⟨none,0,0⟩) (si:=⟨none,0,0⟩) R8 λg f z B=>⟨_,_,_,_,B.ld (cs:=[.int .i64 0,.string ⟨#[]⟩,slV ⟨none,0,0⟩,slV ⟨none,0,0⟩]),?_⟩
   exact⟨M8,_,aa af nR f z,zdo.2 (jz (v:=.mk 0 (bl []) [] []) z2j z2j),hR⟩
  ·have hx:X7 v=true:=by simpa using hx
   unfold ji at hR
   rw[if_pos hx]at hR
   unfold X7 Q9 at hx
   simp only[As,decide_eq_true_eq]at hx
   refine⟨v.kind,v.text,sk,si,B8.ld (cs:=[_,_,slV sk,slV si]),?_⟩
   refine(zvv (tsz v) v (by omega) (Ac _) hx.2 hv h8 M8 _ L8.ag (RdV.mono L8.le aj)).go λw an ae q Z ab hq=>?_
   subst hq
   obtain⟨xk,xi,rfl,y1,y2⟩:=wn (zdo.1 ab)
   have am:=Z.keep.size
   refine⟨_,_,xk,xi,rfl,?_⟩
   refine Yd (R8.keep (Z.keep.get h1.size (by omega))) λg f z B=>⟨_,_,xk,xi,B.ld (cs:=[_,_,slV xk,slV xi]),?_⟩
   have ai:ae h1.size=none:=by rw[Z.old _ (by omega)];exact nR
   exact⟨ae,_,aa (af.trans Z) ai f z,zdo.2 (jz y1 y2),hR⟩
theorem z7u(hg:GL gl)(hb:Brn gl)(hv:Sm v){R:Bt×Int->Prop}(hR:R (zfc (ji v))):PC Tp gl 35 [Arg.mk .tree v] [.str,.int .i64] R:=by
 intro h M vs hM ag ha
 match vs,ha with
 |[u],⟨hu,_⟩=>
  have hu:RdV M .tree v u:=hu
  have af:=hu
  obtain⟨sk,si,rfl,rk,ri⟩:=wn hu
  apply PX.of
  apply zj1 v.kind v.text sk si
  intro h1
  have L1:Later h M h1 M:=Later.push ag _
  have B1:Blk h1 h.size #[.int .i64 v.kind,.string v.text,slV sk,slV si]:=Blk.new _ _ _
  clear_value h1
  refine⟨v.kind,v.text,sk,si,B1.ld (cs:=[_,_,slV sk,slV si]),?_⟩
  refine(zrg hg hv (R:=λr=>r=ji v) rfl).go (vs:=[.agg #[.int .i64 v.kind,.string v.text,slV sk,slV si]]) (hM.trans L1.le) L1.ag (yj (RdV.mono L1.le af) jy) λw h7 M7 r L7 Z hr=>?_
  subst hr
  obtain⟨xk,xi,rfl,y1,y2⟩:=wn (zdo.1 Z)
  refine⟨_,_,xk,xi,rfl,?_⟩
  have aa:=L1.trans L7
  refine(zln hg hb (z3w hv) (R:=λr=>r=zfc (ji v)) rfl).go (vs:=[.agg #[.int .i64 (ji v).kind,.string (ji v).text,slV xk,slV xi]]) (hM.trans aa.le) L7.ag (yj (jz y1 y2) jy) λw ah ab r ae Z hr=>?_
  subst hr
  obtain⟨ws,⟨w1,_,rfl,e1,w2,rfl,e2⟩,rfl⟩:=Z
  obtain rfl:=Ql e1
  obtain rfl:=qo e2
  exact⟨_,_,rfl,ab,_,aa.trans ae,zq5 _ _,hR⟩
end
end Go.X
end
section
namespace Go.X
section
theorem Xj(gl:Fr)(s0:Bt)(v1:Tr)(Z:Int)(R:Bool->Prop)
  (H:PC Tp gl 13 [] [.bool] (λa:Bool=>PC Tp gl 32 [Arg.mk .tree (Tr.mk v1.kind v1.text v1.keys v1.items),Arg.mk (.int .i64) 300] [.bool] (λb:Bool=>((bif (decide ((s0.size:Int)>4096))then true else(!b))=true->R a)/\((bif (decide ((s0.size:Int)>4096))then true else(!b))=false->PC Tp gl 15 [Arg.mk .str s0] [.tree,.int .i64,.int .i64] (λc:Tr×Int×Int=>∃d:Bool->Prop,((c.2.2==0)=true->PC Tp gl 33 [Arg.mk .tree (Tr.mk c.1.kind c.1.text c.1.keys c.1.items)] [.bool] d)/\∀e:Bool,((c.2.2==0)=true->d e)->((bif (bif (c.2.2==0)then(!e)else false)then true else(bif (c.2.2 != 0)then(c.1.kind != 0)else false))=true->R false)/\((bif (bif (c.2.2==0)then(!e)else false)then true else(bif (c.2.2 != 0)then(c.1.kind != 0)else false))=false->PC Tp gl 34 [Arg.mk .tree (Tr.mk v1.kind v1.text v1.keys v1.items)] [.str,.int .i64] (λf:Bt×Int=>PC Tp gl 35 [Arg.mk .tree (Tr.mk v1.kind v1.text v1.keys v1.items)] [.str,.int .i64] (λg:Bt×Int=>PC Tp gl 36 [Arg.mk .tree (Tr.mk v1.kind v1.text v1.keys v1.items),Arg.mk (.int .i64) (Aa .i64 (((Ao (Ak .i64) Z) &&& (Ao (Ak .i64) 7)).toNat:Int)),Arg.mk (.int .i64) 0] [.str,.int .i64] (λi:Bt×Int=>((bif (bif (f.2 != 0)then true else(decide ((i.1.size:Int)>65536)))then true else(decide ((f.1.size:Int)>65536)))=true->R (bif (bif a then(f.2==g.2)else false)then(g.2==i.2)else false))/\((bif (bif (f.2 != 0)then true else(decide ((i.1.size:Int)>65536)))then true else(decide ((f.1.size:Int)>65536)))=false->PC Tp gl 15 [Arg.mk .str f.1] [.tree,.int .i64,.int .i64] (λj:Tr×Int×Int=>PC Tp gl 15 [Arg.mk .str g.1] [.tree,.int .i64,.int .i64] (λk:Tr×Int×Int=>PC Tp gl 15 [Arg.mk .str i.1] [.tree,.int .i64,.int .i64] (λl:Tr×Int×Int=>∃m:Bool->Prop,((bif (bif (bif (bif (bif a then(g.2==0)else false)then(i.2==0)else false)then(j.2.2==0)else false)then(k.2.2==0)else false)then(l.2.2==0)else false)=true->PC Tp gl 16 [Arg.mk .tree (Tr.mk j.1.kind j.1.text j.1.keys j.1.items),Arg.mk .tree (Tr.mk v1.kind v1.text v1.keys v1.items)] [.bool] m)/\∀n:Bool,((bif (bif (bif (bif (bif a then(g.2==0)else false)then(i.2==0)else false)then(j.2.2==0)else false)then(k.2.2==0)else false)then(l.2.2==0)else false)=true->m n)->∃o:Tr->Prop,((bif (bif (bif (bif (bif (bif a then(g.2==0)else false)then(i.2==0)else false)then(j.2.2==0)else false)then(k.2.2==0)else false)then(l.2.2==0)else false)then n else false)=true->PC Tp gl 37 [Arg.mk .tree (Tr.mk v1.kind v1.text v1.keys v1.items)] [.tree] o)/\∀p:Tr,((bif (bif (bif (bif (bif (bif a then(g.2==0)else false)then(i.2==0)else false)then(j.2.2==0)else false)then(k.2.2==0)else false)then(l.2.2==0)else false)then n else false)=true->o p)->∃q:Bool->Prop,((bif (bif (bif (bif (bif (bif a then(g.2==0)else false)then(i.2==0)else false)then(j.2.2==0)else false)then(k.2.2==0)else false)then(l.2.2==0)else false)then n else false)=true->PC Tp gl 16 [Arg.mk .tree (Tr.mk k.1.kind k.1.text k.1.keys k.1.items),Arg.mk .tree (Tr.mk p.kind p.text p.keys p.items)] [.bool] q)/\∀r:Bool,((bif (bif (bif (bif (bif (bif a then(g.2==0)else false)then(i.2==0)else false)then(j.2.2==0)else false)then(k.2.2==0)else false)then(l.2.2==0)else false)then n else false)=true->q r)->∃s:Bool->Prop,((bif (bif (bif (bif (bif (bif (bif a then(g.2==0)else false)then(i.2==0)else false)then(j.2.2==0)else false)then(k.2.2==0)else false)then(l.2.2==0)else false)then n else false)then r else false)=true->PC Tp gl 16 [Arg.mk .tree (Tr.mk l.1.kind l.1.text l.1.keys l.1.items),Arg.mk .tree (Tr.mk v1.kind v1.text v1.keys v1.items)] [.bool] s)/\∀t:Bool,((bif (bif (bif (bif (bif (bif (bif a then(g.2==0)else false)then(i.2==0)else false)then(j.2.2==0)else false)then(k.2.2==0)else false)then(l.2.2==0)else false)then n else false)then r else false)=true->s t)->R (bif (bif (bif (bif (bif (bif (bif (bif a then(g.2==0)else false)then(i.2==0)else false)then(j.2.2==0)else false)then(k.2.2==0)else false)then(l.2.2==0)else false)then n else false)then r else false)then t else false)))))))))))))):
  PC Tp gl 7 [Arg.mk .str s0,Arg.mk .tree v1,Arg.mk (.int .i64) Z] [.bool] R:=
 PF ⟨[],[(16,35,[],[0,1,2,3,4,5,6,7,8,9,10,11,12,13,14,15,16,17,18,19,20,21,22,23,24,25,26,27,28,29,30,31,32,33,34],[])],[],[]⟩ [.tmp 6] 155 Tryz.func7 H
end
end Go.X
end
section
namespace Go.X
open Go Go.X Go.Proofs Go.RowKit
section
theorem qix(i:Int):0<=Aa .i64 (((Ao (Ak .i64) i) &&& (Ao (Ak .i64) 7)).toNat:Int)/\Aa .i64 (((Ao (Ak .i64) i) &&& (Ao (Ak .i64) 7)).toNat:Int)<=7:=by
 have h:((Ao (Ak .i64) i) &&& (Ao (Ak .i64) 7)).toNat<=7:=by
  rw[BitVec.toNat_and]
  exact CV Nat.and_le_right (by decide)
 rw[w64 (by omega)];omega
set_option maxRecDepth 100000 in
theorem z7v{gl:Fr}(hg:GL gl)(hb:Brn gl){sb:Bt}{v:Tr}{i:Int}{R:Bool->Prop}(hR:R true):PC Tp gl 7 [Arg.mk .str sb,Arg.mk .tree v,Arg.mk (.int .i64) i] [.bool] R:=by
 obtain⟨s,rfl⟩:∃s:Bs,sb=bl s:=⟨lb sb,(Y0 sb).symm⟩
 apply Xj
 simp only[W7]
 refine(z2q hg).mono λr hr=>?_
 have hr:r=true:=hr
 subst hr
 refine qd8 (by decide) λb ae=>⟨λ_=>hR,λhc=>?_⟩
 have ab:b=true:=by
  simp only[Bool.cond_eq_ite]at hc
  split at hc
  ·cases hc
  ·simpa using hc
 have hv:=(ae ab).2
 have Z:(Qf s).2.2=0->ye (Qf s).1=true/\Sm (Qf s).1:=λh=>by
  have he:(Z8 s).2.2=0:=by
   unfold Qf at h
   split at h
   ·assumption
   ·exact h
  obtain⟨g1,_,g3⟩:=z2y he
  have aa:(Qf s).1=j6 s (Z8 s).1.2 33 0:=by unfold Qf;rw[if_pos he]
  rw[aa];exact⟨g1,g3⟩
 have af:(Qf s).2.2≠0->(Qf s).1.kind=0:=λh=>by
  unfold Qf at h ⊢
  split at h
  ·exact absurd rfl h
  ·rename_i hx;rw[if_neg hx]
 refine ziu hg ⟨λb=>b=true,λhe=>zi0 hg (Z (eq_of_beq he)).2 (Z (eq_of_beq he)).1,λr5 h5=>⟨λhx=>?_,λ_=>?_⟩⟩
 ·exfalso
  by_cases he:(Qf s).2.2=0
  ·have h5:=h5 (by rw[he];rfl)
   subst h5
   simp[he]at hx
  ·simp[he,af he]at hx
 refine zln hg hb hv (z7u hg hb hv (z3k hg hb hv ?_))
 obtain⟨i1,i2⟩:=qix i
 generalize Aa .i64 (((Ao (Ak .i64) i) &&& (Ao (Ak .i64) 7)).toNat:Int)=k at i1 i2
 cases hr:ye v with
 |false=>
  have e1:zfc v=(⟨#[]⟩,1):=by unfold zfc;rw[if_neg (by rw[hr];simp)]
  have e2:zfc (ji v)=(⟨#[]⟩,1):=by unfold zfc;rw[if_neg (by rw[zai,hr];simp)]
  have e3:zcw v k 0=(⟨#[]⟩,1):=by unfold zcw;rw[if_neg (by rw[hr];simp)]
  rw[e1,e2,e3]
  exact⟨λ_=>hR,λhx=>by cases hx⟩
 |true=>
  have e1:zfc v=(bl (jo false 0 v 0),0):=by unfold zfc;rw[if_pos hr]
  have e2:zfc (ji v)=(bl (jo false 0 (ji v) 0),0):=by unfold zfc;rw[if_pos (by rw[zai,hr])]
  have e3:zcw v k 0=(bl (jo true k.toNat v 0),0):=by unfold zcw;rw[if_pos ⟨hr,by omega,by omega,by omega,by omega⟩];rfl
  rw[e1,e2,e3]
  dsimp only
  refine⟨λ_=>hR,λhx=>?_⟩
  have s1:((bl (jo false 0 v 0)).size:Int)=((jo false 0 v 0).length:Int):=by rw[<-zhz,yp]
  have s3:((bl (jo true k.toNat v 0)).size:Int)=((jo true k.toNat v 0).length:Int):=by rw[<-zhz,yp]
  rw[s1,s3]at hx
  have hl:(jo true k.toNat v 0).length<=65536/\(jo false 0 v 0).length<=65536:=by
   simp only[bne_self_eq_false,cond_false,Ca,BX,decide_eq_false_iff_not]at hx
   omega
  obtain⟨n1,r1⟩:=znx (ln:=false) (N:=0) hr hl.2
  obtain⟨n2,r2⟩:=znx (ln:=false) (N:=0) (v:=ji v) (by rw[zai,hr]) (by rw[zx4 hr];exact hl.2)
  obtain⟨n3,r3⟩:=znx (ln:=true) (N:=k.toNat) hr hl.1
  refine ziu hg (ziu hg (ziu hg ?_))
  rw[r1,r2,r3]
  dsimp only
  refine⟨λb=>b=true,λ_=>zp0 _ _ λb hb=>hb.2 rfl,λb hb=>?_⟩
  have hb:=hb rfl
  subst hb
  refine⟨λw=>w=ji v,λ_=>zrg hg hv rfl,λw hw=>?_⟩
  have hw:=hw rfl
  subst hw
  refine⟨λb=>b=true,λ_=>zp0 _ _ λb hb=>hb.2 rfl,λb hb=>?_⟩
  have hb:=hb rfl
  subst hb
  refine⟨λb=>b=true,λ_=>zp0 _ _ λb hb=>hb.2 rfl,λb hb=>?_⟩
  have hb:=hb rfl
  subst hb
  exact hR
end
end Go.X
end
