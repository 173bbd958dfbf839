/- A part of the proof: nothing is stated here for its own sake. -/
import Derived.Test.YtjohlemfgcmaoaaGreatDoorPqD
import Derived.Lib.AppendZerosOnto
import Derived.RangeFuncCalls
open _root_.Go.Addr renaming add->Ai
open _root_.Array renaming getD_eq_getD_getElem?->BB,getElem?_append_left->CI,getElem?_eq_getElem->A0,getElem?_eq_some_iff->Ad,getElem?_push->BV,getElem?_setIfInBounds_ne->AC,getElem?_setIfInBounds_self_of_lt->Cn,getElem?_toList->BP,length_toList->CM,push->CZ,replicate->Bn,size->AR,size_push->Am,size_setIfInBounds->AU
open _root_.Bool renaming and_eq_false_iff->Cz,and_eq_true->As,and_true->Dg,eq_iff_iff->AJ,false_eq_true->A5,false_or->Du,or_eq_false_iff->BX,or_eq_true->Br
open _root_.Go.Builtin renaming append_->AB
open _root_.Go.Code renaming cond->Ej,region->Eo
open _root_.Go.Deferred renaming ofValue->DL
open _root_.False renaming elim->Dr
open _root_.Go.Instr renaming storeAt->An
open _root_.Int renaming toNat_natCast->Al
open _root_.Go.IntKind renaming wrap->Aa
open _root_.List renaming all_cons->C5,all_eq_true->AD,append_assoc->AM,append_nil->A3,cons_append->AE,drop_drop->Bj,drop_eq_getElem_cons->Ba,drop_eq_nil_of_le->BL,drop_zero->Cc,exists_cons_of_ne_nil->A9,ext_getElem?->BC,getElem?_append_left->Bv,getElem?_append_right->Bi,getElem?_drop->AQ,getElem?_eq_getElem->Aq,getElem?_eq_none->BS,getElem?_eq_some_iff->AF,getElem?_map->BN,getElem?_modify->BF,getElem?_take->AL,getElem_append_left->De,getElem_append_right->Db,getElem_map->DR,getElem_mem->AN,length->Cr,length_append->Ag,length_cons->Ap,length_drop->AI,length_eq_zero_iff->A7,length_map->AH,length_nil->AZ,length_pos_iff->Bf,length_take->Bb,map_append->BW,map_cons->Az,map_nil->Cm,mem_append->Aw,mem_append_left->Ar,mem_append_right->Ay,mem_cons->Af,mem_cons_of_mem->Ae,mem_cons_self->Aj,mem_flatMap->CF,mem_of_getElem?->Bh,mem_range->Bw,mem_singleton->A6,nil_append->A8,nodup_append->CG,nodup_nil->Di,not_mem_nil->DX,range->Cb,take_length->AW,take_of_length_le->Ct,take_succ_cons->C3,take_succ_eq_append_getElem->Av
open _root_.List.cons renaming injEq->BM
open _root_.Nat renaming add_assoc->Dv,add_zero->CW,eq_of_beq_eq_true->Ah,le_of_ble_eq_true->BR,le_refl->Ac,lt_or_ge->A1,mul_le_mul_right->AP,mul_one->Cw,one_mul->DF,sub_self->Ei,succ_mul->C4,zero_add->AK,zero_le->Cv,zero_mul->Dp
open _root_.Option renaming bind_some->CP,map_some->D6
open _root_.Option.some renaming inj->Au,injEq->Ab
open _root_.Go.Region renaming wanted->Bu
open _root_.UInt8 renaming ofNat->A4
open _root_.Go.Value renaming int->Ey,string->Bl
open _root_.Go.Value.slice renaming injEq->AX
set_option linter.unusedVariables false
set_option maxRecDepth 100000
namespace Go.X
end Go.X
namespace Go.Proofs
end Go.Proofs
open Go Go.X Go.Proofs
section
namespace Go.X
open Go Go.Lib
section
variable {k:Int} {s:Bs}
def ndW(x:Nd):Nat:=x.2.2.2.1.length+x.2.2.2.2.length
def PSt.T(st:PSt):Nat:=2*st.rest.length+(st.nodes.map ndW).sum
theorem zs9{f:Nd->Nd}{k:Nat}(h:∀x,ndW (f x)<=ndW x+k):∀(l:List Nd) (n:Nat),((l.modify n f).map ndW).sum<=(l.map ndW).sum+k
 |[],n=>by simp
 |x::l,0=>by
  have:=h x
  simp only[List.modify_zero_cons,Az,List.sum_cons];omega
 |x::l,n+1=>by
  have:=zs9 h l n
  simp only[List.modify_succ_cons,Az,List.sum_cons];omega
theorem qbk{st:PSt}{x:Nd}(h:x∈st.nodes):ndW x<=st.T:=by
 have:∀(l:List Nd),x∈l->ndW x<=(l.map ndW).sum:=by
  intro l
  induction l with
  |nil=>intro h;cases h
  |cons y l ih=>
   intro h
   rw[Az,List.sum_cons]
   rcases Af.1 h with rfl|h
   ·omega
   ·have:=ih h;omega
 have:=this _ h
 unfold PSt.T;omega
theorem z6e(st:PSt)(n:Nat)(k:Int)(p:Sp):(st.addKid n k p).T<=st.T+2:=by
 have:=zs9 (f:=z1l k p) (k:=2) (λx=>by unfold ndW z1l;simp;omega) st.nodes n
 unfold PSt.T PSt.addKid;dsimp only;omega
theorem qbl(st:PSt)(n:Nat):(st.setTo n).T<=st.T:=by
 have:=zs9 (f:=qbj st.last) (k:=0) (λx=>by unfold ndW qbj;simp) st.nodes n
 unfold PSt.T PSt.setTo;dsimp only;omega
theorem qef{st:PSt}(h:st.rest≠[]):st.skip.T+2=st.T:=by
 unfold PSt.skip PSt.T
 cases hr:st.rest with
 |nil=>exact absurd hr h
 |cons t r=>simp only[Ap];omega
theorem qeg{st:PSt}{key:Sp}(h:st.rest≠[]):(st.open key).T+2=st.T:=by
 unfold PSt.open PSt.T
 cases hr:st.rest with
 |nil=>exact absurd hr h
 |cons t r=>
  simp only[Ap,BW,List.sum_append,Az,Cm,List.sum_cons,List.sum_nil,ndW,AZ];omega
theorem yg(st:PSt):st.skip.nodes=st.nodes:=by unfold PSt.skip;split <;> rfl
theorem PSt.ne_kind{st:PSt}(h:st.kind=k)(hk:k≠0):st.rest≠[]:=λe=>by
 unfold PSt.kind at h;rw[e]at h;exact hk h.symm
theorem zgo{st:PSt}(h:¬zw st.kind=0):st.rest≠[]:=λe=>by
 refine h ?_
 unfold PSt.kind;rw[e];rfl
theorem Jp(st:PSt)(n:Nat)(k:Int)(p:Sp):(st.addKid n k p).nodes.length=st.nodes.length:=by unfold PSt.addKid;simp
theorem zdy(st:PSt)(n:Nat):(st.setTo n).nodes.length=st.nodes.length:=by unfold PSt.setTo;simp
theorem zne{st:PSt}{key:Sp}(h:st.rest≠[]):(st.open key).nodes.length=st.nodes.length+1:=by
 unfold PSt.open
 cases hr:st.rest with
 |nil=>exact absurd hr h
 |cons t r=>simp
structure Okk (st st':PSt) (k:Nat):Prop where
 t:st'.T+k<=st.T
 r:2*st'.rest.length+k<=2*st.rest.length
 w:∀t∈st'.rest,t∈st.rest
 n:st.nodes.length<=st'.nodes.length
 m:st.nodes.length<=4096->st'.nodes.length<=4096
theorem Okk.trans{a b c:PSt}{j k:Nat}(x:Okk a b j)(y:Okk b c k):Okk a c (j+k):=⟨by have:=x.t;have:=y.t;omega,by have:=x.r;have:=y.r;omega,λt h=>x.w t (y.w t h),by have:=x.n;have:=y.n;omega,λh=>y.m (x.m h)⟩
theorem Okk.le{a b:PSt}{j k:Nat}(x:Okk a b j)(h:k<=j):Okk a b k:=⟨by have:=x.t;omega,by have:=x.r;omega,x.w,x.n,x.m⟩
theorem Okk.refl(a:PSt):Okk a a 0:=⟨Ac _,Ac _,λt h=>h,Ac _,id⟩
theorem qeh{st:PSt}(h:st.rest≠[]):st.skip.rest.length+1=st.rest.length:=by
 unfold PSt.skip
 cases hr:st.rest with
 |nil=>exact absurd hr h
 |cons t r=>simp
theorem qei{st:PSt}{key:Sp}(h:st.rest≠[]):(st.open key).rest.length+1=st.rest.length:=by
 unfold PSt.open
 cases hr:st.rest with
 |nil=>exact absurd hr h
 |cons t r=>simp
theorem qej(st:PSt):∀t∈st.skip.rest,t∈st.rest:=by
 unfold PSt.skip
 cases hr:st.rest with
 |nil=>simp[hr]
 |cons t r=>intro x hx;exact Ae _ hx
theorem qek(st:PSt)(key:Sp):∀t∈(st.open key).rest,t∈st.rest:=by
 unfold PSt.open
 cases hr:st.rest with
 |nil=>simp[hr]
 |cons t r=>intro x hx;exact Ae _ hx
theorem zab{st:PSt}(h:st.rest≠[]):Okk st st.skip 2:=⟨by have:=qef h;omega,by have:=qeh h;omega,qej st,by rw[yg];omega,by rw[yg];exact id⟩
def zxp(kid:zle):Prop:=∀had st had' st',kid had st=.inl (had',st')->Okk st st' 2
theorem ze5{kid:zle}(hk:zxp kid){had had':List Bs}{st st':PSt}{n:Nat}{p:Sp}(e:kid had st=.inl (had',st'))(h:st'.rest≠[]):Okk st (st'.addKid n k p).skip 2:=by
 have a:=hk _ _ _ _ e
 have h2:(st'.addKid n k p).rest≠[]:=h
 have b:=zab h2
 have c:=z6e st' n k p
 have d:=Jp st' n k p
 have hr:(st'.addKid n k p).rest=st'.rest:=rfl
 exact⟨by have:=a.t;have:=b.t;omega,by have:=a.r;have:=b.r;rw[hr]at this;omega,λt h=>a.w t (b.w t h),by have:=a.n;have:=b.n;omega,λh=>b.m (by have:=a.m h;omega)⟩
theorem zu4{s:Bs}{n:Nat}{closing:Int}(hc:closing≠0){kid:zle}(hk:zxp kid):∀(f:Nat) (had:List Bs) (st st':PSt),Jo s n closing kid f had st=.inl st'->Okk st st' 2
 |0,had,st,st',h=>by unfold Jo PSt.err at h;cases h
 |f+1,had,st,st',h=>by
  rw[Jo]at h
  split at h
  ·cases h
  ·rename_i Z aa e
   split at h
   ·rename_i ab
    cases h
    exact ze5 hk e (PSt.ne_kind ab hc)
   ·split at h
    ·rename_i h6
     have a:=ze5 hk e (n:=n) (k:=(st.nodes.length:Int)) (p:=(st.last,aa.here s.length)) (PSt.ne_kind h6 (by omega))
     exact(a.trans (zu4 hc hk f Z _ st' h)).le (by omega)
    ·unfold PSt.err at h;cases h
theorem zu5{n:Nat}{closing:Int}(hc:closing≠0){kid:zle}(hk:zxp kid){st st':PSt}(h:Xd s n closing kid st=.inl st'):Okk st st' 0:=by
 unfold Xd at h
 split at h
 ·rename_i hx;cases h;exact(zab (PSt.ne_kind hx hc)).le (by omega)
 ·exact(zu4 hc hk _ _ _ _ h).le (by omega)
def qbm(val:zrh):Prop:=∀key st st',val key st=.inl st'->Okk st st' 2
theorem z1n{val:zrh}(h:qbm val):zxp (zdx val):=by
 intro had st had' st' e
 unfold zdx at e
 split at e
 ·rename_i Z e1;cases e;exact h _ _ _ e1
 ·cases e
theorem z8u{val:zrh}(h:qbm val):zxp (zqd s val):=by
 intro had st had' st' e
 unfold zqd at e
 split at e
 ·unfold PSt.err at e;cases e
 ·rename_i t r hr
  split at e
  ·split at e
   ·unfold PSt.err at e;cases e
   ·split at e
    ·rename_i h7
     split at e
     ·rename_i Z e1
      cases e
      have a:=zab (st:=st) (by rw[hr];simp)
      have b:=zab (PSt.ne_kind h7 (by omega))
      exact((a.trans b).trans (h _ _ _ e1)).le (by omega)
     ·cases e
    ·unfold PSt.err at e;cases e
  ·unfold PSt.err at e;cases e
theorem z1o{st:PSt}{key:Sp}(h:st.rest≠[])(h4:¬st.nodes.length=4096):Okk st (st.open key) 2:=⟨by have:=qeg (key:=key) h;omega,by have:=qei (key:=key) h;omega,qek st key,by rw[zne h];omega,λh2=>by rw[zne h];omega⟩
theorem zqe(s:Bs):∀d:Nat,qbm (Jw s d)
 |0=>by
  intro key st st' e
  unfold Jw at e
  split at e <;> (unfold PSt.err at e;cases e)
 |d+1=>by
  intro key st st' e
  unfold Jw at e
  split at e
  ·unfold PSt.err at e;cases e
  ·rename_i hk
   split at e
   ·unfold PSt.err at e;cases e
   ·rename_i h4
    split at e
    ·rename_i Z e1
     cases e
     have a:=z1o (key:=key) (zgo hk) h4
     have b:Okk (st.open key) Z 0:=by
      unfold zri at e1
      split at e1
      ·exact zu5 (by omega) (z1n (zqe s d)) e1
      ·split at e1
       ·exact zu5 (by omega) (z8u (zqe s d)) e1
       ·cases e1;exact Okk.refl _
     have c:Okk Z (Z.setTo st.nodes.length) 0:=⟨qbl _ _,Ac _,λt h=>h,by rw[zdy];omega,by rw[zdy];exact id⟩
     exact(a.trans b).trans c
    ·cases e
def qfv(s:Bs)(had:List Bs)(st:PSt):PR (Bs×Sp×PSt):=match st.rest with
 |[]=>st.err s 2
 |t::_=>
  if t.1=8 then
   if(W8 (Jv s t.2)).1∈had then st.err s 7
   else if st.skip.kind=7 then .inl ((W8 (Jv s t.2)).1,t.2,st.skip.skip)
   else st.skip.err s 2
  else st.err s 2
theorem z6f(s:Bs)(val:zrh)(had:List Bs)(st:PSt):zqd s val had st=match qfv s had st with
  |.inl x=>(match val x.2.1 x.2.2 with
   |.inl st'=>.inl (had++[x.1],st')
   |.inr e=>.inr e)
  |.inr e=>.inr e:=by
 unfold zqd qfv PSt.err
 cases st.rest with
 |nil=>rfl
 |cons t r=>
  dsimp only
  by_cases h1:t.1=8
  ·rw[if_pos h1,if_pos h1]
   by_cases h2:(W8 (Jv s t.2)).1∈had
   ·rw[if_pos h2,if_pos h2]
   ·rw[if_neg h2,if_neg h2]
    by_cases h3:st.skip.kind=7
    ·rw[if_pos h3,if_pos h3] <;> rfl
    ·rw[if_neg h3,if_neg h3]
  ·rw[if_neg h1,if_neg h1]
theorem qel{had:List Bs}{st:PSt}{x:Bs×Sp×PSt}(h:qfv s had st=.inl x):Okk st x.2.2 4/\x.2.2.nodes=st.nodes:=by
 unfold qfv PSt.err at h
 split at h
 ·cases h
 ·rename_i t r hr
  split at h
  ·split at h
   ·cases h
   ·split at h
    ·rename_i h7
     cases h
     have a:=zab (st:=st) (by rw[hr];simp)
     have b:=zab (PSt.ne_kind h7 (by omega))
     exact⟨a.trans b,by dsimp only;rw[yg,yg]⟩
    ·cases h
  ·cases h
end
section
variable {lvs:List Nat} {l n lk:Nat} {s:Bs} {closing:Int}
structure GoodN (lvs:List Nat) (nodes:List Nd):Prop where
 len:lvs.length=nodes.length
 lv:∀(k l:Nat),lvs[k]?=some l->1<=l/\l<=32
 kid:∀(k l:Nat) (x:Nd),nodes[k]?=some x->lvs[k]?=some l->∀c∈x.2.2.2.1,∃j:Nat,c=(j:Int)/\k<j/\lvs[j]?=some (l+1)
theorem GoodN.nil:GoodN [] []:=⟨rfl,λk l h=>(by cases h),λk l x h=>(by cases h)⟩
theorem GoodN.push{nodes:List Nd}(G:GoodN lvs nodes)(h1:1<=l)(h2:l<=32){x:Nd}(hx:x.2.2.2.1=[]):GoodN (lvs++[l]) (nodes++[x]):=by
 refine⟨by simp[G.len],λk m h=>?_,λk m y hy hm c hc=>?_⟩
 ·rw[List.getElem?_append]at h
  split at h
  ·exact G.lv k m h
  ·have:=Bh h
   rw[A6]at this;omega
 ·rw[List.getElem?_append]at hy hm
  have hl:=G.len
  by_cases hk:k<nodes.length
  ·rw[if_pos hk]at hy
   rw[if_pos (by omega)]at hm
   obtain⟨j,e1,e2,e3⟩:=G.kid k m y hy hm c hc
   refine⟨j,e1,e2,?_⟩
   rw[Bv (AF.1 e3).1];exact e3
  ·rw[if_neg hk]at hy
   have:=Bh hy
   rw[A6]at this
   subst this
   rw[hx]at hc;cases hc
theorem GoodN.mod{nodes:List Nd}(G:GoodN lvs nodes){f:Nd->Nd}(h:∀x l c,lvs[n]?=some l->c∈(f x).2.2.2.1->c∈x.2.2.2.1\/∃j:Nat,c=(j:Int)/\n<j/\lvs[j]?=some (l+1)):GoodN lvs (nodes.modify n f):=by
 refine⟨by rw[List.length_modify];exact G.len,G.lv,λk l x hx hl c hc=>?_⟩
 rw[BF]at hx
 cases hy:nodes[k]? with
 |none=>rw[hy]at hx;cases hx
 |some y=>
  rw[hy]at hx
  by_cases e:n=k
  ·subst e
   have hx:f y=x:=by simpa using hx
   subst hx
   rcases h y l c hl hc with h|h
   ·exact G.kid n l y hy hl c h
   ·exact h
  ·have hx:y=x:=by simpa[e]using hx
   subst hx
   exact G.kid k l y hy hl c hc
def qfw(kid:zle)(lk:Nat):Prop:=∀had st had' st' lvs,kid had st=.inl (had',st')->GoodN lvs st.nodes->∃new,GoodN (lvs++lk::new) st'.nodes
theorem zlf{s:Bs}{n l:Nat}{closing:Int}{kid:zle}(hk:qfw kid (l+1)):∀(f:Nat) (had:List Bs) (st st':PSt) (lvs:List Nat),Jo s n closing kid f had st=.inl st'->GoodN lvs st.nodes->lvs[n]?=some l->∃new,GoodN (lvs++new) st'.nodes
 |0,had,st,st',lvs,h,G,hn=>by unfold Jo PSt.err at h;cases h
 |f+1,had,st,st',lvs,h,G,hn=>by
  rw[Jo]at h
  split at h
  ·cases h
  ·rename_i Z aa e
   obtain⟨new,G1⟩:=hk _ _ _ _ lvs e G
   have ai:=(AF.1 hn).1
   have af:=G.len
   have ab:(lvs++(l+1)::new)[n]?=some l:=by rw[Bv ai];exact hn
   have ah:(lvs++(l+1)::new)[st.nodes.length]?=some (l+1):=by
    rw[Bi (by omega),<-af,Ei];rfl
   have G2:GoodN (lvs++(l+1)::new) (aa.addKid n st.nodes.length (st.last,aa.here s.length)).skip.nodes:=by
    rw[yg]
    refine G1.mod λx m c hm hc=>?_
    unfold z1l at hc
    rw[ab]at hm
    cases hm
    rcases Aw.1 hc with h|h
    ·exact .inl h
    ·rw[A6]at h
     exact .inr ⟨_,h,by omega,ah⟩
   split at h
   ·cases h;exact⟨_,G2⟩
   ·split at h
    ·obtain⟨ae,G3⟩:=zlf hk f Z _ st' _ h G2 ab
     exact⟨(l+1)::new++ae,by rw[<-AM];exact G3⟩
    ·unfold PSt.err at h;cases h
theorem zlg{kid:zle}(hk:qfw kid (l+1)){st st':PSt}(h:Xd s n closing kid st=.inl st')(G:GoodN lvs st.nodes)(hn:lvs[n]?=some l):∃new,GoodN (lvs++new) st'.nodes:=by
 unfold Xd at h
 split at h
 ·cases h;exact⟨[],by rw[A3,yg];exact G⟩
 ·exact zlf hk _ _ _ _ _ h G hn
def qgz(val:zrh)(lk:Nat):Prop:=∀key st st' lvs,val key st=.inl st'->GoodN lvs st.nodes->∃new,GoodN (lvs++lk::new) st'.nodes
theorem z1p{val:zrh}(h:qgz val lk):qfw (zdx val) lk:=by
 intro had st had' st' lvs e G
 unfold zdx at e
 split at e
 ·rename_i Z e1;cases e;exact h _ _ _ _ e1 G
 ·cases e
theorem z6g{val:zrh}(h:qgz val lk):qfw (zqd s val) lk:=by
 intro had st had' st' lvs e G
 rw[z6f]at e
 split at e
 ·rename_i x hx
  have Z:=(qel hx).2
  split at e
  ·rename_i aa e1
   cases e
   exact h _ _ _ _ e1 (by rw[Z];exact G)
  ·cases e
 ·cases e
theorem zxq{st:PSt}{key:Sp}(h:st.rest≠[]):∃x:Nd,x.2.2.2.1=[]/\(st.open key).nodes=st.nodes++[x]:=by
 unfold PSt.open
 cases hr:st.rest with
 |nil=>exact absurd hr h
 |cons t r=>exact⟨_,rfl,rfl⟩
theorem zu6(s:Bs):∀d:Nat,d<=32->qgz (Jw s d) (33-d)
 |0,_=>by
  intro key st st' lvs e G
  unfold Jw at e
  split at e <;> (unfold PSt.err at e;cases e)
 |d+1,hd=>by
  intro key st st' lvs e G
  have ih:=zu6 s d (by omega)
  rw[show 33-d=33-(d+1)+1 by omega]at ih
  unfold Jw at e
  split at e
  ·unfold PSt.err at e;cases e
  ·rename_i hk
   split at e
   ·unfold PSt.err at e;cases e
   ·split at e
    ·rename_i aa e1
     cases e
     obtain⟨x,Z,ab⟩:=zxq (key:=key) (zgo hk)
     have G1:GoodN (lvs++[33-(d+1)]) (st.open key).nodes:=by rw[ab];exact G.push (by omega) (by omega) Z
     have hn:(lvs++[33-(d+1)])[st.nodes.length]?=some (33-(d+1)):=by
      rw[<-G.len,Bi (Ac _),Ei];rfl
     obtain⟨new,G2⟩:∃new,GoodN (lvs++[33-(d+1)]++new) aa.nodes:=by
      unfold zri at e1
      split at e1
      ·exact zlg (z1p ih) e1 G1 hn
      ·split at e1
       ·exact zlg (z6g ih) e1 G1 hn
       ·cases e1;exact⟨[],by rw[A3];exact G1⟩
     refine⟨new,?_⟩
     rw[AM]at G2
     exact G2.mod λx l c hl hc=>.inl hc
    ·cases e
def qfx(kid:zle):Prop:=∀had st x,kid had st=.inr x->x.2≠0
def qg0(val:zrh):Prop:=∀key st x,val key st=.inr x->x.2≠0
theorem zdz{α:Type}{st:PSt}{e:Int}(he:e≠0){x:Int×Int}(h:(st.err s e:PR α)=.inr x):x.2≠0:=by
 unfold PSt.err at h;cases h;exact he
theorem z1q{s:Bs}{n:Nat}{closing:Int}{kid:zle}(hk:qfx kid):∀(f:Nat) (had:List Bs) (st:PSt) (x:Int×Int),Jo s n closing kid f had st=.inr x->x.2≠0
 |0,had,st,x,h=>by unfold Jo at h;exact zdz (by omega) h
 |f+1,had,st,x,h=>by
  rw[Jo]at h
  split at h
  ·rename_i y e;cases h;exact hk _ _ _ e
  ·split at h
   ·cases h
   ·split at h
    ·exact z1q hk f _ _ x h
    ·exact zdz (by omega) h
theorem z1r{kid:zle}(hk:qfx kid){st:PSt}{x:Int×Int}(h:Xd s n closing kid st=.inr x):x.2≠0:=by
 unfold Xd at h
 split at h
 ·cases h
 ·exact z1q hk _ _ _ _ h
theorem qem{val:zrh}(h:qg0 val):qfx (zdx val):=by
 intro had st x e
 unfold zdx at e
 split at e
 ·cases e
 ·rename_i y e1;cases e;exact h _ _ _ e1
theorem qg1{val:zrh}(h:qg0 val):qfx (zqd s val):=by
 intro had st x e
 unfold zqd at e
 split at e
 ·exact zdz (by omega) e
 ·split at e
  ·split at e
   ·exact zdz (by omega) e
   ·split at e
    ·split at e
     ·cases e
     ·rename_i y e1;cases e;exact h _ _ _ e1
    ·exact zdz (by omega) e
  ·exact zdz (by omega) e
theorem z6h(s:Bs):∀d:Nat,qg0 (Jw s d)
 |0=>by
  intro key st x e
  unfold Jw at e
  split at e <;> exact zdz (by omega) e
 |d+1=>by
  intro key st x e
  unfold Jw at e
  split at e
  ·exact zdz (by omega) e
  ·split at e
   ·exact zdz (by omega) e
   ·split at e
    ·cases e
    ·rename_i y e1
     cases e
     unfold zri at e1
     split at e1
     ·exact z1r (qem (z6h s d)) e1
     ·split at e1
      ·exact z1r (qg1 (z6h s d)) e1
      ·cases e1
theorem zqf(h:(Z8 s).2.2=0):∃lvs,GoodN (1::lvs) (Z8 s).1.2/\(Z8 s).1.1=s/\(Z8 s).2.1=(s.length:Int)/\(Z8 s).1.2.length<=4096/\∀x∈(Z8 s).1.2,ndW x<=2*(y5 s).1.length:=by
 have Z:∀{x:Int×Int},Jw s 32 (0,0) ⟨zy (y5 s).1,0,[]⟩=.inr x->x.2≠0:=λh=>z6h s 32 _ _ _ h
 unfold Z8 at h ⊢
 split at h
 ·rename_i h0
  rw[if_pos h0]
  split at h
  ·rename_i st e
   split at h
   ·rename_i hr
    rw[if_pos hr]
    have a:=zqe s 32 _ _ _ e
    obtain⟨new,G⟩:=zu6 s 32 (by omega) _ _ _ [] e GoodN.nil
    refine⟨new,G,rfl,rfl,a.m (by simp),λx hx=>?_⟩
    have h1:=qbk hx
    have h2:=a.t
    have h3:(⟨zy (y5 s).1,0,[]⟩:PSt).T=2*(zy (y5 s).1).length:=by unfold PSt.T;simp
    have h4:(zy (y5 s).1).length<=(y5 s).1.length:=List.length_filter_le _ _
    omega
   ·simp at h
  ·rename_i e he
   exact absurd h (Z he)
 ·rename_i h0
  exact absurd h h0
end
section
def ya(t:Bs)(p:Sp):Bs:=if p.1<0\/p.2<p.1\/(t.length:Int)<p.2 then []else Jv t p
theorem ze6(t:Bs)(p:Sp):(ya t p).length<=t.length:=by
 unfold ya Jv
 split
 ·exact Cv _
 ·rw[Bb,AI];omega
def Ym(kind:Int)(t:Bs):Bs:=if kind=2 then t else if kind=3 then qz (zi t).1 else if kind=4 then(W8 t).1 else []
def zx7(t:Bs)(x:Nd):Bs:=(W8 (ya t x.2.2.1)).1
def zim(t:Bs)(nodes:List Nd)(c:Int):Bs:=match nodes[c.toNat]? with
 |some x=>zx7 t x
 |none=>[]
def j6(t:Bs)(nodes:List Nd):Nat->Nat->Tr
 |0,_=>.mk 0 (bl []) [] []
 |f+1,k=>match nodes[k]? with
  |none=>.mk 0 (bl []) [] []
  |some x=>.mk x.1 (bl (Ym x.1 (ya t x.2.1))) (if x.1=6 then x.2.2.2.1.map λc=>bl (zim t nodes c)else []) (x.2.2.2.1.map λc=>j6 t nodes f c.toNat)
def Qf(s:Bs):Tr×Int×Int:=if(Z8 s).2.2=0 then(j6 s (Z8 s).1.2 33 0,(s.length:Int),0)else(.mk 0 (bl []) [] [],(Z8 s).2.1,(Z8 s).2.2)
end
end Go.X
end
section
namespace Go.X
open Go Go.X Go.Proofs Go.RowKit
section
variable {gl:Fr} {l:Bs} {n:Nat}
theorem zqg{s p:Bs}{R:Bool->Prop}(h:R (p.isPrefixOf s)):PC Tp gl 156 [Arg.mk .str (bl s),Arg.mk .str (bl p)] [.bool] R:=
 PC.of_scal rfl (λ_=>zui _) (r:=p.isPrefixOf s) h λw hw=>by
  have:=zb3 (bl s) (bl p) w
  have e1:(bl s).data.toList=s:=yp s
  have e2:(bl p).data.toList=p:=yp p
  rw[e1,e2]at this
  exact this.mono λe w' ⟨h1,h2⟩=>⟨h1,h2 ▸ Below.refl _ _⟩
theorem qbn{a b:UInt8}(l:Bs):[a,b].isPrefixOf l=decide (l.take 2=[a,b]):=by
 match l with
 |[]=>rfl
 |[x]=>simp[List.isPrefixOf]
 |x::y::l=>
  simp only[List.isPrefixOf,C3,List.take_zero,Dg,BM,and_true]
  rw[AJ,As,beq_iff_eq,beq_iff_eq,decide_eq_true_eq]
  constructor <;> (rintro⟨rfl,rfl⟩;exact⟨rfl,rfl⟩)
theorem z6i(h:zij l=some n):4<=l.length:=by
 unfold zij at h
 split at h
 ·assumption
 ·cases h
theorem zxr(hg:GL gl)(h2:2<=l.length)(hl:l.length<=1152921504606846976){R:Int×Int->Prop}(h:R (match qbb (l.drop 2)with|some (r,n)=>((r:Int),(n:Int))|none=>(0,0))):
  PC Tp gl 324 [Arg.mk .str (bl l)] [.int .i32,.int .i64] R:=by
 apply zf2
 simp only[ze,zpt (show(2:Int)=((2:Nat):Int)from rfl),zpt (show(6:Int)=((6:Nat):Int)from rfl),zpt (show(8:Int)=((8:Nat):Int)from rfl)]
 refine⟨⟨by omega,by omega,by omega⟩,?_⟩
 unfold qbb at h
 refine z1h hg (by rw[AI];omega) (λn e=>?_) (λe v=>?_)
 ·rw[e]at h
  have hn:=ze4 e
  have h4:=z6i e
  rw[AI]at h4
  dsimp only at h
  intro K hK
  refine⟨λhx=>(by cases hx),λ_=>hK _ ?_⟩
  refine⟨λhx=>?_,λhx=>⟨λhy=>?_,λhy=>⟨⟨by omega,by omega,by omega⟩,?_⟩⟩⟩
  ·simp only[Bool.cond_eq_ite,Bool.if_false_right,As,decide_eq_true_eq]at hx
   rw[if_pos (by omega)]at h
   exact h
  ·simp only[Bool.cond_eq_ite,Bool.if_false_right,Cz,decide_eq_false_iff_not,Bool.if_true_left,Br,decide_eq_true_eq]at hx hy
   rw[if_neg (by omega),if_pos (by omega)]at h
   exact h
  ·simp only[Bool.cond_eq_ite,Bool.if_false_right,Cz,decide_eq_false_iff_not,Bool.if_true_left,BX,decide_eq_true_eq]at hx hy
   rw[if_neg (by omega),if_neg (by omega)]at h
   rw[Bj,Bj]at h
   refine zqg ?_
   rw[qbn]
   refine⟨λhz=>?_,λhz=>⟨⟨by omega,?_,by omega⟩,?_⟩⟩
   ·rw[if_neg (by simpa using hz)]at h
    exact h
   ·have Z:(l.drop 6).take 2=[92,117]:=by simpa using hz
    have:=congrArg Cr Z
    simp only[Bb,AI,Ap,AZ]at this
    omega
   ·have Z:(l.drop 6).take 2=[92,117]:=by simpa using hz
    rw[if_pos Z]at h
    refine z1h hg (by rw[AI];omega) (λm e2=>?_) (λe2 v=>?_)
    ·rw[show 2+6=8 from rfl,e2]at h
     have hm:=ze4 e2
     dsimp only at h
     refine⟨λhw=>?_,λhw=>?_⟩
     ·simp only[Bool.cond_eq_ite,Bool.if_true_left,Br,decide_eq_true_eq,Bool.not_true,A5,false_or]at hw
      rw[if_neg (show¬(56320<=m/\m<57344)by omega)]at h
      exact h
     ·simp only[Bool.cond_eq_ite,Bool.if_true_left,BX,decide_eq_false_iff_not,Bool.not_true,A5,decide_false,decide_eq_true_eq,Du]at hw
      rw[if_pos (show 56320<=m/\m<57344 by omega)]at h
      dsimp only at h
      rw[Xz (n:=(n:Int)-55296) (by omega) (by omega),Xz (n:=((n:Int)-55296)*1024) (by omega) (by omega),Xz (n:=65536+((n:Int)-55296)*1024) (by omega) (by omega),
       Xz (n:=65536+((n:Int)-55296)*1024+(m:Int)) (by omega) (by omega),Xz (by omega) (by omega)]
      have e5:(((65536+(n-55296)*1024+(m-56320):Nat):Int))=65536+((n:Int)-55296)*1024+(m:Int)-56320:=by omega
      rw[e5]at h
      exact h
    ·rw[show 2+6=8 from rfl,e2]at h
     exact⟨λ_=>h,λhw=>by simp at hw⟩
 ·rw[e]at h
  intro K hK
  exact⟨λ_=>hK _ ⟨λ_=>h,λhx=>by cases hx⟩,λhx=>by cases hx⟩
theorem u8i{c:UInt8}(hn:n<256):((c.toNat:Int)==(n:Int))=decide (c=A4 n):=by
 rw[AJ,beq_iff_eq,decide_eq_true_eq,u8n hn];omega
theorem z6j{c:UInt8}{R:Int×Bool->Prop}(h:R (match z5z c with|some r=>((r:Int),true)|none=>(0,false))):PC Tp gl 323 [Arg.mk (.int .u8) (c.toNat:Int)] [.int .i32,.bool] R:=by
 apply zjz
 have hc:=c.toNat_lt
 have q:∀n:Nat,n<256->((c.toNat:Int)==(n:Int))=decide (c=A4 n):=λn hn=>u8i hn
 have aj:=q 34 (by omega);have af:=q 92 (by omega);have ah:=q 47 (by omega);have ai:=q 98 (by omega);have Z:=q 102 (by omega);have ab:=q 110 (by omega);have aa:=q 114 (by omega);have ae:=q 116 (by omega)
 simp only[Int.cast_ofNat_Int,show A4 34=34 from rfl,show A4 92=92 from rfl,show A4 47=47 from rfl,show A4 98=98 from rfl,show A4 102=102 from rfl,show A4 110=110 from rfl,show A4 114=114 from rfl,show A4 116=116 from rfl]at aj af ah ai Z ab aa ae
 rw[aj,af,ah,ai,Z,ab,aa,ae]
 unfold z5z at h
 intro K hK
 have yes:(c=34\/c=92\/c=47)->K true:=by
  intro h1
  apply hK
  rw[if_pos h1]at h
  rw[Xz (by omega) (by omega)]
  exact⟨λ_=>h,λhx=>by cases hx⟩
 refine⟨λh1=>by rw[h1];exact yes (.inl (by simpa using h1)),λh1=>⟨λh2=>by rw[h2];exact yes (.inr (.inl (by simpa using h2))),λh2=>?_⟩⟩
 by_cases h3:c=47
 ·rw[decide_eq_true h3];exact yes (.inr (.inr h3))
 ·have hn:¬(c=34\/c=92\/c=47):=by
   rw[decide_eq_false_iff_not]at h1 h2
   rintro(h|h|h)
   ·exact h1 h
   ·exact h2 h
   ·exact h3 h
  rw[if_neg hn]at h
  rw[decide_eq_false h3]
  apply hK
  refine⟨λhx=>(by cases hx),λ_=>?_⟩
  by_cases a1:c=98
  ·rw[if_pos a1]at h;rw[decide_eq_true a1];exact⟨λ_=>h,λhx=>by cases hx⟩
  rw[if_neg a1]at h;rw[decide_eq_false a1];refine⟨λhx=>(by cases hx),λ_=>?_⟩
  by_cases a2:c=102
  ·rw[if_pos a2]at h;rw[decide_eq_true a2];exact⟨λ_=>h,λhx=>by cases hx⟩
  rw[if_neg a2]at h;rw[decide_eq_false a2];refine⟨λhx=>(by cases hx),λ_=>?_⟩
  by_cases a3:c=110
  ·rw[if_pos a3]at h;rw[decide_eq_true a3];exact⟨λ_=>h,λhx=>by cases hx⟩
  rw[if_neg a3]at h;rw[decide_eq_false a3];refine⟨λhx=>(by cases hx),λ_=>?_⟩
  by_cases a4:c=114
  ·rw[if_pos a4]at h;rw[decide_eq_true a4];exact⟨λ_=>h,λhx=>by cases hx⟩
  rw[if_neg a4]at h;rw[decide_eq_false a4];refine⟨λhx=>(by cases hx),λ_=>?_⟩
  by_cases a5:c=116
  ·rw[if_pos a5]at h;rw[decide_eq_true a5];exact⟨λ_=>h,λhx=>by cases hx⟩
  rw[if_neg a5]at h;rw[decide_eq_false a5];exact⟨λhx=>(by cases hx),λ_=>h⟩
end
section
variable {gl M:Fr} {l:Bs}
theorem z1s(hg:GL gl)(hl:l.length<=1152921504606846976){R:Int×Int->Prop}(h:R (match qbc l with|some (r,n)=>((r:Int),(n:Int))|none=>(0,0))):
  PC Tp gl 315 [Arg.mk .str (bl l)] [.int .i32,.int .i64] R:=by
 apply zii
 rw[ze]
 match l,hl,h with
 |[],_,h=>exact⟨λ_=>h,λhx=>by simp at hx⟩
 |[a],_,h=>exact⟨λ_=>h,λhx=>by simp at hx⟩
 |a::c::t,hl,h=>
  have Z:((a::c::t).length:Int)=t.length+2:=by simp;omega
  refine⟨λhx=>(by rw[decide_eq_true_eq]at hx;omega),λ_=>⟨⟨by omega,by omega⟩,?_⟩⟩
  have e1:zb (bl (a::c::t)) (1:Int).toNat=(c.toNat:Int):=by rw[yr];rfl
  rw[e1]
  refine z6j ?_
  unfold qbc at h
  dsimp only at h
  cases e:z5z c with
  |some r=>
   rw[e]at h
   exact⟨λ_=>h,λhx=>(by cases hx)⟩
  |none=>
   rw[e]at h
   dsimp only at h
   refine⟨λhx=>(by cases hx),λ_=>⟨⟨by omega,by omega⟩,?_⟩⟩
   have e2:((c.toNat:Int)==117)=decide (c=117):=u8i (n:=117) (by omega)
   rw[e2]
   refine⟨λhx=>?_,λhx=>?_⟩
   ·rw[if_pos (by simpa using hx)]at h
    refine zxr hg (by simp) hl ?_
    exact h
   ·rw[if_neg (by simpa using hx)]at h
    exact h
theorem qg2(h:l≠[]):Lib.decodeGo (bl l)=dec l:=by
 unfold Lib.decodeGo
 have hp:=Bf.2 h
 rw[if_neg (by rw[ze];omega),zuj,yp,Cc]
theorem qbo(hg:GL gl)(Z:l≠[])(hl:l.length<=1152921504606846976){R:Int×Int->Prop}(h:R (match X9 l with|some (r,n)=>((r:Int),(n:Int))|none=>(0,0))):
  PC Tp gl 291 [Arg.mk .str (bl l)] [.int .i32,.int .i64] R:=by
 apply znb
 have hp:=Bf.2 Z
 rw[ze,yr,show(0:Int).toNat=0 from rfl,zul hp]
 refine⟨⟨by omega,by omega⟩,?_⟩
 have e2:((l[0].toNat:Int)==92)=decide (l[0]=92):=u8i (n:=92) (by omega)
 have hh:l.head?=some l[0]:=by cases l with
  |nil=>exact absurd rfl Z
  |cons a t=>rfl
 rw[e2]
 unfold X9 at h
 rw[hh]at h
 refine⟨λhx=>?_,λhx=>?_⟩
 ·rw[if_pos (by rw[of_decide_eq_true hx])]at h
  exact z1s hg hl h
 ·rw[if_neg (by rw[Ab];exact of_decide_eq_false hx)]at h
  refine zpn hg.tabs ?_
  rw[qg2 Z]
  have eb:(bif (decide (((dec l).1:Int)<32))then true else(bif (((dec l).1:Int)==65533)then(((dec l).2:Int)==1)else false))=decide ((dec l).1<32\/zd8 (dec l)=true):=by
   rw[AJ]
   unfold zd8
   simp only[Bool.cond_eq_ite,Bool.if_true_left,Bool.if_false_right,Br,As,decide_eq_true_eq,beq_iff_eq]
   constructor
   ·rintro(h1|⟨h1,h2⟩)
    ·left;omega
    ·right;exact⟨by omega,by omega⟩
   ·rintro(h1|⟨h1,h2⟩)
    ·left;omega
    ·right;exact⟨by omega,by omega⟩
  rw[eb]
  refine⟨λhx=>?_,λhx=>?_⟩
  ·rw[if_pos (of_decide_eq_true hx)]at h;exact h
  ·rw[if_neg (of_decide_eq_false hx)]at h;exact h
theorem zu7(s:Bt)(i j:Int):zcx M [.str,.int .i64,.int .i64] (s,i,j) (.tuple #[.string s,.int .i64 i,.int .i64 j]):=
 ⟨[_,_,_],⟨_,_,rfl,rdStr s,_,_,rfl,Jf _ i,_,rfl,Jf _ j⟩,rfl⟩
theorem zqh{k:IntKind}{r:Int×Int}{v:Value}(h:zcx M [.int k,.int .i64] r v):v=.tuple #[.int k r.1,.int .i64 r.2]:=by
 obtain⟨vs,⟨v1,rest,rfl,hx,v2,rfl,hy⟩,rfl⟩:=h
 rw[qo hx,qo hy];rfl
set_option maxHeartbeats 1000000 in
theorem zu8(hg:GL gl){t:Bs}{a:Nat}(ap:a<=1152921504606846976)(hl:t.length<=1099511627776){R:Bt×Int×Int->Prop}(hR:R (bl (y0 t a).1,((y0 t a).2.1:Int),(y0 t a).2.2)):
  PC Tp gl 253 [Arg.mk .str (bl t),Arg.mk (.int .i64) (a:Int)] [.str,.int .i64,.int .i64] R:=by
 intro h M vs hM ag ha
 match vs,ha with
 |[u1,u2],⟨a1,a2,_⟩=>
  obtain rfl:=Ql (s:=bl t) a1
  obtain rfl:=qo (i:=(a:Int)) a2
  apply PX.of
  apply zm1
  rw[ze,yr,Al]
  have aa:∀{k:Nat},k<t.length->(t.drop k).head?=some (t[k]?.getD 0):=λ {k} hk=>by
   rw[List.head?_drop,Aq hk];rfl
  have ai:∀k:Nat,(((t[k]?.getD 0).toNat:Int)==34)=decide (t[k]?.getD 0=34):=λk=>u8i (n:=34) (by omega)
  have ak:(((t[a]?.getD 0).toNat:Int) != 34)=!decide (t[a]?.getD 0=34):=by rw[bne,ai]
  rw[ak]
  refine⟨λhx=>?_,λhx=>?_,λhx=>?_⟩
  ·have:¬((a:Int)>=(t.length:Int)):=by simpa using hx
   exact⟨by omega,by omega⟩
  ·have hn:¬(t.drop a).head?=some 34:=by
    intro e
    have ab:a<t.length:=by
     rcases A1 a t.length with h1|h1
     ·exact h1
     ·rw[BL h1]at e;cases e
    rw[aa ab]at e
    have e:=Au e
    have hd:decide ((a:Int)>=(t.length:Int))=false:=by rw[decide_eq_false_iff_not];omega
    rw[hd,e]at hx
    simp at hx
   have e:y0 t a=([],a,2):=by unfold y0;rw[if_neg hn]
   rw[e]at hR
   exact⟨M,(bl [],(a:Int),2),Later.refl ag,zu7 _ _ _,hR⟩
  ·have ab:a<t.length:=by
    rcases A1 a t.length with h1|h1
    ·exact h1
    ·have hd:decide ((a:Int)>=(t.length:Int))=true:=by rw[decide_eq_true_eq];omega
     rw[hd]at hx;cases hx
   have hd:decide ((a:Int)>=(t.length:Int))=false:=by rw[decide_eq_false_iff_not];omega
   have hq:(t.drop a).head?=some 34:=by
    rw[aa ab]
    rw[hd]at hx
    congr 1
    simpa using hx
   have eA:y0 t a=(let q:=zdw (t.drop (a+1));if q.2.2 then(q.1,a+1+q.2.1,0)else([],a+1+q.2.1,2)):=by unfold y0;rw[if_pos hq]
   rw[Yk ab (by omega)]
   intro h1
   have B1:Bld h1 h.size []:=Bld.new h
   have k1:Keep h.size h h1:=Keep.push _ _ (Ac _)
   clear_value h1
   refine⟨λi g=>∃(k:Nat) (out:Bs),i=(k:Int)/\k<=t.length/\out.length<=4*k/\Bld g h.size out/\Keep h.size h g/\y0 t a=(let q:=zdw (t.drop k);if q.2.2 then(out++q.1,k+q.2.1,0)else([],k+q.2.1,2)),λi _=>t.length-i.toNat,⟨a+1,[],rfl,by omega,by simp,B1,k1,by rw[eA];rfl⟩,?_⟩
   rintro i g ⟨k,out,rfl,hk,ho,B,kg,er⟩
   simp only[Al]
   refine⟨λhx=>?_,λhx=>?_⟩
   ·have ae:k<t.length:=by rw[decide_eq_true_eq]at hx;omega
    have ah:t.drop k≠[]:=by rw[<-Bf,AI];omega
    refine⟨⟨by omega,by omega⟩,?_⟩
    rw[yr,ai]
    have Z:=Jm ah
    rw[aa ae]at Z
    refine⟨λaf=>?_,λaf=>⟨⟨by omega,by omega,by omega⟩,?_⟩⟩
    ·rw[if_pos (by rw[of_decide_eq_true af])]at Z
     rw[Z]at er
     refine zu0 B λh7 k7=>⟨_,rfl,M,(bl out,((k+1:Nat):Int),0),Later.same ag (kg.trans k7 (Ac _)),?_,?_⟩
     ·rw[Yk ae (by omega)];exact zu7 _ _ _
     ·rw[er]at hR
      simpa using hR
    ·rw[if_neg (by rw[Ab];exact of_decide_eq_false af)]at Z
     have ex:(bl t).extract k t.length=bl (t.drop k):=zpt (n:=(k:Int)) rfl
     rw[ex]
     refine(qbo hg ah (by rw[AI];omega) (R:=λr=>r=(match X9 (t.drop k)with|some (r,n)=>((r:Int),(n:Int))|none=>(0,0))) rfl).go hM (ag.keep kg) (yj (a:=Arg.mk .str _) (rdStr _) jy) λv h9 M9 r L hv hr=>?_
     obtain rfl:=zqh hv
     cases ep:X9 (t.drop k)with
     |none=>
      rw[ep]at hr Z
      dsimp only at hr
      subst hr
      refine⟨_,_,rfl,λ_=>?_,λhz=>by cases hz⟩
      dsimp only at Z
      rw[Z]at er
      refine⟨M,(bl [],(k:Int),2),Later.same ag (kg.trans L.keep kg.size),zu7 _ _ _,?_⟩
      rw[er]at hR
      simpa using hR
     |some x=>
      obtain⟨c,n⟩:=x
      rw[ep]at hr Z
      dsimp only at hr
      subst hr
      obtain⟨n1,n2,n3,n4⟩:=Ya ah ep
      rw[AI]at n3
      dsimp only at Z
      refine⟨(c:Int),(n:Int),rfl,λhz=>?_,λ_=>?_⟩
      ·simp only[beq_iff_eq]at hz;omega
      refine zs0 (B.keep L.keep) (by omega) (by omega) (by omega) λan m aj am=>⟨_,_,rfl,?_,?_⟩
      ·refine⟨k+n,out++Lib.encodeRune (c:Int),?_,by omega,?_,aj,?_,?_⟩
       ·rw[w64 (by omega)];omega
       ·have h4:(Lib.encodeRune (c:Int)).length<=4:=by
         have:=(Lib.encodeRuneZ_length (c:Int)).2
         rw[Lib.encodeRune,AH];exact this
        rw[Ag];omega
       ·exact(kg.trans L.keep kg.size).trans am (Ac _)
       ·rw[er,Z,Bj]
        dsimp only
        rw[AM,Dv]
      ·show t.length-(Aa .i64 ((k:Int)+(n:Int))).toNat<t.length-((k:Nat):Int).toNat
       rw[w64 (by omega)]
       omega
   ·have ae:k=t.length:=by rw[decide_eq_false_iff_not]at hx;omega
    rw[ae,List.drop_length,z07]at er
    refine⟨M,(bl [],(t.length:Int),2),Later.same ag kg,zu7 _ _ _,?_⟩
    rw[er]at hR
    simpa using hR
end
section
variable {t:Bs} {gl:Fr}
def qen(t:Bs)(a:Int):Int×Int:=if a<0\/(t.length:Int)<a then(0,2)else((y0 t a.toNat).2.1,(y0 t a.toNat).2.2)
theorem qbp{R:Bt×Int×Int->Prop}(h:R (bl (W8 t).1,((W8 t).2.1:Int),(W8 t).2.2)):
  ((bif ((y0 t 0).2.2==0)then(decide (((y0 t 0).2.1:Int)<(t.length:Int)))else false)=true->R (bl [],((y0 t 0).2.1:Int),2))/\((bif ((y0 t 0).2.2==0)then(decide (((y0 t 0).2.1:Int)<(t.length:Int)))else false)=false->R (bl (y0 t 0).1,((y0 t 0).2.1:Int),(y0 t 0).2.2)):=by
 have e:(bif ((y0 t 0).2.2==0)then(decide (((y0 t 0).2.1:Int)<(t.length:Int)))else false)=decide ((y0 t 0).2.2=0/\(y0 t 0).2.1<t.length):=by
  rw[AJ]
  simp only[Bool.cond_eq_ite,Bool.if_false_right,As,decide_eq_true_eq,beq_iff_eq]
  omega
 rw[e]
 unfold W8 at h
 refine⟨λhx=>?_,λhx=>?_⟩
 ·rw[if_pos (of_decide_eq_true hx)]at h;exact h
 ·rw[if_neg (of_decide_eq_false hx)]at h;exact h
theorem ze7(hg:GL gl)(hl:t.length<=1099511627776){R:Bt×Int×Int->Prop}(h:R (bl (W8 t).1,((W8 t).2.1:Int),(W8 t).2.2)):
  PC Tp gl 196 [Arg.mk .str (bl t)] [.str,.int .i64,.int .i64] R:=by
 apply zf1
 rw[ze]
 exact zu8 hg (a:=0) (by omega) hl (qbp h)
theorem qeo(hg:GL gl){a:Int}(hl:t.length<=1099511627776){R:Int×Int->Prop}(h:R (qen t a)):PC Tp gl 258 [Arg.mk .str (bl t),Arg.mk (.int .i64) a] [.int .i64,.int .i64] R:=by
 apply zp4
 rw[ze]
 have e:(bif (decide (a<0))then true else(decide (a>(t.length:Int))))=decide (a<0\/(t.length:Int)<a):=by
  rw[AJ];simp only[Bool.cond_eq_ite,Bool.if_true_left,Br,decide_eq_true_eq]
 rw[e]
 unfold qen at h
 refine⟨λhx=>?_,λhx=>?_⟩
 ·rw[if_pos (of_decide_eq_true hx)]at h;exact h
 ·have hn:=of_decide_eq_false hx
  rw[if_neg hn]at h
  have ea:a=((a.toNat:Nat):Int):=by omega
  have:=zu8 hg (t:=t) (a:=a.toNat) (by omega) hl (R:=λZ=>R (Z.2.1,Z.2.2)) h
  rw[<-ea]at this
  exact this
end
end Go.X
end
section
namespace Go.X
open Go Go.RowKit
section
theorem qbq{n:Nat}{bf:Nat->List Nat}:((Cb n).flatMap bf).Nodup↔(∀i,i<n->(bf i).Nodup)/\∀i j,i<j->j<n->∀x∈bf i,∀y∈bf j,x≠y:=by
 unfold List.Nodup
 rw[List.pairwise_flatMap,List.pairwise_iff_getElem]
 constructor
 ·rintro⟨h1,h2⟩
  refine⟨λi hi=>h1 i (by simpa using hi),λi j Z hj=>?_⟩
  have:=h2 i j (by simp;omega) (by simpa using hj) Z
  simpa using this
 ·rintro⟨h1,h2⟩
  refine⟨λi hi=>h1 i (by simpa using hi),λi j hi hj Z=>?_⟩
  simp at hi hj
  simpa using h2 i j Z hj
end
section
variable {h:za} {v:Tr} {sk si:Sl} {bk bb:List Nat} {b n i k:Nat} {cs:Array Value} {cw:List Value}
structure OTp (h:za) (v:Tr) (sk si:Sl) (bk bb:List Nat) (b:Nat) (cs:Array Value) (bf:Nat->List Nat):Prop where
 keys:OKeys h v.keys bk sk
 hn:si.len=v.items.length/\v.items.length<=140737488355328/\v.items.length<=si.cap
 hz:(v.items=[]/\bb=[]/\si.cap=0)\/(bb=[b]/\si.a=some ⟨b,0,none⟩/\Blk h b cs/\si.cap*4<=cs.size)
 hi:∀i (hx:i<v.items.length),OT h v.items[i] (bf i) (cut cs (i*4) 4)
 nk:bk.Nodup
 d1:∀c∈bk,c∉bb
 d2:∀c∈bk,∀i,i<v.items.length->c∉bf i
 d3:∀c∈bb,∀i,i<v.items.length->c∉bf i
 d4:∀i j,i<v.items.length->j<v.items.length->i≠j->∀c∈bf i,c∉bf j
def Z4(v:Tr)(sk si:Sl):List Value:=[.int .i64 v.kind,.string v.text,slV sk,slV si]
theorem OTp.ot{bf:Nat->List Nat}(H:OTp h v sk si bk bb b cs bf):OT h v (bk++(bb++(Cb v.items.length).flatMap bf)) (Z4 v sk si):=by
 obtain⟨k,s,ks,xs⟩:=v
 refine OT.mk (b:=b) (cs:=cs) H.keys H.hn H.hz H.hi ?_
 rw[CG]
 refine⟨H.nk,?_,λx hx y hy e=>?_⟩
 ·rw[CG]
  refine⟨?_,qbq.2 ⟨λi hi=>(H.hi i hi).nodup,λi j Z hj x hx y hy e=>?_⟩,λx hx y hy e=>?_⟩
  ·rcases H.hz with⟨_,e,_⟩|⟨e,_⟩
   ·rw[e];exact Di
   ·rw[e];simp
  ·subst e;exact H.d4 i j (Nat.lt_trans Z hj) hj (by omega) x hx hy
  ·subst e
   obtain⟨i,hi,hy⟩:=CF.1 hy
   exact H.d3 x hx i (by simpa using hi) hy
 ·subst e
  rcases Aw.1 hy with hy|hy
  ·exact H.d1 x hx hy
  ·obtain⟨i,hi,hy⟩:=CF.1 hy
   exact H.d2 x hx i (by simpa using hi) hy
theorem z1t{bf:Nat->List Nat}{n c:Nat}:c∈bk++(bb++(Cb n).flatMap bf)↔c∈bk\/c∈bb\/∃i,i<n/\c∈bf i:=by
 simp only[Aw,CF,Bw]
theorem znf(h:i+4<=n):cut cs i 4=((cut cs 0 n).drop i).take 4:=by
 unfold cut
 rw[Cc,List.drop_take,List.take_take,Nat.min_eq_left (by omega)]
theorem qbr{α:Type}{xs:List α}{w:α}(hk:k<=xs.length)(h:i<(xs.take k++w::xs.drop k).length):
  (i<k/\∃h':i<xs.length,(xs.take k++w::xs.drop k)[i]=xs[i])\/(i=k/\(xs.take k++w::xs.drop k)[i]=w)\/(k<i/\∃h':i-1<xs.length,(xs.take k++w::xs.drop k)[i]=xs[i-1]):=by
 have hl:(xs.take k).length=k:=by rw[Bb];omega
 simp only[Ag,Ap,hl,AI]at h
 rcases Nat.lt_trichotomy i k with h1|h1|h1
 ·refine .inl ⟨h1,by omega,?_⟩
  rw[De (by rw[hl];exact h1),List.getElem_take]
 ·refine .inr (.inl ⟨h1,?_⟩)
  subst h1
  rw[Db (by rw[hl];exact Ac _)]
  simp[hl]
 ·refine .inr (.inr ⟨h1,by omega,?_⟩)
  rw[Db (by rw[hl];omega)]
  simp only[hl]
  have e:i-k=(i-1-k)+1:=by omega
  simp only[e,List.getElem_cons_succ,List.getElem_drop]
  congr 1;omega
theorem qbs{c cw:List Value}(hc:c.length=n*4)(hw:cw.length=4)(hk:k<=n):
  (∀i,i<k->((c.take (k*4)++cw++c.drop (k*4)).drop (i*4)).take 4=(c.drop (i*4)).take 4)/\((c.take (k*4)++cw++c.drop (k*4)).drop (k*4)).take 4=cw/\∀i,k<i->((c.take (k*4)++cw++c.drop (k*4)).drop (i*4)).take 4=(c.drop ((i-1)*4)).take 4:=by
 have hl:(c.take (k*4)).length=k*4:=by rw[Bb];omega
 refine⟨λi hi=>?_,?_,λi hi=>?_⟩
 ·apply BC
  intro j
  rw[AL,AL]
  split
  ·rw[AQ,AQ,AM,Bv (by rw[hl];omega),AL,if_pos (by omega)]
  ·rfl
 ·rw[AM,List.drop_append,BL (by rw[hl];exact Ac _),A8,hl,Ei,Cc,List.take_append,hw,Ei,List.take_zero,A3,Ct (by omega)]
 ·rw[List.drop_append,BL (by rw[Ag,hl,hw];omega),A8,Ag,hl,hw,Bj]
  congr 2;omega
theorem OTp.ins{h h':za}{bf:Nat->List Nat}(H:OTp h v sk si bk bb b cs bf)(hk:k<=v.items.length){w:Tr}{bw:List Nat}(ow:OT h' w bw cw)
  (hf:∀i,i<v.items.length->∀c∈bf i,h'[c]?=h[c]?) {aa:Sl} {b':Nat} {cs':Array Value} (e1:aa.a=some ⟨b',0,none⟩) (e2:Blk h' b' cs') (e3:aa.len=v.items.length+1) (e4:v.items.length+1<=aa.cap) (e5:aa.cap*4<=cs'.size) (e6:v.items.length+1<=140737488355328)
  (e7:cut cs' 0 ((v.items.length+1)*4)=(cut cs 0 (v.items.length*4)).take (k*4)++cw++(cut cs 0 (v.items.length*4)).drop (k*4)) (am:∀i,i<v.items.length->b'∉bf i) (ax:b'∉bw) (hw:∀c∈bw,∀i,i<v.items.length->c∉bf i)
  {ah:List Bt} {ai:Sl} {ab:List Nat} (ok:OKeys h' ah ab ai) (nk:ab.Nodup) (az:b'∉ab) (au:∀c∈ab,∀i,i<v.items.length->c∉bf i) (ap:∀c∈ab,c∉bw):
  OTp h' (.mk v.kind v.text ah (v.items.take k++w::v.items.drop k)) ai aa ab [b'] b' cs' (λi=>if i<k then bf i else if i=k then bw else bf (i-1)):=by
 have Z:(v.items.take k++w::v.items.drop k).length=v.items.length+1:=by simp;omega
 have ar:∀i (hx:i<v.items.length),(cut cs 0 (v.items.length*4)).length=v.items.length*4:=by
  intro i hx
  rcases H.hz with⟨h0,_⟩|⟨_,_,_,aA⟩
  ·rw[h0]at hx;simp at hx
  ·unfold cut;simp;have:=H.hn.2.2;omega
 have af:(cut cs 0 (v.items.length*4)).length=v.items.length*4:=by
  by_cases h0:0<v.items.length
  ·exact ar 0 h0
  ·have:v.items.length=0:=by omega
   rw[this];unfold cut;simp
 have an:cw.length=4:=ow.len
 obtain⟨c1,c2,c3⟩:=qbs af an hk
 have ak:∀i,i<v.items.length+1->∀c,c∈(if i<k then bf i else if i=k then bw else bf (i-1))->(∃j,j<v.items.length/\c∈bf j)\/c∈bw:=by
  intro i hi c hc
  split at hc
  ·exact .inl ⟨i,by omega,hc⟩
  ·split at hc
   ·exact .inr hc
   ·exact .inl ⟨i-1,by omega,hc⟩
 refine⟨ok,⟨by show aa.len=(v.items.take k++w::v.items.drop k).length;rw[Z];exact e3,by show(v.items.take k++w::v.items.drop k).length<=_;rw[Z];exact e6,by show(v.items.take k++w::v.items.drop k).length<=_;rw[Z];exact e4⟩,.inr ⟨rfl,e1,e2,e5⟩,λi hx=>?_,nk,λc hc hm=>?_,λc hc i hi hm=>?_,λc hc i hi hm=>?_,λi j hi hj ay c hc hm=>?_⟩
 ·have aj:i<(v.items.take k++w::v.items.drop k).length:=hx
  have aB:i<v.items.length+1:=by rw[<-Z];exact aj
  rw[znf (n:=(v.items.length+1)*4) (by omega),e7]
  show OT h' (v.items.take k++w::v.items.drop k)[i] _ _
  rcases qbr hk aj with⟨hi,h2,e⟩|⟨hi,e⟩|⟨hi,h2,e⟩
  ·rw[e,if_pos hi,c1 i hi,<-znf (by omega)]
   exact(H.hi i h2).frame (hf i h2)
  ·subst hi
   rw[e,if_neg (by omega),if_pos rfl,c2];exact ow
  ·rw[e,if_neg (by omega),if_neg (by omega),c3 i hi,<-znf (by omega)]
   exact(H.hi (i-1) h2).frame (hf (i-1) h2)
 ·simp at hm;subst hm;exact az hc
 ·have ae:i<v.items.length+1:=by rw[<-Z];exact hi
  rcases ak i ae c hm with⟨j,hj,hm⟩|hm
  ·exact au c hc j hj hm
  ·exact ap c hc hm
 ·have ae:i<v.items.length+1:=by rw[<-Z];exact hi
  simp at hc;subst hc
  rcases ak i ae c hm with⟨j,hj,hm⟩|hm
  ·exact am j hj hm
  ·exact ax hm
 ·have ae:i<v.items.length+1:=by rw[<-Z];exact hi
  have aC:j<v.items.length+1:=by rw[<-Z];exact hj
  try simp only at hc hm
  split at hc
  ·split at hm
   ·exact H.d4 i j (by omega) (by omega) ay c hc hm
   ·split at hm
    ·exact hw c hm i (by omega) hc
    ·exact H.d4 i (j-1) (by omega) (by omega) (by omega) c hc hm
  ·split at hc
   ·split at hm
    ·exact hw c hc j (by omega) hm
    ·split at hm
     ·omega
     ·exact hw c hc (j-1) (by omega) hm
   ·split at hm
    ·exact H.d4 (i-1) j (by omega) (by omega) (by omega) c hc hm
    ·split at hm
     ·exact hw c hm (i-1) (by omega) hc
     ·exact H.d4 (i-1) (j-1) (by omega) (by omega) (by omega) c hc hm
end
section
variable {cs:Array Value} {o n b:Nat} {h:za}
theorem zco(h:o+n<=cs.size):(cut cs o n).length=n:=by unfold cut;simp;omega
theorem z1u(H:Blk h b cs):Arr h.size h (some ⟨b,o,none⟩) (cut cs o n):=by
 refine .inr ⟨b,o,rfl,H.lt,λi v hv=>H.cell ?_⟩
 rw[yk]at hv
 split at hv
 ·rw[<-BP];exact hv
 ·cases hv
theorem z1v{P:Program}(H:Blk h b cs){vs:List Value}(hl:o+vs.length<=cs.size)(h1:∀u∈vs,u.oneCell'=true)(B:World)(d:Nat):
  ∃h',(storeCells ⟨b,o,none⟩ vs 0).run P (mk B d h)=.ok () (mk B d h')/\Blk h' b (upd cs o vs)/\h'.size=h.size/\∀j,j≠b->h'[j]?=h[j]?:=by
 obtain⟨T,e⟩:=H
 obtain⟨h',r1,r2,r3,r4⟩:=zo2 (P:=P) e hl h1 B d
 exact⟨h',r1,⟨T,r2⟩,r3,r4⟩
end
section
variable {cs:Array Value} {vs:List Value}
structure RowO (h:za) (s:Sl) (b:Nat) (cs:Array Value) (sz:Nat):Prop where
 le:s.len<=s.cap
 at_:(s.len=0/\s.cap=0)\/(s.a=some ⟨b,0,none⟩/\Blk h b cs/\s.cap*sz<=cs.size)
structure RowN (h h':za) (s':Sl) (b b':Nat) (cs':Array Value) (sz n:Nat) (cells:List Value):Prop where
 a:s'.a=some ⟨b',0,none⟩
 len:s'.len=n
 cap:n<=s'.cap
 blk:Blk h' b' cs'
 size:s'.cap*sz<=cs'.size
 cut:cut cs' 0 (n*sz)=cells
 new:b'=b\/h.size<=b'
 grow:h.size<=h'.size
 old:∀j,j<h.size->j≠b'->h'[j]?=h[j]?
theorem qbt{n m:Nat}(hl:n+vs.length<=cs.size)(hm:m=n+vs.length):cut (upd cs n vs) 0 m=cut cs 0 n++vs:=by
 subst hm
 have Z:(cut cs 0 n).length=n:=zco (by omega)
 apply BC
 intro q
 rw[yk]
 split
 ·rename_i hq
  rw[AK,qa8 hl]
  split
  ·rename_i h1
   rw[Bv (by rw[Z];exact h1),yk,if_pos h1,AK]
  ·rename_i h1
   rw[Bi (by rw[Z];omega),Z]
 ·rename_i hq
  rw[BS]
  rw[Ag,Z];omega
theorem zng{P:Program}{t e:TypeId}{z:Value}{sz bytes:Nat}(T:ElemT P t e z sz bytes){ty:TypeId}{h:za}{s:Sl}{b:Nat}(H:RowO h s b cs sz){bv cv:Nat}(hv:Blk h bv vs.toArray)(aa:vs.length=sz)(h1:∀u∈vs,u.oneCell'=true)(hb:(s.len+1)*bytes<=140737488355328)(hm:s.len+1<=140737488355328){K:Value->za->Prop}
  (hK:∀(s':Sl) (h':za) (b':Nat) (cs':Array Value),RowN h h' s' b b' cs' sz (s.len+1) (cut cs 0 (s.len*sz)++vs)->K (.slice s'.a s'.len s'.cap) h'):
  Z5 P (AB #[t,t] ty #[.slice s.a s.len s.cap,.slice (some ⟨bv,0,none⟩) 1 cv]) h K:=by
 intro B d
 have ah:Arr h.size h (some ⟨bv,0,none⟩) vs:=by
  have:=z1u hv (o:=0) (n:=vs.length)
  rw[show cut vs.toArray 0 vs.length=vs by unfold cut;simp]at this
  exact this
 have hS:∀B d,Src P sz t (.slice (some ⟨bv,0,none⟩) 1 cv) 1 vs (mk B d h):=λB d=>zo1 (P:=P) (s:=⟨some ⟨bv,0,none⟩,1,cv⟩) ah (by simp[aa]) T.pos h1 T.slice B d
 have m0:(s.len+1)*sz=s.len*sz+sz:=C4 _ _
 by_cases hr:s.len+1<=s.cap
 ·rcases H.at_ with⟨_,h0⟩|⟨ha,ab,hc⟩
  ·omega
  have m1:(s.len+1)*sz<=s.cap*sz:=AP _ hr
  obtain⟨h',r1,r2,r3,r4⟩:=z1v (P:=P) ab (o:=s.len*sz) (vs:=vs) (by rw[aa];omega) h1 B d
  have ae:=Q3 (P:=P) (ty:=ty) T (s:=s) (h':=h') (hS B d) hr (λp hp=>by
   rw[ha]at hp
   cases hp
   rw[zu,AK];exact r1) (λhn=>by rw[ha]at hn;cases hn)
  refine⟨_,d,h',ae,hK ⟨s.a,s.len+1,s.cap⟩ h' b _ ⟨ha,rfl,hr,r2,by rw[zuw (by rw[aa];omega)];exact hc,qbt (by rw[aa];omega) (by rw[aa];exact m0),.inl rfl,by omega,λj hj af=>r4 j af⟩⟩
 ·have Z:Arr h.size h s.a (cut cs 0 (s.len*sz))/\(cut cs 0 (s.len*sz)).length=s.len*sz:=by
   rcases H.at_ with⟨h0,_⟩|⟨ha,ab,hc⟩
   ·rw[h0,Dp];exact⟨.inl (by unfold cut;simp),by unfold cut;simp⟩
   ·have m1:s.len*sz<=s.cap*sz:=AP _ H.le
    rw[ha];exact⟨z1u ab,zco (by omega)⟩
  obtain⟨c,blk,q1,q2,q3,q4,q5⟩:=We (P:=P) (ty:=ty) (base:=0) T Z.2 (λB d=>Q2 Z.1 Z.2 T.pos B d) hS hb hm (Cv _) (by omega) B d
  refine⟨_,d+1,_,q1,hK ⟨some ⟨h.size,0,none⟩,s.len+1,c⟩ _ h.size blk ⟨rfl,rfl,q2,Blk.new _ _ _,by rw[q4];exact Ac _,by unfold cut;rw[Cc];exact q5,.inr (Ac _),by simp,λj hj af=>by rw[BV,if_neg (by omega)]⟩⟩
end
end Go.X
end
section
namespace Go.X
section
variable {lo:Nat} {h h':za} {M M':Fr} {s:Sl} {bs:List Nat}
def ORow(lo:Nat)(h:za)(M:Fr)(T:Ty)(xs:List (El T))(s:Sl)(bs:List Nat):Prop:=
 (xs=[]/\s.len=0/\s.cap=0/\bs=[])\/∃(b:Nat) (cs:Array Value),bs=[b]/\s.a=some ⟨b,0,none⟩/\s.len=xs.length/\s.len<=s.cap/\Blk h b cs/\s.cap*sz T<=cs.size/\lo<=b/\M b=none/\∀i (hi:i<xs.length),Rd M T xs[i] (cut cs (i*sz T) (sz T))
theorem ORow.nil{T:Ty}:ORow lo h M T [] ⟨none,0,0⟩ []:=.inl ⟨rfl,rfl,rfl,rfl⟩
theorem ORow.len{T:Ty}{xs:List (El T)}(H:ORow lo h M T xs s bs):s.len=xs.length:=by
 rcases H with⟨rfl,h1,_⟩|⟨b,cs,_,_,h1,_⟩
 ·exact h1
 ·exact h1
theorem ORow.own{T:Ty}{xs:List (El T)}(H:ORow lo h M T xs s bs):∀c∈bs,lo<=c/\c<h.size/\M c=none:=by
 rcases H with⟨_,_,_,rfl⟩|⟨b,cs,rfl,_,_,_,e,_,h1,h2,_⟩
 ·intro c hc;cases hc
 ·intro c hc
  rw[A6.1 hc]
  exact⟨h1,e.lt,h2⟩
theorem ORow.frame{T:Ty}{xs:List (El T)}(H:ORow lo h M T xs s bs)(f:∀c∈bs,h'[c]?=h[c]?)(le:Fr.le M M')(no:∀c∈bs,M' c=none):ORow lo h' M' T xs s bs:=by
 rcases H with H|⟨b,cs,rfl,h1,h2,h3,h4,h5,h6,h7,h8⟩
 ·exact .inl H
 ·refine .inr ⟨b,cs,rfl,h1,h2,h3,?_,h5,h6,no b (by simp),λi hi=>Rd.mono le (h8 i hi)⟩
  unfold Blk at h4 ⊢
  rw[f b (by simp)];exact h4
theorem ORow.call{T:Ty}{xs:List (El T)}(H:ORow lo h M T xs s bs)(L:Later h M h' M'):ORow lo h' M' T xs s bs:=by
 refine H.frame (λc hc=>L.keep.get c (H.own c hc).2.1) L.le λc hc=>?_
 rw[L.old c (H.own c hc).2.1];exact(H.own c hc).2.2
theorem ORow.rd{T:Ty}{xs:List (El T)}{bs all:List Nat}(H:ORow lo h M T xs s bs)(ag:AgM M h)(ha:∀c∈bs,c∈all)(hn:xs.length<=1000000):Rd (MxL M h all) (.row T) xs [slV s]:=by
 rcases H with⟨rfl,h1,h2,rfl⟩|⟨b,cs,rfl,h1,h2,h3,h4,h5,h6,h7,h8⟩
 ·refine⟨_,rfl,s.a,s.cap,?_,⟨by simp,by simp⟩,.inl rfl⟩
  show slV s=_
  unfold slV;rw[h1];rfl
 ·refine⟨_,rfl,s.a,s.cap,?_,⟨by omega,by omega⟩,?_⟩
  ·unfold slV;rw[h2]
  ·by_cases he:xs=[]
   ·exact .inl he
   ·refine .inr ⟨b,0,cs,h1,MxL.at (ha b (by simp)) h4,λi hi=>?_⟩
    rw[AK]
    exact Rd.mono (zig ag all) (h8 i hi)
theorem ORow.app{t e:TypeId}{z:Value}{bytes:Nat}{T:Ty}(E:ElemT Tp t e z (sz T) bytes)(am:bytes<=1000){ty:TypeId}{xs:List (El T)}(ag:AgM M h)(H:ORow lo h M T xs s bs)(ax:lo<=h.size){bv cv:Nat}{vs:List Value}{x:El T}(hv:Blk h bv vs.toArray)(hx:Rd M T x vs)(hn:xs.length<=1000000){K:Value->za->Prop}
  (hK:∀(s':Sl) (h':za) (af:List Nat),ORow lo h' M T (xs++[x]) s' af->h.size<=h'.size->(∀c∈af,c∈bs\/h.size<=c)->(∀j,j<h.size->j∉bs->h'[j]?=h[j]?)->K (.slice s'.a s'.len s'.cap) h'):
  Z5 Tp (AB #[t,t] ty #[.slice s.a s.len s.cap,.slice (some ⟨bv,0,none⟩) 1 cv]) h K:=by
 have an:vs.length=sz T:=Rd.len hx
 have h1:∀u∈vs,u.oneCell'=true:=Rd.one hx
 have ab:=H.len
 have au:∀c,h.size<=c->M c=none:=by
  intro c hc
  cases e:M c with
  |none=>rfl
  |some cs=>have:=ag.lt e;omega
 obtain⟨b,cs,Z,hb,ap⟩:∃b cs,RowO h s b cs (sz T)/\((bs=[b]/\lo<=b/\M b=none)\/(b=h.size/\bs=[]))/\∀i (hi:i<xs.length),i*sz T+sz T<=cs.size/\Rd M T xs[i] (cut cs (i*sz T) (sz T)):=by
  rcases H with⟨rfl,e1,e2,rfl⟩|⟨b,cs,rfl,e1,e2,e3,e4,e5,e6,e7,e8⟩
  ·exact⟨h.size,#[],⟨by omega,.inl ⟨e1,e2⟩⟩,.inr ⟨rfl,rfl⟩,λi hi=>by simp at hi⟩
  ·refine⟨b,cs,⟨e3,.inr ⟨e1,e4,e5⟩⟩,.inl ⟨rfl,e6,e7⟩,λi hi=>⟨?_,e8 i hi⟩⟩
   have:(i+1)*sz T<=s.cap*sz T:=AP _ (by omega)
   rw[C4]at this;omega
 have ai:(s.len+1)*bytes<=140737488355328:=by
  have:(s.len+1)*bytes<=1000001*1000:=Nat.mul_le_mul (by omega) am
  omega
 refine zng E Z hv an h1 ai (by omega) λs' h' b' cs' N=>?_
 have aa:(b'∈bs/\lo<=b'/\M b'=none)\/h.size<=b':=by
  rcases N.new with e|e
  ·rcases hb with⟨q1,q2,q3⟩|⟨q1,_⟩
   ·subst e;exact .inl ⟨by rw[q1];simp,q2,q3⟩
   ·exact .inr (by omega)
  ·exact .inr e
 refine hK s' h' [b'] (.inr ⟨b',cs',rfl,N.a,by rw[N.len,Ag,ab];rfl,by rw[N.len];exact N.cap,N.blk,N.size,?_,?_,λi hi=>?_⟩) N.grow (λc hc=>?_) λj hj hn=>N.old j hj λe=>?_
 ·rcases aa with q|q
  ·exact q.2.1
  ·omega
 ·rcases aa with q|q
  ·exact q.2.2
  ·exact au b' q
 ·have ah:=N.cut
  have ay:i<xs.length+1:=by simpa using hi
  have hm:(i+1)*sz T<=(s.len+1)*sz T:=AP _ (by omega)
  have aA:(i+1)*sz T=i*sz T+sz T:=C4 _ _
  have az:(s.len+1)*sz T=s.len*sz T+sz T:=C4 _ _
  have key:∀q,q<sz T->(cut cs' (i*sz T) (sz T))[q]?=(cut cs 0 (s.len*sz T)++vs)[i*sz T+q]?:=by
   intro q hq
   rw[yk,if_pos hq,<-ah,yk,if_pos (by omega),AK]
  by_cases ae:i<xs.length
  ·rw[De ae]
   obtain⟨g1,g2⟩:=ap i ae
   have aB:(i+1)*sz T<=s.len*sz T:=AP _ (by omega)
   have e:cut cs' (i*sz T) (sz T)=cut cs (i*sz T) (sz T):=by
    apply BC
    intro q
    by_cases hq:q<sz T
    ·rw[key q hq,Bv ?_,yk,yk,if_pos hq,if_pos (by omega),AK]
     have aj:s.len*sz T<=cs.size:=by
      rcases Z.at_ with⟨q1,q2⟩|⟨_,_,q3⟩
      ·omega
      ·have:s.len*sz T<=s.cap*sz T:=AP _ Z.le
       omega
     rw[zco (by omega)];omega
    ·rw[yk,yk,if_neg hq,if_neg hq]
   rw[e];exact g2
  ·have ak:i=xs.length:=by omega
   subst ak
   rw[Db (Ac _)]
   have ar:(cut cs 0 (s.len*sz T)).length=xs.length*sz T:=by
    rcases Z.at_ with⟨q1,q2⟩|⟨_,_,q3⟩
    ·have:xs.length=0:=by omega
     rw[q1,this];unfold cut;simp
    ·have:s.len*sz T<=s.cap*sz T:=AP _ Z.le
     rw[zco (by omega),ab]
   have e:cut cs' (xs.length*sz T) (sz T)=vs:=by
    apply BC
    intro q
    by_cases hq:q<sz T
    ·rw[key q hq,Bi (by omega),ar]
     congr 1;omega
    ·rw[yk,if_neg hq,BS (by omega)]
   rw[e]
   simpa using hx
 ·rw[A6.1 hc]
  rcases aa with q|q
  ·exact .inl q.1
  ·exact .inr q
 ·rcases aa with q|q
  ·exact hn (by rw[e];exact q.1)
  ·omega
end
end Go.X
end
section
namespace Go.X
open Go Go.X Go.Proofs Go.RowKit
section
variable {cs:Array Value} {o n q z b bv cv lo c:Nat} {l:List Value} {g g':za} {t e ty:TypeId} {zv v:Value} {K:Value -> za -> Prop} {M:Fr}
abbrev tSp:Ty:=.pair (.int .i64) (.int .i64)
abbrev tNd:Ty:=.pair (.int .i64) (.pair tSp (.pair tSp (.pair (.row (.int .i64)) (.row tSp))))
structure Ax where
 ks:Sl
 kb:List Nat
 ps:Sl
 pb:List Nat
def ax0:Ax:=⟨⟨none,0,0⟩,[],⟨none,0,0⟩,[]⟩
def ndC(p:Nd×Ax):List Value:=[.int .i64 p.1.1,.int .i64 p.1.2.1.1,.int .i64 p.1.2.1.2,.int .i64 p.1.2.2.1.1,.int .i64 p.1.2.2.1.2,slV p.2.ks,slV p.2.ps]
structure CR (g:za) (z:Nat) (els:List (List Value)) (sl:Sl) (b:Nat) (cs:Array Value):Prop where
 ro:RowO g sl b cs z
 ln:sl.len=els.length
 el:∀(i:Nat) (e:List Value),els[i]?=some e->(i+1)*z<=cs.size/\cut cs (i*z) z=e
theorem zta(hl:l.length=n)(h:∀q,q<n->cs.toList[o+q]?=l[q]?):cut cs o n=l:=by
 apply BC
 intro q
 rw[yk]
 split
 ·rename_i hq;exact h q hq
 ·rename_i hq;rw[BS (by omega)]
theorem zu9(h:cut cs o n=l)(hq:q<n):cs.toList[o+q]?=l[q]?:=by rw[<-h,yk,if_pos hq]
theorem CR.blk{els:List (List Value)}{sl:Sl}(H:CR g z els sl b cs)(hn:els≠[]):sl.a=some ⟨b,0,none⟩/\Blk g b cs:=by
 rcases H.ro.at_ with⟨h1,_⟩|⟨h1,h2,_⟩
 ·have:=H.ln;rw[h1]at this;exact absurd (A7.1 this.symm) hn
 ·exact⟨h1,h2⟩
theorem CR.frame{els:List (List Value)}{sl:Sl}(H:CR g z els sl b cs)(f:els≠[]\/sl.cap≠0->g'[b]?=g[b]?):CR g' z els sl b cs:=by
 refine⟨⟨H.ro.le,?_⟩,H.ln,H.el⟩
 rcases H.ro.at_ with h1|⟨h1,h2,h3⟩
 ·exact .inl h1
 ·by_cases hc:sl.cap=0
  ·exact .inl ⟨by have:=H.ro.le;omega,hc⟩
  ·exact .inr ⟨h1,h2.keep (f (.inr hc)),h3⟩
theorem CR.app{bytes z:Nat}(E:ElemT Tp t e zv z bytes)(am:bytes<=1000){els:List (List Value)}{sl:Sl}(H:CR g z els sl b cs){vs:List Value}(hv:Blk g bv vs.toArray)(ae:vs.length=z)(h1:∀u∈vs,u.oneCell'=true)(hn:els.length<=1000000)
  (hK:∀(s':Sl) (g':za) (b':Nat) (cs':Array Value),CR g' z (els++[vs]) s' b' cs'->g.size<=g'.size->((b'=b/\¬(sl.len=0/\sl.cap=0))\/g.size<=b')->b'<g'.size->(∀j,j<g.size->j≠b'->g'[j]?=g[j]?)->K (.slice s'.a s'.len s'.cap) g'):
  Z5 Tp (AB #[t,t] ty #[.slice sl.a sl.len sl.cap,.slice (some ⟨bv,0,none⟩) 1 cv]) g K:=by
 have Z:=H.ln
 have ai:(sl.len+1)*bytes<=140737488355328:=by
  have:(sl.len+1)*bytes<=1000001*1000:=Nat.mul_le_mul (by omega) am
  omega
 obtain⟨b0,aa,ap,aj,af⟩:∃b0 aa,RowO g sl b0 aa z/\((b0=b/\¬(sl.len=0/\sl.cap=0))\/g.size<=b0)/\(∀(i:Nat) (e:List Value),els[i]?=some e->(i+1)*z<=aa.size/\cut aa (i*z) z=e):=by
  by_cases h0:sl.len=0/\sl.cap=0
  ·have he:els=[]:=A7.1 (by omega)
   exact⟨g.size,#[],⟨H.ro.le,.inl h0⟩,.inr (Ac _),λi e hi=>by rw[he]at hi;cases hi⟩
  ·exact⟨b,cs,H.ro,.inl ⟨rfl,h0⟩,H.el⟩
 refine zng E ap hv ae h1 ai (by omega) λs' g' b' cs' N=>hK s' g' b' cs' ⟨⟨by rw[N.len];exact N.cap,.inr ⟨N.a,N.blk,N.size⟩⟩,by rw[N.len,Ag,Z];rfl,λi e hi=>?_⟩ N.grow ?_ N.blk.lt N.old
 ·have au:i<els.length+1:=by
   have:=(AF.1 hi).1
   rw[Ag]at this;exact this
  have hm:(i+1)*z<=(sl.len+1)*z:=AP _ (by omega)
  have az:(sl.len+1)*z<=s'.cap*z:=AP _ N.cap
  have ay:(i+1)*z=i*z+z:=C4 _ _
  have ax:(sl.len+1)*z=sl.len*z+z:=C4 _ _
  have:=N.size
  refine⟨by omega,?_⟩
  have ah:=N.cut
  have key:∀q,i*z+q<(sl.len+1)*z->cs'.toList[i*z+q]?=(cut aa 0 (sl.len*z)++vs)[i*z+q]?:=λq hq=>by rw[<-ah,yk,if_pos hq,AK]
  have ab:(cut aa 0 (sl.len*z)).length=sl.len*z:=by
   by_cases h0:els=[]
   ·have:sl.len=0:=by rw[Z,h0];rfl
    rw[this,Dp];unfold cut;simp
   ·have hl:els.length-1<els.length:=by have:=Bf.2 h0;omega
    have:=(af (els.length-1) _ (Aq hl)).1
    rw[show els.length-1+1=els.length by omega,<-Z]at this
    exact zco (by omega)
  by_cases an:i<els.length
  ·rw[Bv an]at hi
   obtain⟨q1,q2⟩:=af i e hi
   have ar:(i+1)*z<=sl.len*z:=AP _ (by omega)
   refine zta (by rw[<-q2];exact zco (by omega)) λq hq=>?_
   rw[key q (by omega),Bv (by rw[ab];omega),yk,if_pos (by omega),AK]
   exact zu9 q2 hq
  ·have ak:i=els.length:=by omega
   subst ak
   rw[Bi (Ac _),Ei]at hi
   cases hi
   refine zta ae λq hq=>?_
   have e1:els.length*z=sl.len*z:=by rw[Z]
   rw[key q (by omega),Bi (by rw[ab];omega),ab]
   congr 1;omega
 ·rcases N.new with e|e
  ·rcases aj with q|q
   ·exact .inl ⟨e.trans q.1,q.2⟩
   ·exact .inr (by omega)
  ·exact .inr e
theorem CR.set{els:List (List Value)}{sl:Sl}(H:CR g z els sl b cs)(hn:n<els.length)(hq:q<z)(B:Blk g' b (cs.setIfInBounds (n*z+q) v)):CR g' z (els.modify n (·.set q v)) sl b (cs.setIfInBounds (n*z+q) v):=by
 have ab:els≠[]:=λh=>by rw[h]at hn;simp at hn
 have h1:=(H.blk ab).1
 refine⟨⟨H.ro.le,?_⟩,by rw[List.length_modify];exact H.ln,λi e hi=>?_⟩
 ·rcases H.ro.at_ with⟨h2,_⟩|⟨h2,_,h3⟩
  ·have:=H.ln;omega
  ·exact .inr ⟨h2,B,by rw[AU];exact h3⟩
 ·rw[BF]at hi
  cases hx:els[i]? with
  |none=>rw[hx]at hi;cases hi
  |some x=>
   rw[hx]at hi
   obtain⟨q1,q2⟩:=H.el i x hx
   have af:(i+1)*z=i*z+z:=C4 _ _
   have ae:x.length=z:=by rw[<-q2];exact zco (by omega)
   rw[AU]
   refine⟨q1,?_⟩
   have hi:(if n=i then x.set q v else x)=e:=by simpa using hi
   rw[<-hi]
   refine zta (by split <;> simp[ae]) λr hr=>?_
   rw[Array.toList_setIfInBounds,List.getElem?_set]
   by_cases Z:n=i
   ·subst Z
    rw[if_pos rfl,List.getElem?_set]
    by_cases aa:q=r
    ·subst aa
     rw[if_pos rfl,if_pos rfl,if_pos (by rw[CM];omega),if_pos (by omega)]
    ·rw[if_neg (by omega),if_neg aa];exact zu9 q2 hr
   ·rw[if_neg Z,if_neg ?_]
    ·exact zu9 q2 hr
    ·intro he
     rcases Nat.lt_or_gt_of_ne Z with h|h
     ·have:(n+1)*z<=i*z:=AP _ h
      rw[C4]at this;omega
     ·have:(i+1)*z<=n*z:=AP _ h
      omega
abbrev NA:=List (Nd×Ax)
def axO(p:Nd×Ax)(c:Nat):Prop:=c∈p.2.kb\/c∈p.2.pb
def nsO(na:NA)(sl:Sl)(b c:Nat):Prop:=(sl.cap≠0/\c=b)\/∃p∈na,axO p c
structure NdI (lo:Nat) (g:za) (M:Fr) (p:Nd×Ax):Prop where
 kk:ORow lo g M (.int .i64) p.1.2.2.2.1 p.2.ks p.2.kb
 pp:ORow lo g M tSp p.1.2.2.2.2 p.2.ps p.2.pb
 dd:∀c∈p.2.kb,c∉p.2.pb
structure NS (lo:Nat) (g:za) (M:Fr) (na:NA) (sl:Sl) (b:Nat) (cs:Array Value):Prop where
 cr:CR g 7 (na.map ndC) sl b cs
 lb:sl.cap≠0->lo<=b/\b<g.size/\M b=none
 nd:∀p∈na,NdI lo g M p
 dj:∀(i j:Nat) (p p':Nd×Ax) (c:Nat),na[i]?=some p->na[j]?=some p'->axO p c->axO p' c->i=j
 nb:∀p∈na,¬axO p b
theorem NS.len{na:NA}{sl:Sl}(H:NS lo g M na sl b cs):sl.len=na.length:=by rw[H.cr.ln,AH]
theorem NdI.own{p:Nd×Ax}(H:NdI lo g M p)(h:axO p c):lo<=c/\c<g.size/\M c=none:=by
 rcases h with h|h
 ·exact H.kk.own c h
 ·exact H.pp.own c h
theorem NS.own{na:NA}{sl:Sl}(H:NS lo g M na sl b cs)(h:nsO na sl b c):lo<=c/\c<g.size/\M c=none:=by
 rcases h with⟨h1,rfl⟩|⟨p,hp,h⟩
 ·exact H.lb h1
 ·exact(H.nd p hp).own h
theorem NdI.frame{p:Nd×Ax}(H:NdI lo g M p)(f:∀c,axO p c->g'[c]?=g[c]?):NdI lo g' M p:=
 ⟨H.kk.frame (λc hc=>f c (.inl hc)) (Fr.le.refl _) λc hc=>(H.kk.own c hc).2.2,H.pp.frame (λc hc=>f c (.inr hc)) (Fr.le.refl _) λc hc=>(H.pp.own c hc).2.2,H.dd⟩
theorem NS.frame{na:NA}{sl:Sl}(H:NS lo g M na sl b cs)(hz:g.size<=g'.size)(f:∀c,nsO na sl b c->g'[c]?=g[c]?):NS lo g' M na sl b cs:=by
 refine⟨H.cr.frame λh=>f b (.inl ⟨?_,rfl⟩),λh=>by have:=H.lb h;exact⟨this.1,by omega,this.2.2⟩,λp hp=>(H.nd p hp).frame λc hc=>f c (.inr ⟨p,hp,hc⟩),H.dj,H.nb⟩
 rcases h with h|h
 ·have:=H.cr.ln
  have h2:=H.cr.ro.le
  have:=Bf.2 h
  omega
 ·exact h
theorem NS.nil:NS lo g M [] ⟨none,0,0⟩ b cs:=
 ⟨⟨⟨Ac _,.inl ⟨rfl,rfl⟩⟩,rfl,λi e h=>(by cases h)⟩,λh=>absurd rfl h,λp hp=>(by cases hp),λi j p p' c h=>(by cases h),λp hp=>(by cases hp)⟩
theorem z1w(p:Nd×Ax):∀u∈ndC p,u.oneCell'=true:=by
 intro u hu
 unfold ndC slV at hu
 simp at hu
 rcases hu with rfl|rfl|rfl|rfl|rfl|rfl|rfl <;> rfl
theorem NS.push{bytes:Nat}(E:ElemT Tp t e zv 7 bytes)(aj:bytes<=1000)(ag:AgM M g)(an:lo<=g.size){na:NA}{sl:Sl}(H:NS lo g M na sl b cs){x:Nd}(am:x.2.2.2.1=[])(ai:x.2.2.2.2=[])(hv:Blk g bv (ndC (x,ax0)).toArray)(hn:na.length<=1000000)
  (hK:∀(s':Sl) (g':za) (b':Nat) (cs':Array Value),NS lo g' M (na++[(x,ax0)]) s' b' cs'->g.size<=g'.size->(∀c,nsO (na++[(x,ax0)]) s' b' c->nsO na sl b c\/g.size<=c)->(∀j,j<g.size->¬nsO na sl b j->g'[j]?=g[j]?)->K (.slice s'.a s'.len s'.cap) g'):
  Z5 Tp (AB #[t,t] ty #[.slice sl.a sl.len sl.cap,.slice (some ⟨bv,0,none⟩) 1 cv]) g K:=by
 have ak:∀c,g.size<=c->M c=none:=by
  intro c hc
  cases e:M c with
  |none=>rfl
  |some cs=>have:=ag.lt e;omega
 refine CR.app E aj H.cr hv rfl (z1w _) (by rw[AH];exact hn) λs' g' b' cs' C z1 ab ae fr=>?_
 have aa:nsO na sl b b'\/g.size<=b':=by
  rcases ab with⟨e1,e2⟩|e1
  ·exact .inl (.inl ⟨by have:=H.cr.ro.le;omega,e1⟩)
  ·exact .inr e1
 have ah:∀p∈na,¬axO p b':=λp hp hc=>by
  rcases ab with⟨e1,_⟩|e1
  ·rw[e1]at hc;exact H.nb p hp hc
  ·have:=((H.nd p hp).own hc).2.1;omega
 have Z:∀c,¬axO (x,ax0) c:=λc hc=>by
  rcases hc with hc|hc <;> exact absurd hc (by simp[ax0])
 have mem:∀p∈na++[(x,ax0)],p∈na\/p=(x,ax0):=λp hp=>by simpa using hp
 refine hK s' g' b' cs' ⟨by rw[BW];exact C,λ_=>?_,λp hp=>?_,?_,λp hp=>?_⟩ z1 (λc hc=>?_) (λj hj hn=>fr j hj λe=>?_)
 ·rcases aa with h|h
  ·have:=H.own h;exact⟨this.1,ae,this.2.2⟩
  ·exact⟨by omega,ae,ak b' h⟩
 ·rcases mem p hp with hp|rfl
  ·exact(H.nd p hp).frame λc hc=>fr c ((H.nd p hp).own hc).2.1 λe=>ah p hp (e ▸ hc)
  ·refine⟨?_,?_,λc hc=>by simp[ax0]at hc⟩
   ·show ORow lo g' M (.int .i64) x.2.2.2.1 _ _;rw[am];exact .nil
   ·show ORow lo g' M tSp x.2.2.2.2 _ _;rw[ai];exact .nil
 ·intro i j p p' c hi hj hc af
  have q:∀(i:Nat) (p:Nd×Ax),(na++[(x,ax0)])[i]?=some p->axO p c->na[i]?=some p:=λi p hi hc=>by
   rw[List.getElem?_append]at hi
   split at hi
   ·exact hi
   ·have:=Bh hi
    rw[A6]at this
    subst this
    exact absurd hc (Z c)
  exact H.dj i j p p' c (q i p hi hc) (q j p' hj af) hc af
 ·rcases mem p hp with hp|rfl
  ·exact ah p hp
  ·exact Z _
 ·rcases hc with⟨_,rfl⟩|⟨p,hp,hc⟩
  ·exact aa
  ·rcases mem p hp with hp|rfl
   ·exact .inl (.inr ⟨p,hp,hc⟩)
   ·exact absurd hc (Z c)
 ·subst e
  rcases aa with h|h
  ·exact hn h
  ·omega
theorem NS.upd{na:NA}{sl:Sl}(H:NS lo g M na sl b cs)(hn:n<na.length){f:Nd×Ax->Nd×Ax}(hq:q<7)(B:Blk g' b (cs.setIfInBounds (n*7+q) v))(hz:g.size<=g'.size)(hc:ndC (f na[n])=(ndC na[n]).set q v)(hI:NdI lo g' M (f na[n]))(ho:∀c,axO (f na[n]) c->axO na[n] c\/g.size<=c)(fr:∀j,j<g.size->j≠b->¬axO na[n] j->g'[j]?=g[j]?):
  NS lo g' M (na.modify n f) sl b (cs.setIfInBounds (n*7+q) v)/\∀c,nsO (na.modify n f) sl b c->nsO na sl b c\/g.size<=c:=by
 have Z:na[n]?=some na[n]:=Aq hn
 have mem:∀p∈na.modify n f,p=f na[n]\/∃j,j≠n/\na[j]?=some p:=λp hp=>by
  obtain⟨j,hj⟩:=List.mem_iff_getElem?.1 hp
  rw[BF]at hj
  by_cases e:n=j
  ·subst e;rw[Z]at hj;left;simpa using hj.symm
  ·right;refine⟨j,λh=>e h.symm,?_⟩
   simpa[e]using hj
 have af:sl.cap≠0:=by have:=H.len;have:=H.cr.ro.le;omega
 have ae:=H.lb af
 refine⟨⟨?_,λh=>⟨ae.1,by omega,ae.2.2⟩,λp hp=>?_,?_,λp hp=>?_⟩,λc h=>?_⟩
 ·have:=H.cr.set (n:=n) (q:=q) (v:=v) (by rw[AH];exact hn) hq B
  have e:(na.modify n f).map ndC=(na.map ndC).modify n (·.set q v):=by
   apply BC
   intro i
   rw[BN,BF,BF,BN]
   by_cases e:n=i
   ·subst e;rw[Z];simp[hc]
   ·simp[e]
  rw[e];exact this
 ·rcases mem p hp with rfl|⟨j,hj,aa⟩
  ·exact hI
  ·have ab:=Bh aa
   exact(H.nd p ab).frame λc hc=>fr c ((H.nd p ab).own hc).2.1 (λe=>H.nb p ab (e ▸ hc)) λh=>hj (H.dj j n p _ c aa Z hc h)
 ·intro i j p p' c hi hj hc ah
  have q:∀(i:Nat) (p:Nd×Ax),(na.modify n f)[i]?=some p->axO p c->∃p0,na[i]?=some p0/\((axO p0 c)\/(i=n/\g.size<=c)):=λi p hi hc=>by
   rw[BF]at hi
   by_cases e:n=i
   ·subst e
    rw[Z]at hi
    have:f na[n]=p:=by simpa using hi
    subst this
    rcases ho c hc with h|h
    ·exact⟨_,Z,.inl h⟩
    ·exact⟨_,Z,.inr ⟨rfl,h⟩⟩
   ·exact⟨p,by simpa[e]using hi,.inl hc⟩
  obtain⟨p0,a1,a2⟩:=q i p hi hc
  obtain⟨p1,b1,b2⟩:=q j p' hj ah
  rcases a2 with a2|⟨a2,a3⟩
  ·rcases b2 with b2|⟨b2,b3⟩
   ·exact H.dj i j p0 p1 c a1 b1 a2 b2
   ·have:=((H.nd p0 (Bh a1)).own a2).2.1;omega
  ·rcases b2 with b2|⟨b2,b3⟩
   ·have:=((H.nd p1 (Bh b1)).own b2).2.1;omega
   ·omega
 ·rcases mem p hp with rfl|⟨j,hj,aa⟩
  ·intro hc
   rcases ho b hc with h|h
   ·exact H.nb _ (Bh Z) h
   ·omega
  ·exact H.nb p (Bh aa)
 ·rcases h with⟨h1,h2⟩|⟨p,hp,h⟩
  ·exact .inl (.inl ⟨h1,h2⟩)
  ·rcases mem p hp with rfl|⟨j,hj,aa⟩
   ·rcases ho c h with h|h
    ·exact .inl (.inr ⟨_,Bh Z,h⟩)
    ·exact .inr h
   ·exact .inl (.inr ⟨p,Bh aa,h⟩)
end
section
variable {t:Bs} {gl:Fr}
abbrev zva:Ty:=.pair .str (.row tNd)
theorem slice_form{p:Sp}{R:Bt->Prop}(h:R (bl (ya t p))):
  ((bif (bif (decide ((p.1:Int)<0))then true else(decide ((p.1:Int)>p.2)))then true else(decide ((p.2:Int)>((bl t).size:Int))))=true->R (⟨#[]⟩:Bt)) /\
  ((bif (bif (decide ((p.1:Int)<0))then true else(decide ((p.1:Int)>p.2)))then true else(decide ((p.2:Int)>((bl t).size:Int))))=false->(0<=(p.1:Int)/\(p.1:Int)<=p.2/\(p.2:Int)<=((bl t).size:Int))/\R ((bl t).extract (p.1:Int).toNat (p.2:Int).toNat)):=by
 rw[ze]
 have e:(bif (bif (decide ((p.1:Int)<0))then true else(decide ((p.1:Int)>p.2)))then true else(decide ((p.2:Int)>(t.length:Int))))=decide (p.1<0\/p.2<p.1\/(t.length:Int)<p.2):=by
  rw[AJ]
  simp only[Bool.cond_eq_ite,Bool.if_true_left,Br,decide_eq_true_eq]
  omega
 rw[e]
 unfold ya at h
 refine⟨λhx=>?_,λhx=>?_⟩
 ·rw[if_pos (of_decide_eq_true hx)]at h;exact h
 ·have hx:=of_decide_eq_false hx
  rw[if_neg hx]at h
  refine⟨by omega,?_⟩
  rw[Zq];exact h
theorem zvb{nodes:List Nd}{p:Sp}{R:Bt->Prop}(h:R (bl (ya t p))):PC Tp gl 31 [Arg.mk zva (bl t,nodes),Arg.mk tSp p] [.str] R:=by
 apply zm8
 exact slice_form h
theorem z1x(hg:GL gl)(ht:t.length<=65536){nodes:List Nd}{k:Nat}{x:Nd}(hx:nodes[k]?=some x){R:Bt->Prop}(h:R (bl (zx7 t x))):PC Tp gl 112 [Arg.mk zva (bl t,nodes),Arg.mk (.int .i64) (k:Int)] [.str] R:=by
 apply zsv
 refine⟨x,⟨by omega,by rw[Al];exact hx⟩,?_⟩
 refine zvb (p:=x.2.2.1) ?_
 have:=ze6 t x.2.2.1
 exact ze7 hg (by omega) h
theorem z6k(hg:GL gl){k:Int}(ht:t.length<=65536){R:Bt->Prop}(h:R (bl (Ym k t))):PC Tp gl 111 [Arg.mk (.int .i64) k,Arg.mk .str (bl t)] [.str] R:=by
 apply zp3
 unfold Ym at h
 refine⟨λh1=>?_,λh1=>⟨λh2=>?_,λh2=>⟨λh3=>?_,λh3=>?_⟩⟩⟩
 ·rw[if_pos (by simpa using h1)]at h;exact h
 ·rw[if_neg (by simpa using h1),if_pos (by simpa using h2)]at h
  exact zgm (by omega) (zsl hg.pow (Yw t (by omega)) h)
 ·rw[if_neg (by simpa using h1),if_neg (by simpa using h2),if_pos (by simpa using h3)]at h
  exact ze7 hg (by omega) h
 ·rw[if_neg (by simpa using h1),if_neg (by simpa using h2),if_neg (by simpa using h3)]at h;exact h
end
end Go.X
end
section
namespace Go.X
section
variable {h:za} {sk si:Sl} {bk bb:List Nat} {b bv cv:Nat} {cs:Array Value} {K:Value -> za -> Prop}
theorem OTp.row{v:Tr}{bf:Nat->List Nat}(H:OTp h v sk si bk bb b cs bf){h':za}(k:∀c∈bb,h'[c]?=h[c]?):RowO h' si b cs 4:=by
 refine⟨by have:=H.hn;omega,?_⟩
 rcases H.hz with⟨h0,_,h2⟩|⟨Z,ha,hb,hc⟩
 ·exact .inl ⟨by rw[H.hn.1,h0];rfl,h2⟩
 ·exact .inr ⟨ha,hb.keep (k b (by rw[Z];simp)),hc⟩
theorem zxs(x:Tr)(sk si:Sl):∀u∈Z4 x sk si,u.oneCell'=true:=by
 intro u hu
 simp[Z4]at hu
 rcases hu with rfl|rfl|rfl|rfl <;> simp[Value.oneCell',slV]
theorem qbu{ks:List Bt}(H:OKeys h ks bk sk){s:Bt}(hv:Blk h bv #[.string s])(hn:ks.length<=1048576)
  (hK:∀(Z:Sl) (h':za) (kb:Nat),OKeys h' (ks++[s]) [kb] Z->(kb∈bk\/h.size<=kb)->h.size<=h'.size->(∀c,c<h.size->c∉bk->h'[c]?=h[c]?)->K (.slice Z.a Z.len Z.cap) h'):
  Z5 Tp (AB #[23,23] 23 #[.slice sk.a sk.len sk.cap,.slice (some ⟨bv,0,none⟩) 1 cv]) h K:=by
 obtain⟨l1,l2,l3,l4⟩:=H
 obtain⟨b,cs,ab,hb,aa⟩:∃b cs,RowO h sk b cs 1/\(b∈bk\/h.size<=b)/\cut cs 0 (sk.len*1)=ks.map Bl:=by
  rcases l4 with⟨rfl,rfl,h0⟩|⟨b,cs,rfl,e1,e2,e3,e4⟩
  ·refine⟨h.size,#[],⟨by omega,.inl ⟨l1,h0⟩⟩,.inr (Ac _),?_⟩
   rw[l1];rfl
  ·exact⟨b,cs,⟨by omega,.inr ⟨e1,e2,by omega⟩⟩,.inl (by simp),by rw[l1,Cw];exact e4⟩
 have ae:∀c∈bk,c<h.size:=by
  intro c hc
  rcases l4 with⟨_,rfl,_⟩|⟨b,cs,rfl,_,e2,_⟩
  ·cases hc
  ·simp at hc;subst hc;exact e2.lt
 refine zng (vs:=[.string s]) z0w ab hv rfl (λu hu=>by simp at hu;subst hu;simp[Value.oneCell']) (by omega) (by omega) λs' h' b' cs' N=>?_
 rw[aa]at N
 have hl:(ks++[s]).length=sk.len+1:=by simp[l1]
 refine hK s' h' b' ⟨by rw[hl];exact N.len,by rw[hl];omega,by rw[hl];exact N.cap,.inr ⟨b',cs',rfl,N.a,N.blk,by have:=N.size;omega,?_⟩⟩ ?_ N.grow λc hc hn=>N.old c hc λe=>?_
 ·rw[hl]
  have:=N.cut
  rw[Cw]at this
  rw[this];simp
 ·rcases N.new with e|e
  ·rw[e];exact hb
  ·exact .inr e
 ·rcases N.new with e2|e2
  ·rcases hb with e3|e3
   ·exact hn (by rw[e,e2];exact e3)
   ·omega
  ·omega
theorem z6l{g h:za}{x:Tr}{bf:Nat->List Nat}(H:OTp g x sk si bk bb b cs bf)(kb:∀c∈bb,h[c]?=g[c]?){w:Tr}{wk wi:Sl}(hv:Blk h bv (Z4 w wk wi).toArray)(hn:x.items.length<=1000000000)
  (hK:∀(Z:Sl) (h':za) (b':Nat) (cs':Array Value),Z.a=some ⟨b',0,none⟩->Z.len=x.items.length+1->x.items.length+1<=Z.cap->Blk h' b' cs'->Z.cap*4<=cs'.size->cut cs' 0 ((x.items.length+1)*4)=cut cs 0 (x.items.length*4)++Z4 w wk wi ->
   ((b'=b/\b∈bb)\/h.size<=b')->h.size<=h'.size->(∀c,c<h.size->c∉bb->h'[c]?=h[c]?)->K (.slice Z.a Z.len Z.cap) h'):
  Z5 Tp (AB #[24,24] 24 #[.slice si.a si.len si.cap,.slice (some ⟨bv,0,none⟩) 1 cv]) h K:=by
 have aa:=H.hn.1
 obtain⟨b0,af,ah⟩:∃b0,RowO h si b0 cs 4/\((b0=b/\b∈bb)\/b0=h.size):=by
  have ab:=OTp.row H (h':=h) kb
  rcases H.hz with⟨h0,_,h2⟩|⟨ai,_⟩
  ·exact⟨h.size,⟨ab.le,.inl ⟨by rw[aa,h0];rfl,h2⟩⟩,.inr rfl⟩
  ·exact⟨b,ab,.inl ⟨rfl,by rw[ai];simp⟩⟩
 refine zng (vs:=Z4 w wk wi) zux af hv rfl (zxs w wk wi) (by omega) (by omega) λs' h' b' cs' N=>?_
 rw[aa]at N
 have ae:(b'=b/\b∈bb)\/h.size<=b':=by
  rcases N.new with e|e
  ·rcases ah with⟨e2,hm⟩|e2
   ·exact .inl ⟨by rw[e,e2],hm⟩
   ·exact .inr (by omega)
  ·exact .inr e
 refine hK s' h' b' cs' N.a N.len N.cap N.blk N.size N.cut ae N.grow λc hc hn=>N.old c hc λe=>?_
 rcases ae with⟨e2,hm⟩|e2
 ·exact hn (by rw[e,e2];exact hm)
 ·omega
end
section
variable {g':za} {s:Bt} {bv cv:Nat} {K:za -> Prop}
structure BT (lo hi:Nat) (g:za) (b0:Nat) (v:Tr) (sk si:Sl) (bk bb:List Nat) (b:Nat) (cs:Array Value) (bf:Nat->List Nat):Prop where
 box:Blk g b0 (Z4 v sk si).toArray
 p:OTp g v sk si bk bb b cs bf
 ok:∀c∈bk,lo<=c/\c<hi/\c≠b0
 ob:∀c∈bb,lo<=c/\c<hi/\c≠b0
 oi:∀i,i<v.items.length->∀c∈bf i,lo<=c/\c<hi/\c≠b0
 lb:lo<=b0
 hg:hi<=g.size
def Own(lo hi:Nat)(g:za)(b0:Nat)(v:Tr)(sk si:Sl):Prop:=∃(bk bb:List Nat) (b:Nat) (cs:Array Value) (bf:Nat->List Nat),BT lo hi g b0 v sk si bk bb b cs bf
section
variable {lo hi : Nat} {g : za} {b0 : Nat} {v : Tr} {sk si : Sl}
theorem Own.box(H:Own lo hi g b0 v sk si):Blk g b0 (Z4 v sk si).toArray:=by
 obtain⟨bk,bb,b,cs,bf,B⟩:=H;exact B.box
theorem BT.move{bk bb:List Nat}{b:Nat}{cs:Array Value}{bf:Nat->List Nat}(B:BT lo hi g b0 v sk si bk bb b cs bf)(f:∀c,c∈bk\/c∈bb\/(∃i,i<v.items.length/\c∈bf i)->g'[c]?=g[c]?):OTp g' v sk si bk bb b cs bf:=
 ⟨B.p.keys.frame λc hc=>f c (.inl hc),B.p.hn,by
  rcases B.p.hz with h|⟨h1,h2,h3,h4⟩
  ·exact .inl h
  ·exact .inr ⟨h1,h2,h3.keep (f b (.inr (.inl (by rw[h1];simp)))),h4⟩,λi hi=>(B.p.hi i hi).frame λc hc=>f c (.inr (.inr ⟨i,hi,hc⟩)),B.p.nk,B.p.d1,B.p.d2,B.p.d3,B.p.d4⟩
theorem Own.keep(H:Own lo hi g b0 v sk si)(k:Keep g.size g g'):Own lo hi g' b0 v sk si:=by
 obtain⟨bk,bb,b,cs,bf,B⟩:=H
 have hz:=k.size
 have hg:=B.hg
 refine⟨bk,bb,b,cs,bf,B.box.ofKeep k,B.move λc hc=>k.get c ?_,B.ok,B.ob,B.oi,B.lb,by omega⟩
 rcases hc with hc|hc|⟨i,hi,hc⟩
 ·have:=(B.ok c hc).2.1;omega
 ·have:=(B.ob c hc).2.1;omega
 ·have:=(B.oi i hi c hc).2.1;omega
theorem Own.ot(H:Own lo hi g b0 v sk si):∃bs:List Nat,OT g v bs (Z4 v sk si)/\∀c∈bs,lo<=c/\c≠b0:=by
 obtain⟨bk,bb,b,cs,bf,B⟩:=H
 refine⟨_,B.p.ot,λc hc=>?_⟩
 rcases z1t.1 hc with h|h|⟨i,hi,h⟩
 ·exact⟨(B.ok c h).1,(B.ok c h).2.2⟩
 ·exact⟨(B.ob c h).1,(B.ob c h).2.2⟩
 ·exact⟨(B.oi i hi c h).1,(B.oi i hi c h).2.2⟩
theorem Own.new{k:Int}(B:Blk g b0 (Z4 (.mk k s [] []) ⟨none,0,0⟩ ⟨none,0,0⟩).toArray)(h:lo<=b0)(hh:hi<=g.size):Own lo hi g b0 (.mk k s [] []) ⟨none,0,0⟩ ⟨none,0,0⟩:=
 ⟨[],[],0,#[],λ_=>[],B,⟨⟨rfl,Cv _,Cv _,.inl ⟨rfl,rfl,rfl⟩⟩,⟨rfl,Cv _,Cv _⟩,.inl ⟨rfl,rfl,rfl⟩,λi hi=>absurd hi (Nat.not_lt_zero i),Di,λc hc=>(by cases hc),λc hc=>(by cases hc),λc hc=>(by cases hc),λi j hi=>absurd hi (Nat.not_lt_zero i)⟩,λc hc=>(by cases hc),λc hc=>(by cases hc),λi hi=>absurd hi (Nat.not_lt_zero i),h,hh⟩
theorem qhw:qd Tp 23=true:=by kernel_rfl
theorem qhx:qn Tp 23=1:=by kernel_rfl
theorem qhy:qd Tp 24=true:=by kernel_rfl
theorem qhz:qn Tp 24=1:=by kernel_rfl
theorem Own.key(H:Own lo hi g b0 v sk si)(ak:lo<=g.size)(hn:v.keys.length<=1048576)(hv:Blk g bv #[.string s])
  (hK:∀(g':za) (s':Sl),Own lo g'.size g' b0 (.mk v.kind v.text (v.keys++[s]) v.items) s' si->Keep lo g g'->g.size<=g'.size->K g'):
  Z5 Tp (AB #[23,23] 23 #[.slice sk.a sk.len sk.cap,.slice (some ⟨bv,0,none⟩) 1 cv]) g (λw g1=>∃x:Sl,w=.slice x.a x.len x.cap/\zk Tp (An 23 (.pointer (some ⟨b0,2,none⟩)) (.slice x.a x.len x.cap)) g1 K):=by
 obtain⟨bk,bb,b,cs,bf,B⟩:=H
 refine qbu B.p.keys hv hn λs' g1 kb ko kn z1 f1=>⟨s',rfl,?_⟩
 have aj:=B.box.lt
 have hg:=B.hg
 have aa:∀c∈bk,lo<=c/\c<g.size/\c≠b0:=λc hc=>by have:=B.ok c hc;exact⟨this.1,by omega,this.2.2⟩
 have Z:∀c∈bb,lo<=c/\c<g.size/\c≠b0:=λc hc=>by have:=B.ob c hc;exact⟨this.1,by omega,this.2.2⟩
 have ab:∀i,i<v.items.length->∀c∈bf i,lo<=c/\c<g.size/\c≠b0:=λi hi c hc=>by have:=B.oi i hi c hc;exact⟨this.1,by omega,this.2.2⟩
 have ai:b0∉bk:=λh=>(aa b0 h).2.2 rfl
 refine wb qhw qhx (B.box.keep (f1 b0 aj ai)) (by show 2<4;omega) rfl λg2 u1 u2 u3=>?_
 have am:kb<g1.size:=by
  obtain⟨_,_,_,h|⟨b',cs',e,_,h,_⟩⟩:=ko
  ·exact absurd h.1 (by simp)
  ·rw[BM]at e;rw[e.1];exact h.lt
 have af:lo<=kb/\kb≠b0:=by
  rcases kn with h|h
  ·exact⟨(aa kb h).1,(aa kb h).2.2⟩
  ·exact⟨by omega,by omega⟩
 have ae:∀c,c<g.size->c∉bk->c≠kb:=λc hc hn e=>by
  subst e
  rcases kn with h|h
  ·exact hn h
  ·omega
 have fr:∀c,c<g.size->c∉bk->c≠b0->g2[c]?=g[c]?:=λc hc hn h0=>(u3 c h0).trans (f1 c hc hn)
 have ah:∀i,i<v.items.length->∀c∈bf i,c∉bk:=λi hi c hc h=>B.p.d2 c h i hi hc
 refine hK g2 s' ⟨[kb],bb,b,cs,bf,u1,⟨ko.frame λc hc=>u3 c ?_,B.p.hn,?_,λi hi=>(B.p.hi i hi).frame λc hc=>fr c (ab i hi c hc).2.1 (ah i hi c hc) (ab i hi c hc).2.2,by simp,λc hc=>?_,λc hc i hi hm=>?_,B.p.d3,B.p.d4⟩,λc hc=>?_,λc hc=>?_,λi hi c hc=>?_,B.lb,Ac _⟩ ⟨by omega,λj hj=>fr j (by omega) (λh=>?_) ?_⟩ (by omega)
 ·rw[A6.1 hc];exact af.2
 ·rcases B.p.hz with h|⟨h1,h2,h3,h4⟩
  ·exact .inl h
  ·have hm:b∈bb:=by rw[h1];simp
   exact .inr ⟨h1,h2,h3.keep (fr b (Z b hm).2.1 (λh=>B.p.d1 b h hm) (Z b hm).2.2),h4⟩
 ·rw[A6.1 hc]
  intro hm
  exact ae kb (Z kb hm).2.1 (λh=>B.p.d1 kb h hm) rfl
 ·rw[A6.1 hc]at hm
  exact ae kb (ab i hi kb hm).2.1 (ah i hi kb hm) rfl
 ·rw[A6.1 hc];exact⟨af.1,by omega,af.2⟩
 ·have:=Z c hc;exact⟨this.1,by omega,this.2.2⟩
 ·have:=ab i hi c hc;exact⟨this.1,by omega,this.2.2⟩
 ·have:=(aa j h).1;omega
 ·have:=B.lb;omega
theorem Own.item(H:Own lo hi g b0 v sk si)(an:lo<=g.size)(hn:v.items.length<=1000000){w:Tr}{wk wi:Sl}(hv:Blk g bv (Z4 w wk wi).toArray){bw:List Nat}(ow:OT g w bw (Z4 w wk wi))(ap:bv∉bw)(hw:∀c∈bw,lo<=c/\c≠b0/\hi<=c)
  (hK:∀(g':za) (s':Sl),Own lo g'.size g' b0 (.mk v.kind v.text v.keys (v.items++[w])) sk s'->Keep lo g g'->g.size<=g'.size->K g'):
  Z5 Tp (AB #[24,24] 24 #[.slice si.a si.len si.cap,.slice (some ⟨bv,0,none⟩) 1 cv]) g (λu g1=>∃x:Sl,u=.slice x.a x.len x.cap/\zk Tp (An 24 (.pointer (some ⟨b0,3,none⟩)) (.slice x.a x.len x.cap)) g1 K):=by
 obtain⟨bk,bb,b,cs,bf,B⟩:=H
 refine z6l B.p (λc hc=>rfl) hv (by omega) λs' g1 b' cs' e1 e2 e3 e4 e5 e6 ai z1 f1=>⟨s',rfl,?_⟩
 have am:=B.box.lt
 have hg:=B.hg
 have ab:∀c∈bk,lo<=c/\c<g.size/\c≠b0:=λc hc=>by have:=B.ok c hc;exact⟨this.1,by omega,this.2.2⟩
 have af:∀c∈bb,lo<=c/\c<g.size/\c≠b0:=λc hc=>by have:=B.ob c hc;exact⟨this.1,by omega,this.2.2⟩
 have ae:∀i,i<v.items.length->∀c∈bf i,lo<=c/\c<g.size/\c≠b0:=λi hi c hc=>by have:=B.oi i hi c hc;exact⟨this.1,by omega,this.2.2⟩
 have aa:∀c∈bw,c∉bk/\c∉bb/\∀i,i<v.items.length->c∉bf i:=λc hc=>by
  have h1:=(hw c hc).2.2
  exact⟨λh=>by have:=(B.ok c h).2.1;omega,λh=>by have:=(B.ob c h).2.1;omega,λi hi h=>by have:=(B.oi i hi c h).2.1;omega⟩
 have aj:b0∉bb:=λh=>(B.ob b0 h).2.2 rfl
 refine wb qhy qhz (B.box.keep (f1 b0 am aj)) (by show 3<4;omega) rfl λg2 u1 u2 u3=>?_
 have Z:lo<=b'/\b'≠b0:=by
  rcases ai with⟨h,hm⟩|h
  ·rw[h];exact⟨(af b hm).1,(af b hm).2.2⟩
  ·exact⟨by omega,by omega⟩
 have ah:∀c,c<g.size->c∉bb->c≠b':=λc hc hn e=>by
  subst e
  rcases ai with⟨h,hm⟩|h
  ·rw[h]at hn;exact hn hm
  ·omega
 have fr:∀c,c<g.size->c∉bb->c≠b0->g2[c]?=g[c]?:=λc hc hn h0=>(u3 c h0).trans (f1 c hc hn)
 have ak:∀i,i<v.items.length->∀c∈bf i,c∉bb:=λi hi c hc h=>B.p.d3 c h i hi hc
 have N:=OTp.ins (h':=g2) B.p (k:=v.items.length) (Ac _) (w:=w) (bw:=bw) (cw:=Z4 w wk wi) (ow.frame λc hc=>fr c (ow.lt c hc) (aa c hc).2.1 (hw c hc).2.1)
  (λi hi c hc=>fr c (ae i hi c hc).2.1 (ak i hi c hc) (ae i hi c hc).2.2) e1 (e4.keep (u3 b' Z.2)) e2 e3 e5 (by omega)
  (by
   have hl:(cut cs 0 (v.items.length*4)).length<=v.items.length*4:=by unfold cut;rw[Bb];omega
   rw[e6,Ct hl,BL hl,A3])
  (λi hi hm=>ah b' (ae i hi b' hm).2.1 (ak i hi b' hm) rfl) (λhm=>ah b' (ow.lt b' hm) (aa b' hm).2.1 rfl) (λc hc i hi=>(aa c hc).2.2 i hi)
  (B.p.keys.frame λc hc=>fr c (ab c hc).2.1 (B.p.d1 c hc) (ab c hc).2.2) B.p.nk (λhm=>ah b' (ab b' hm).2.1 (B.p.d1 b' hm) rfl) (λc hc i hi=>B.p.d2 c hc i hi) (λc hc hm=>(aa c hm).1 hc)
 rw[AW,List.drop_length]at N
 refine hK g2 s' ⟨bk,[b'],b',cs',_,u1,N,λc hc=>?_,λc hc=>?_,λi hi c hc=>?_,B.lb,Ac _⟩ ⟨by omega,λj hj=>fr j (by omega) (λh=>?_) ?_⟩ (by omega)
 ·have:=ab c hc;exact⟨this.1,by omega,this.2.2⟩
 ·rw[A6.1 hc];exact⟨Z.1,by have:=e4.lt;omega,Z.2⟩
 ·have hc:c∈(if i<v.items.length then bf i else if i=v.items.length then bw else bf (i-1)):=hc
  have hi:i<v.items.length+1:=by
   have:(v.items++[w]).length=v.items.length+1:=by simp
   rw[<-this];exact hi
  split at hc
  ·rename_i h;have:=ae i h c hc;exact⟨this.1,by omega,this.2.2⟩
  ·rw[if_pos (by omega)]at hc
   have:=ow.lt c hc
   exact⟨(hw c hc).1,by omega,(hw c hc).2.1⟩
 ·have:=(af j h).1;omega
 ·have:=B.lb;omega
end
end
end Go.X
end
section
namespace Go.X
open Go Go.X Go.Proofs Go.RowKit
section
variable {h:za} {l:Bs} {K:Value -> za -> Prop} {lo:Nat}
theorem zcp{c:UInt8}(hK:K (.int .i64 (Lib.indexByte l c)) h):XC Tp 212 #[.string (bl l),.int .u8 (c.toNat:Int)] h K:=by
 refine XC.of_calls λB d=>(jh (bl l) (c.toNat:Int) (mk B d h)).mono ?_
 rintro e w' ⟨rfl,rfl⟩
 refine⟨_,rfl,rfl,rfl,rfl,?_⟩
 have e1:(bl l).data.toList=l:=yp l
 rw[e1,qdu];exact hK
def z1y(F:FuncId)(A C:Array Value)(lo:Nat)(p:UInt8->Bool)(h0:za):Prop:=
 zj Tp F=true/\∀(c:UInt8) (h:za) (K:Value->za->Prop),Keep lo h0 h->(∀h',Keep lo h h'->K (.bool (p c)) h')->XC Tp F (A++#[.int .u8 (c.toNat:Int)]++C) h K
theorem qbv{F:FuncId}{A C:Array Value}{p:UInt8->Bool}(H:z1y F A C lo p h)(hl:l.length<=1152921504606846976)(hK:∀h',Keep lo h h'->K (.int .i64 (Yg p l:Int)) h'):
  XC Tp 256 #[.string (bl l),.func (.func F) A C] h K:=by
 obtain⟨hF,H⟩:=H
 apply zxj
 rw[ze]
 refine⟨λi g=>∃k:Nat,i=(k:Int)/\k<=l.length/\Keep lo h g/\∀j (hj:j<k) (aa:j<l.length),p l[j]=true,λi _=>l.length-i.toNat,⟨0,rfl,by omega,Keep.refl _ _,λj hj=>by omega⟩,?_⟩
 rintro i g ⟨k,rfl,hk,kg,hp⟩
 refine⟨λhx=>?_,λhx=>?_⟩
 ·have Z:k<l.length:=by have:=of_decide_eq_true hx;omega
  refine⟨⟨by omega,by omega⟩,hF,?_⟩
  rw[yr,Al,zul Z]
  refine H _ _ _ kg λh' k'=>⟨_,rfl,λhz=>?_,λhz=>?_⟩
  ·have e:Yg p l=k:=zs8 hk (λj hj=>hp j hj (by omega)) (λ_=>by simpa using hz)
   rw[<-e];exact hK h' (kg.trans k' (Ac _))
  ·rw[Yk Z (by omega)]
   refine⟨⟨k+1,rfl,by omega,kg.trans k' (Ac _),λj hj aa=>?_⟩,by show l.length-((k+1:Nat):Int).toNat<l.length-((k:Nat):Int).toNat;omega⟩
   rcases A1 j k with h9|h9
   ·exact hp j h9 aa
   ·have:j=k:=by omega
    subst this
    simpa using hz
 ·have Z:k=l.length:=by have:=of_decide_eq_false hx;omega
  have e:Yg p l=l.length:=zs8 (Ac _) (λj hj=>hp j (by omega) hj) (λhh=>absurd hh (by omega))
  rw[<-e];exact hK g kg
theorem zin{b:Nat}(hb:Blk h b #[.string (bl l)])(aa:b<lo):z1y 292 #[] #[.pointer (some ⟨b,0,none⟩)] lo (xg l) h:=by
 refine⟨by kernel_rfl,λc g K kg hK=>?_⟩
 show XC Tp 292 #[.int .u8 (c.toNat:Int),.pointer (some ⟨b,0,none⟩)] g K
 apply zjv
 have Z:Blk g b #[.string (bl l)]:=by
  obtain⟨T,e⟩:=hb
  exact⟨T,by rw[kg.get b aa];exact e⟩
 refine⟨bl l,Z.cell rfl,zcp ⟨_,rfl,?_⟩⟩
 have e:decide (Lib.indexByte l c>=0)=xg l c:=by
  unfold xg
  rw[AJ,decide_eq_true_eq,decide_eq_true_eq]
  exact(xq c l).2
 rw[e];exact hK g (Keep.refl _ _)
theorem ztb{gl M:Fr}(hM:Fr.le gl M)(ag:AgM M h):z1y 259 #[] #[] h.size (xg j5) h:=by
 refine⟨by kernel_rfl,λc g K kg hK=>?_⟩
 have e:(bif decide ((c.toNat:Int)>=97)then decide ((c.toNat:Int)<=122)else false)=xg j5 c:=by
  have Z:(Cb 256).all (λn=>(bif decide ((n:Int)>=97)then decide ((n:Int)<=122)else false)==xg j5 (A4 n))=true:=by kernel_rfl
  have:=AD.1 Z c.toNat (Bw.2 c.toNat_lt)
  rw[beq_iff_eq,UInt8.ofNat_toNat]at this
  exact this
 refine(PC.px (gl:=gl) (args:=[Arg.mk (.int .u8) (c.toNat:Int)]) (rt:=[.bool]) (R:=λb=>b=xg j5 c) ?_ hM (ag.keep kg) (yj (a:=Arg.mk (.int .u8) _) (Jf _ _) jy)).go λv h' M' r L hv hr=>?_
 ·apply zp5;exact e
 ·obtain rfl:=zn1 hv
  rw[hr]
  exact hK h' (L.keep.mono kg.size)
end
section
variable {K:Value -> za -> Prop} {h:za} {a e:Int} {M:Fr} {v:Value}
theorem qg3:qd Tp 90=true:=by kernel_rfl
theorem qg4:qn Tp 90=3:=by kernel_rfl
abbrev zqi(k f t:Int):List Value:=[.int .i64 k,.int .i64 f,.int .i64 t]
theorem qbw{g:za}{b:Nat}{x y z p q r:Int}(B:Blk g b (zqi x y z).toArray){K:za->Prop}(hK:∀g',(∀j,j≠b->g'[j]?=g[j]?)->g'.size=g.size->Blk g' b (zqi p q r).toArray->K g'):
  zk Tp (An 90 (.pointer (some ⟨b,0,none⟩)) (.agg #[.int .i64 p,.int .i64 q,.int .i64 r])) g K:=by
 refine zif (vs:=zqi p q r) qg3 B rfl qg4 (Ac 3) (λu hu=>?_) λg' q1 q2 q3=>hK g' q3 q2 q1
 simp at hu
 rcases hu with rfl|rfl|rfl <;> rfl
theorem z1z{c:Nat}{a k t:Int}(hc:Blk h c #[.int .i64 a])(hK:∀h',Keep h.size h h'->K (.tuple #[.agg #[.int .i64 k,.int .i64 a,.int .i64 t],.int .i64 0]) h'):
  XC Tp 254 #[.int .i64 k,.int .i64 t,.pointer (some ⟨c,0,none⟩)] h K:=by
 apply zm2
 intro h1
 have k1:Keep h.size h h1:=Keep.push _ _ (Ac _)
 have B1:Blk h1 h.size (zqi 0 0 0).toArray:=Blk.new _ _ _
 have Z:Blk h1 c #[.int .i64 a]:=hc.ofKeep k1
 refine⟨a,Z.cell rfl,qbw B1 λg' q1 q2 q3=>⟨k,a,t,q3.ld,hK g' (k1.trans ⟨by omega,λi hi=>q1 i (by omega)⟩ (Ac _))⟩⟩
theorem qg5{x:Int×Int×Int}(h:zcx M [.pair (.int .i64) (.pair (.int .i64) (.int .i64)),.int .i64] (x,e) v):v=.tuple #[.agg #[.int .i64 x.1,.int .i64 x.2.1,.int .i64 x.2.2],.int .i64 e]:=by
 obtain⟨vs,⟨v1,rest,rfl,hx,v2,rfl,hy⟩,rfl⟩:=h
 rw[qo hy]
 unfold RdV at hx
 simp only[zjf,if_true]at hx
 obtain⟨cs,rfl,c1,c2,rfl,e1,c3,c4,rfl,e3,e4⟩:=hx
 have e1:c1=[.int .i64 x.1]:=e1
 have e3:c3=[.int .i64 x.2.1]:=e3
 have e4:c4=[.int .i64 x.2.2]:=e4
 subst e1 e3 e4
 rfl
theorem z11{gl M:Fr}(hM:Fr.le gl M)(ag:AgM M h)(hK:∀h',Keep h.size h h'->K (.tuple #[.agg #[.int .i64 0,.int .i64 a,.int .i64 a],.int .i64 e]) h'):
  XC Tp 255 #[.int .i64 a,.int .i64 e] h K:=by
 refine(PC.px (gl:=gl) (args:=[Arg.mk (.int .i64) a,Arg.mk (.int .i64) e]) (rt:=[.pair (.int .i64) (.pair (.int .i64) (.int .i64)),.int .i64]) (R:=λr=>r=((0,(a,a)),e)) ?_ hM ag (yj (a:=Arg.mk (.int .i64) _) (Jf _ _) (yj (a:=Arg.mk (.int .i64) _) (Jf _ _) jy))).go λv h' M' r L hv hr=>?_
 ·apply zna;rfl
 ·subst hr
  rw[qg5 hv]
  exact hK h' L.keep
theorem z15{l:Bs}(hK:∀h',Keep h.size h h'->h'.size=h.size+1->Blk h' h.size #[.string (bl l)]->K (.func (.func 292) #[] #[.pointer (some ⟨h.size,0,none⟩)]) h'):
  XC Tp 257 #[.string (bl l)] h K:=by
 apply zpx
 intro h1
 exact hK h1 (Keep.push _ _ (Ac _)) (Am _) (Blk.new _ _ _)
def zqj(s:Bs)(a:Nat):Value:=if(Z7 s a).2.2=0 then .tuple #[.agg #[.int .i64 (Z7 s a).1,.int .i64 (a:Int),.int .i64 ((Z7 s a).2.1:Int)],.int .i64 0]else .tuple #[.agg #[.int .i64 0,.int .i64 ((Z7 s a).2.1:Int),.int .i64 ((Z7 s a).2.1:Int)],.int .i64 (Z7 s a).2.2]
theorem qih{x:Bool×Bt×Int}(h:zcx M [.pair .bool (.pair .str (.int .i64)),.int .i64] (x,e) v):v=.tuple #[.agg #[.bool x.1,.string x.2.1,.int .i64 x.2.2],.int .i64 e]:=by
 obtain⟨vs,⟨v1,rest,rfl,hx,v2,rfl,hy⟩,rfl⟩:=h
 rw[qo hy]
 unfold RdV at hx
 simp only[zjf,if_true]at hx
 obtain⟨cs,rfl,c1,c2,rfl,e1,c3,c4,rfl,e3,e4⟩:=hx
 have e1:c1=[.bool x.1]:=e1
 have e3:c3=[.string x.2.1]:=e3
 have e4:c4=[.int .i64 x.2.2]:=e4
 subst e1 e3 e4
 rfl
end
section
variable {gl:Fr} {s:Bs} {a t:Nat} {k:Int}
theorem qep(l:Bs)(c:UInt8):decide (Lib.indexByte l c>=0)=xg l c:=by
 unfold xg
 rw[AJ,decide_eq_true_eq,decide_eq_true_eq]
 exact(xq c l).2
theorem z6m:(Cb 256).all (λn=>(bif ((n:Int)==45)then true else(bif decide ((n:Int)>=48)then decide ((n:Int)<=57)else false))==xg zcn (A4 n))=true:=by kernel_rfl
theorem qbx(c:UInt8):(bif ((c.toNat:Int)==45)then true else(bif decide ((c.toNat:Int)>=48)then decide ((c.toNat:Int)<=57)else false))=xg zcn c:=by
 have:=AD.1 z6m c.toNat (Bw.2 c.toNat_lt)
 rw[beq_iff_eq,UInt8.ofNat_toNat]at this
 exact this
theorem z6n{R:Int->Prop}(h:R (Qq s)):PC Tp gl 260 [Arg.mk .str (bl s)] [.int .i64] R:=by
 apply zsw
 have e:∀l:Bs,((bl s:Bt).toList==((⟨l.toArray⟩:Bt):Bt).toList)=decide (s=l):=λl=>zfx s l
 have e1:=e [116,114,117,101];have e2:=e [102,97,108,115,101];have e3:=e [110,117,108,108]
 rw[e1,e2,e3]
 unfold Qq at h
 refine⟨λhx=>?_,λhx=>⟨λhy=>?_,λhy=>⟨λhz=>?_,λhz=>?_⟩⟩⟩
 ·rw[if_pos (of_decide_eq_true hx)]at h;exact h
 ·rw[if_neg (of_decide_eq_false hx),if_pos (of_decide_eq_true hy)]at h;exact h
 ·rw[if_neg (of_decide_eq_false hx),if_neg (of_decide_eq_false hy),if_pos (of_decide_eq_true hz)]at h;exact h
 ·rw[if_neg (of_decide_eq_false hx),if_neg (of_decide_eq_false hy),if_neg (of_decide_eq_false hz)]at h;exact h
theorem z16{c:UInt8}{t:Bs}(h:s.drop a=c::t):Z7 s a=
  if c∈yl then(2+Lib.indexByte yl c,a+1,0)
  else if c∈xf then(1,a+Yg (xg xf) (s.drop a),0)
  else if c=34 then(if(y0 s a).2.2=0 then(8,(y0 s a).2.1,0)else(0,(y0 s a).2.1,(y0 s a).2.2))
  else if c∈zcn then(if(zi ((s.drop a).take (Yg (xg zcm) (s.drop a)))).2=0 then(9,a+Yg (xg zcm) (s.drop a),0)else(0,a,(zi ((s.drop a).take (Yg (xg zcm) (s.drop a)))).2))
  else if Qq ((s.drop a).take (Yg (xg j5) (s.drop a)))=0 then(0,a,2)else(Qq ((s.drop a).take (Yg (xg j5) (s.drop a))),a+Yg (xg j5) (s.drop a),0):=by
 unfold Z7;rw[h]
theorem zd0(h:Z7 s a=(k,t,0)):zqj s a=.tuple #[.agg #[.int .i64 k,.int .i64 (a:Int),.int .i64 (t:Int)],.int .i64 0]:=by unfold zqj;rw[h];rfl
theorem zgp{k e:Int}(h:Z7 s a=(k,t,e))(he:¬e=0):zqj s a=.tuple #[.agg #[.int .i64 0,.int .i64 (t:Int),.int .i64 (t:Int)],.int .i64 e]:=by unfold zqj;rw[h,if_neg he]
set_option maxHeartbeats 2000000 in
theorem qeq{gl M:Fr}(hg:GL gl)(hM:Fr.le gl M){h:za}(ag:AgM M h)(hs:s.length<=65536)(ha:a<s.length){K:Value->za->Prop}(hK:∀h',Keep h.size h h'->K (zqj s a) h'):
  XC Tp 198 #[.string (bl s),.int .i64 (a:Int)] h K:=by
 have hd:s.drop a=s[a]::s.drop (a+1):=Ba ha
 have ax:s.drop a≠[]:=by rw[hd];exact List.cons_ne_nil _ _
 have ay:(s.drop a).length=s.length-a:=AI
 have eV:=z16 hd
 generalize hc:s[a]=c at eV hd
 apply zsr
 intro h1 h2
 have z1:h1.size=h.size+1:=Am _
 have z2:h2.size=h1.size+1:=Am _
 have k1:Keep h.size h h1:=Keep.push _ _ (Ac _)
 have k2:Keep h1.size h1 h2:=Keep.push _ _ (Ac _)
 have ak:Keep h.size h h2:=k1.trans k2 (by omega)
 have B0:Blk h2 h.size #[.int .i64 (a:Int)]:=(Blk.new h #[.int .i64 (a:Int)] 3).ofKeep k2
 have B1:Blk h2 h1.size (zqi 0 0 0).toArray:=Blk.new _ _ _
 clear_value h1 h2
 have ab:AgM M h2:=ag.keep ak
 have done:∀(k f t e:Int) (g:za),Keep h2.size h2 g->.tuple #[.agg #[.int .i64 k,.int .i64 f,.int .i64 t],.int .i64 e]=zqj s a ->
   zk Tp (An 90 (.pointer (some ⟨h1.size,0,none⟩)) (.agg #[.int .i64 k,.int .i64 f,.int .i64 t])) g (λg'=>∃r1 r2 r3:Int,zd g' ⟨h1.size,0,none⟩ 0 [.int .i64 r1,.int .i64 r2,.int .i64 r3]/\K (.tuple #[.agg #[.int .i64 r1,.int .i64 r2,.int .i64 r3],.int .i64 e]) g'):=by
  intro k f t e g kg he
  refine qbw (B1.ofKeep kg) λg' q1 q2 q3=>⟨k,f,t,q3.ld,?_⟩
  rw[he]
  have hz:=kg.size
  exact hK g' ((ak.trans kg (by omega)).trans (c:=g') (m:=h.size) ⟨by omega,λi hi=>q1 i (by omega)⟩ (Ac _))
 have ex:(bl s).extract (a:Int).toNat (s.length:Int).toNat=bl (s.drop a):=zpt (n:=(a:Int)) rfl
 have b0:zb (bl (s.drop a)) (0:Int).toNat=(c.toNat:Int):=by rw[yr,hd];rfl
 rw[ze]
 refine⟨(a:Int),B0.cell rfl,?_⟩
 rw[ex,ze,b0]
 refine⟨⟨by omega,by omega,by omega⟩,⟨by omega,by omega⟩,?_⟩
 have bs:(⟨#[123,125,91,93,44,58]⟩:Bt)=bl yl:=rfl
 have bb:(⟨#[32,9,10,13]⟩:Bt)=bl xf:=rfl
 have bn:(⟨#[45,43,46,48,49,50,51,52,53,54,55,56,57,101,69]⟩:Bt)=bl zcm:=rfl
 rw[bs,bb,bn]
 have ah:∀n:Nat,n<=s.length->Aa .i64 ((a:Int)+(n:Int))=((a+n:Nat):Int):=λn hn=>by rw[w64 (by omega)];omega
 refine zcp ⟨_,rfl,?_⟩
 rw[qep]
 refine⟨λhx=>?_,λhx=>?_⟩
 ·have hx:=of_decide_eq_true hx
  rw[if_pos hx]at eV
  have hr:0<=Lib.indexByte yl c/\Lib.indexByte yl c<6:=by
   have:∀c∈yl,0<=Lib.indexByte yl c/\Lib.indexByte yl c<6:=by decide
   exact this c hx
  refine⟨(a:Int),B0.cell rfl,by kernel_rfl,?_⟩
  refine z1z B0 λg kg=>⟨_,_,_,_,rfl,done _ _ _ _ g kg ?_⟩
  rw[zd0 eV,w64 (n:=2+Lib.indexByte yl c) (by omega),show Aa .i64 ((a:Int)+1)=((a+1:Nat):Int)from ah 1 (by omega)]
 have hx:=of_decide_eq_false hx
 rw[if_neg hx]at eV
 refine zcp ⟨_,rfl,?_⟩
 rw[qep]
 have ai:=λp=>z1k p (s.drop a)
 refine⟨λhy=>?_,λhy=>?_⟩
 ·have hy:=of_decide_eq_true hy
  rw[if_pos hy]at eV
  refine⟨(a:Int),B0.cell rfl,z15 λg kg zg Bg=>⟨_,rfl,kg.get h.size (by omega),?_⟩⟩
  refine qbv (lo:=g.size) (zin Bg (by omega)) (by omega) λg2 Z=>⟨_,rfl,?_,by kernel_rfl,?_⟩
  ·rw[Z.get h.size (by omega)];exact kg.get h.size (by omega)
  have k3:Keep h2.size h2 g2:=kg.trans Z (by omega)
  refine z1z (B0.ofKeep k3) λg3 am=>⟨_,_,_,_,rfl,done _ _ _ _ g3 (k3.trans am k3.size) ?_⟩
  have:=ai (xg xf)
  rw[zd0 eV,ah _ (by omega)]
 have hy:=of_decide_eq_false hy
 rw[if_neg hy]at eV
 rw[show((c.toNat:Int)==34)=decide (c=34)from u8i (n:=34) (by omega),qbx]
 refine⟨λhz=>?_,λhz=>⟨λhw=>?_,λhw=>?_⟩⟩
 ·have hz:=of_decide_eq_true hz
  rw[if_pos hz]at eV
  refine⟨(a:Int),B0.cell rfl,?_⟩
  refine((qeo hg (t:=s) (a:=(a:Int)) (by omega) (R:=λr=>r=qen s (a:Int)) rfl).px hM ab (yj (a:=Arg.mk .str _) (rdStr _) (yj (a:=Arg.mk (.int .i64) _) (Jf _ _) jy))).go λv g M' r L hv hr=>?_
  have he:qen s (a:Int)=(((y0 s a).2.1:Int),(y0 s a).2.2):=by
   unfold qen;rw[if_neg (by omega),Al]
  rw[he]at hr
  subst hr
  rw[zqh hv]
  refine⟨_,_,rfl,λaa=>⟨by kernel_rfl,?_⟩,λaa=>⟨by kernel_rfl,?_⟩⟩
  ·refine z11 hM (ab.keep L.keep) λg2 Z=>⟨_,_,_,_,rfl,done _ _ _ _ g2 (L.keep.trans Z L.keep.size) ?_⟩
   have hn:¬(y0 s a).2.2=0:=by simpa using aa
   rw[if_neg hn]at eV
   rw[zgp eV hn]
  ·refine z1z (B0.ofKeep L.keep) λg2 Z=>⟨_,_,_,_,rfl,done _ _ _ _ g2 (L.keep.trans Z L.keep.size) ?_⟩
   have hn:(y0 s a).2.2=0:=by simpa using aa
   rw[if_pos hn]at eV
   rw[zd0 eV]
 ·have hz:=of_decide_eq_false hz
  have hw:=of_decide_eq_true hw
  rw[if_neg hz,if_pos hw]at eV
  refine⟨(a:Int),B0.cell rfl,z15 λg kg zg Bg=>⟨_,rfl,kg.get h.size (by omega),?_⟩⟩
  have an:=ai (xg zcm)
  refine qbv (lo:=g.size) (zin Bg (by omega)) (by omega) λg2 Z=>⟨_,rfl,?_,?_⟩
  ·rw[Z.get h.size (by omega)];exact kg.get h.size (by omega)
  have k3:Keep h2.size h2 g2:=kg.trans Z (by omega)
  rw[ah _ (by omega)]
  have aj:(bl s).extract (a:Int).toNat ((a+Yg (xg zcm) (s.drop a):Nat):Int).toNat=bl ((s.drop a).take (Yg (xg zcm) (s.drop a))):=by
   rw[Al,Al,Zq,show a+Yg (xg zcm) (s.drop a)-a=Yg (xg zcm) (s.drop a)by omega]
  refine⟨(a:Int),(B0.ofKeep k3).cell rfl,⟨by omega,by omega,by omega⟩,?_⟩
  rw[aj]
  refine((zgm (gl:=gl) (s:=(s.drop a).take (Yg (xg zcm) (s.drop a))) (by rw[Bb];omega) (R:=λr=>r=(nmB (zi ((s.drop a).take (Yg (xg zcm) (s.drop a)))).1,(zi ((s.drop a).take (Yg (xg zcm) (s.drop a)))).2)) rfl).px hM (ab.keep k3) (yj (a:=Arg.mk .str _) (rdStr _) jy)).go λv g3 M' r L hv hr=>?_
  subst hr
  rw[qih hv]
  generalize hq:(s.drop a).take (Yg (xg zcm) (s.drop a))=w at eV
  refine⟨_,_,_,_,rfl,?_⟩
  intro af
  have au:Keep g3.size g3 af:=Keep.push _ _ (Ac _)
  have ap:Blk af g3.size #[.bool false,.string ⟨#[]⟩,.int .i64 0]:=Blk.new _ _ _
  have k4:Keep h2.size h2 af:=(k3.trans L.keep k3.size).trans au (by have:=L.keep.size;have:=k3.size;omega)
  clear_value af
  refine zif (vs:=[.bool (nmB (zi w).1).1,.string (nmB (zi w).1).2.1,.int .i64 (nmB (zi w).1).2.2]) (by kernel_rfl) ap rfl (by kernel_rfl) (Ac 3) (λu hu=>?_) λar q1 q2 q3=>?_
  ·simp at hu
   rcases hu with rfl|rfl|rfl <;> rfl
  have k5:Keep h2.size h2 ar:=k4.trans ⟨by omega,λi hi=>q3 i (by have:=L.keep.size;have:=k3.size;omega)⟩ (Ac _)
  refine⟨λaa=>⟨(a:Int),(B0.ofKeep k5).cell rfl,by kernel_rfl,?_⟩,λaa=>⟨by kernel_rfl,?_⟩⟩
  ·refine z11 hM (ab.keep k5) λg4 ae=>⟨_,_,_,_,rfl,done _ _ _ _ g4 (k5.trans ae k5.size) ?_⟩
   have hn:¬(zi w).2=0:=by simpa using aa
   rw[if_neg hn]at eV
   rw[zgp eV hn]
  ·refine z1z (B0.ofKeep k5) λg4 ae=>⟨_,_,_,_,rfl,done _ _ _ _ g4 (k5.trans ae k5.size) ?_⟩
   have hn:(zi w).2=0:=by simpa using aa
   rw[if_pos hn]at eV
   rw[zd0 eV]
 ·have hz:=of_decide_eq_false hz
  have hw:=of_decide_eq_false hw
  rw[if_neg hz,if_neg hw]at eV
  have an:=ai (xg j5)
  refine qbv (lo:=h2.size) (ztb hM ab) (by omega) λg2 Z=>⟨_,rfl,⟨by omega,by omega,by omega⟩,?_⟩
  have aj:(bl (s.drop a)).extract (0:Int).toNat ((Yg (xg j5) (s.drop a):Nat):Int).toNat=bl ((s.drop a).take (Yg (xg j5) (s.drop a))):=by
   rw[Al,Zq];rfl
  rw[aj]
  refine((z6n (gl:=gl) (s:=(s.drop a).take (Yg (xg j5) (s.drop a))) (R:=λr=>r=Qq ((s.drop a).take (Yg (xg j5) (s.drop a)))) rfl).px hM (ab.keep Z) (yj (a:=Arg.mk .str _) (rdStr _) jy)).go λv g3 M' r L hv hr=>?_
  subst hr
  rw[qgn hv]
  generalize hq:(s.drop a).take (Yg (xg j5) (s.drop a))=w at eV
  have k5:Keep h2.size h2 g3:=Z.trans L.keep Z.size
  refine⟨_,rfl,λaa=>⟨(a:Int),(B0.ofKeep k5).cell rfl,by kernel_rfl,?_⟩,λaa=>⟨(a:Int),(B0.ofKeep k5).cell rfl,by kernel_rfl,?_⟩⟩
  ·refine z1z (B0.ofKeep k5) λg4 ae=>⟨_,_,_,_,rfl,done _ _ _ _ g4 (k5.trans ae k5.size) ?_⟩
   have hn:¬Qq w=0:=by simpa using aa
   rw[if_neg hn]at eV
   rw[zd0 eV,ah _ (by omega)]
  ·refine z11 hM (ab.keep k5) λg4 ae=>⟨_,_,_,_,rfl,done _ _ _ _ g4 (k5.trans ae k5.size) ?_⟩
   have hn:Qq w=0:=by simpa using aa
   rw[if_pos hn]at eV
   rw[zgp eV (by decide)]
end
end Go.X
end
section
namespace Go.X
open Go Go.Code
section
variable {ro:Option Nat} {n:Nat} {P:Program} {f:FuncId} {args:Array Value} {w:World} {o:Oper} {a:Act} {e:Env} {h:za}
abbrev rf(ro:Option Nat):Fence:={ Fence.wide with round:=ro }
def zf3(K:Act->World->Prop):Exit->Act->World->Prop
 |.normal,a,w=>K a w
 |_,_,_=>False
theorem Yc{K:Act->World->Prop}:¬LetsOut (zf3 K):=λ⟨_,_,h⟩=>h
theorem z6o{R:Ending->World->Prop}(h:Calls P f args w R):CallsIn (rf ro) n P f args w R:=by
 have h1:CallsIn Fence.wide n P f args w R:=callsIn_wide.2 h
 exact h1
theorem qby{row:String}{R:Value->World->Prop}(h:Rows P row args w R):RowsIn (rf ro) n P row args w R:=by
 have h1:RowsIn Fence.wide n P row args w R:=λc cs _=>let ⟨v,w',r,s⟩:=h c cs;⟨v,w',r,stepsIn_wide.2 s⟩
 exact h1
def xx(o:Oper):Bool:=match o.op with
 |.defer _=>false
 |_=>true
theorem ztc(h:xx o=true):∀c,o.op≠.defer c:=by
 intro c e
 unfold xx at h
 rw[e]at h;cases h
theorem qer(hd:xx o=true){K:Act->World->Prop}{Q:Exit->Act->World->Prop}(h:o.wp P a w K Q):o.wpIn (rf ro) n P a w K Q:=by
 refine⟨λ_ _=>trivial,?_⟩
 rw[Oper.semAt_eq _ _ _ (ztc hd)]
 unfold Oper.wp at h
 generalize (execOp a.eval o).run P w=r at *
 cases r with
 |ok x w'=>
  cases x with
  |enter f args=>exact⟨λhx=>(by cases hx),z6o h⟩
  |row row args=>exact⟨λhx=>(by cases hx),qby h⟩
  |value v=>exact h
  |skip=>exact h
  |defer d=>exact h
  |_=>exact h.elim
 |halt x w'=>cases x <;> first|exact h|exact h.elim
theorem zio{ro:Option Nat}{n:Nat}{P:Program}{ops:Array Oper}{K:Act->World->Prop}{Q:Exit->Act->World->Prop}: ∀(l l2:List Oper) (a:Act) (w:World),l.all xx=true->wpList P ops (zf3 K) l a w->(∀a w,K a w->wpListIn (rf ro) n P ops Q l2 a w)->wpListIn (rf ro) n P ops Q (l++l2) a w
 |[],l2,a,w,_,h,hK=>hK a w h
 |o::l,l2,a,w,hd,h,hK=>by
  rw[C5,As]at hd
  rw[AE]
  unfold wpListIn
  unfold wpList at h
  by_cases hw:Bu o (yielded ops a.tmps)=true
  ·rw[if_pos hw]at h ⊢
   rcases h with h|⟨_,h⟩
   ·have h1:=qer (ro:=ro) (n:=n) hd.1 h
    have h2:=Oper.wpIn_mono (λa w hq=>zio l l2 a w hd.2 hq hK) h1
    refine⟨h2.1,?_⟩
    have h3:=h2.2
    revert h3
    generalize (o.semAt (rf ro).round a.eval).run P w=r
    cases r with
    |ok x w'=>
     cases x with
     |enter f args=>exact λh3=>⟨h3.1,CallsIn.mono h3.2 λe Z he=>by cases e <;> first|exact he|exact he.elim|exact(Yc he).elim⟩
     |round l f tmps assign body=>exact λh3=>⟨h3.1,RoundIn.mono h3.2 λe Z he=>by cases e <;> first|exact he|exact he.elim|exact(Yc he).elim⟩
     |_=>exact λh3=>h3
    |halt x w'=>cases x <;> first|exact λh3=>h3|exact λh3=>h3.elim
   ·exact(Yc h).elim
  ·rw[if_neg hw]at h ⊢
   exact⟨λ_ _=>trivial,zio l l2 _ _ hd.2 h hK⟩
theorem zvc{ro:Option Nat}{n:Nat}{P:Program}{md:Region.Mode}{ops:Array Oper}{K:Act->World->Prop}(hd:∀(i:Nat) (o:Oper),ops[i]?=some o->xx o=true):∀(fuel:Nat) (listed:Array Bool) (a:Act) (w:World),wpAny P md ops (zf3 K) fuel listed a w->wpAnyIn (rf ro) n P md ops (zf3 K) fuel listed a w
 |0,_,_,_,h=>h
 |fuel+1,listed,a,w,h=>by
  refine⟨h.1,λi hi=>?_⟩
  have h2:=h.2 i hi
  unfold wpOp at h2
  unfold wpOpIn
  split at h2
  ·rename_i ho
   rw[ho];exact zvc hd fuel _ _ _ h2
  ·rename_i o ho
   rw[ho]
   simp only
   by_cases hw:Bu o (yielded ops a.tmps)=true
   ·rw[if_pos hw]at h2 ⊢
    rcases h2 with h2|⟨_,h2⟩
    ·exact Oper.wpIn_mono (λa w hq=>zvc hd fuel _ a w hq) (qer (hd i o ho) h2)
    ·exact(Yc h2).elim
   ·rw[if_neg hw]at h2 ⊢
    exact⟨λ_ _=>trivial,zvc hd fuel _ _ _ h2⟩
def Xe(D:List Deferred)(a:Act):Act:={ a with defers:=a.defers++D }
theorem z8v{D:List Deferred}{K:Act->World->Prop}{R:Act->World->Prop}(h:o.wp P a w K (zf3 R)):o.wp P (Xe D a) w (λa1 w1=>∃a0,a1=Xe D a0/\K a0 w1) (zf3 λa1 w1=>∃a0,a1=Xe D a0/\R a0 w1):=by
 unfold Oper.wp at h ⊢
 have he:(Xe D a).eval=a.eval:=rfl
 rw[he]
 have hp:∀d v,(Xe D a).put d v=Xe D (a.put d v):=λd v=>by cases d <;> rfl
 generalize (execOp a.eval o).run P w=r at *
 cases r with
 |ok x w'=>
  cases x with
  |enter f args=>exact Calls.mono h λe Z he=>by cases e with
    |returned v=>exact⟨_,hp _ _,he⟩
    |panicked ch=>exact he
    |outgrown=>exact(Yc he).elim
  |row row args=>exact Rows.mono h λv Z he=>⟨_,hp _ _,he⟩
  |value v=>exact⟨_,hp _ _,h⟩
  |skip=>exact⟨_,hp _ _,h⟩
  |defer d=>exact⟨(Act.put { a with defers:=d::a.defers } o.dst undef),(by cases o.dst <;> rfl),(show K (Act.put { a with defers:=d::a.defers } o.dst undef) w' from h)⟩
  |_=>exact h.elim
 |halt x w'=>cases x <;> first|exact h|exact h.elim
theorem znh{P:Program}{md:Region.Mode}{ops:Array Oper}{D:List Deferred}{K:Act->World->Prop}:∀(fuel:Nat) (listed:Array Bool) (a:Act) (w:World),wpAny P md ops (zf3 K) fuel listed a w->wpAny P md ops (zf3 λa1 w1=>∃a0,a1=Xe D a0/\K a0 w1) fuel listed (Xe D a) w
 |0,_,a,_,h=>⟨h.1,a,rfl,h.2⟩
 |fuel+1,listed,a,w,h=>by
  refine⟨λhn=>⟨a,rfl,h.1 hn⟩,λi hi=>?_⟩
  have h2:=h.2 i hi
  unfold wpOp at h2 ⊢
  have hy:yielded ops (Xe D a).tmps=yielded ops a.tmps:=rfl
  split at h2
  ·exact znh fuel _ _ _ h2
  ·rename_i o ho
   rw[hy]
   by_cases hw:Bu o (yielded ops a.tmps)=true
   ·rw[if_pos hw]at h2 ⊢
    rcases h2 with h2|⟨_,h2⟩
    ·exact .inl (Oper.wp_mono (λa1 w1 ⟨a0,e,hq⟩=>by rw[e];exact znh fuel _ a0 w1 hq) (z8v h2))
    ·exact(Yc h2).elim
   ·rw[if_neg hw]at h2 ⊢
    have hp:(Xe D a).put o.dst undef=Xe D (a.put o.dst undef):=by cases o.dst <;> rfl
    rw[hp]
    exact znh fuel _ _ _ h2
def YX(P:Program)(l:Nat)(args:Array Value)(h:za)(K:Value->za->Prop):Prop:=
 ∀(m:Nat) (B:World) (d:Nat),∃fn tmps assign body,(Instr.yield l args).run P (mk B d h)=.ok (.round l fn tmps assign body) (mk B d h) /\
  RoundIn (rf none) m P l fn tmps assign body (mk B d h) λe w'=>∃v d' h',e=.returned v/\w'=mk B d' h'/\K v h'
def qh0(o:Oper):Bool:=match o.op with
 |.call c=>match c.callee with
  |.value x=>!(Jy x)
  |_=>false
 |_=>false
def zqk:List Oper->Option (List Oper×Oper×List Oper)
 |[]=>none
 |o::l=>bif qh0 o then some ([],o,l)else match zqk l with
  |some (pre,o',post)=>some (o::pre,o',post)
  |none=>none
theorem z2a{l:List Oper}:∀{pre Z:List Oper} {o:Oper},zqk l=some (pre,o,Z)->l=pre++o::Z:=by
 induction l with
 |nil=>intro pre Z o h;cases h
 |cons x l ih=>
  intro pre Z o h
  rw[zqk]at h
  cases hd:qh0 x with
  |true=>
   rw[hd,cond_true]at h
   have h:=Au h
   have h1:=congrArg Prod.fst h
   have h2:=congrArg (λq=>q.2.1) h
   have h3:=congrArg (λq=>q.2.2) h
   simp only at h1 h2 h3
   rw[<-h1,<-h2,<-h3];rfl
  |false=>
   rw[hd,cond_false]at h
   cases hs:zqk l with
   |none=>rw[hs]at h;cases h
   |some q=>
    obtain⟨ab,o',aa⟩:=q
    rw[hs]at h
    have h:=Au h
    have h1:=congrArg Prod.fst h
    have h2:=congrArg (λq=>q.2.1) h
    have h3:=congrArg (λq=>q.2.2) h
    simp only at h1 h2 h3
    rw[ih hs,<-h1,<-h2,<-h3];rfl
def zvd(P:Program)(o:Oper)(e:Env)(h:za)(K:Value->za->Prop):Prop:=match o.op with
 |.call c=>match c.callee with
  |.value x=>match W9 e [] x with
   |some (.func (.yield l) A C)=>bif (bif (Nat.beq A.size 0)then(Nat.beq C.size 0)else false)then(bif known e [] c.args.toList then YX P l (c.args.map (rho e [])) h λv h'=>typed P o.type v λv'=>K v' h' else False)else False
   |_=>False
  |_=>False
 |_=>False
theorem zql{n m:Nat}{K:Value->za->Prop}(H:zvd P o e h K)(hs:Sat n e a)(B:World)(d:Nat){next:Act->World->Prop}{Q:Exit->Act->World->Prop}
  (hn:∀v d' h',K v h'->next (a.put o.dst v) (mk B d' h')):o.wpIn (rf none) m P a (mk B d h) next Q:=by
 unfold zvd at H
 split at H
 ·rename_i c ho
  split at H
  ·rename_i x hx
   split at H
   ·rename_i l A C hl
    obtain⟨hA,hC,H⟩:A=#[]/\C=#[]/\(bif known e [] c.args.toList then YX P l (c.args.map (rho e [])) h λv h'=>typed P o.type v λv'=>K v' h' else False):=by
     cases h1:Nat.beq A.size 0 with
     |false=>rw[h1]at H;exact Dr H
     |true=>
      cases h2:Nat.beq C.size 0 with
      |false=>rw[h1,h2]at H;exact Dr H
      |true=>rw[h1,h2]at H;exact⟨Array.eq_empty_of_size_eq_zero (Ah h1),Array.eq_empty_of_size_eq_zero (Ah h2),H⟩
    subst hA;subst hC
    cases hk:known e [] c.args.toList with
    |false=>rw[hk]at H;exact Dr H
    |true=>
     rw[hk]at H
     simp only[cond_true]at H
     obtain⟨fn,tmps,assign,body,h1,h2⟩:=H (m-1) B d
     have hv:a.eval x=.func (.yield l) #[] #[]:=qu hs (c:=[]) trivial hl
     have Z:c.args.map a.eval=c.args.map (rho e []):=by
      apply Array.map_congr_left
      intro y hy
      exact Zg hs (c:=[]) trivial hk y (by simpa using hy)
     have hr:(o.semAt (rf none).round a.eval).run P (mk B d h)=.ok (.round l fn tmps assign body) (mk B d h):=by
      show(execOp a.eval o).run P (mk B d h)=_
      simp only[execOp,ho,resolve,hx,hv,DL,Sem.run_bind,Sem.run_pure,Result.andThen_ok,invoke]
      rw[Z]
      simpa using h1
     refine⟨λ_ _=>trivial,?_⟩
     rw[hr]
     refine⟨λhx=>(by cases hx),h2.mono ?_⟩
     rintro e' w' ⟨v,d',h',rfl,rfl,h3⟩
     exact hn _ _ _ (xj h3)
   ·exact Dr H
  ·exact Dr H
 ·exact Dr H
def ztd(P:Program)(n:Nat)(tl:List (Nat×Nat))(id:Nat)(ops:Array Oper)(Z:Bool)(K:Env->za->Prop)(e:Env)(h:za):Prop:=
 match zqk ops.toList with
 |none=>regionF P n tl id ops Z K e h
 |some (pre,o,post)=>bif Z then False else bif (pre.all xx&&post.all xx)then(match o.guard with
  |none=>bif qk n [] o.dst then wR P n ops (λe1 h1=>zvd P o e1 h1 λv h2=>wR P n ops K post (putO e1 o.dst [] v) h2) pre e h else False
  |some _=>False)else False
theorem zni(hm:P.follows .mixedOrders=true){tl:List (Nat×Nat)}{id:Nat}{ops:Array Oper}{aa:Bool}{K:Env->za->Prop}
  (H:ztd P n tl id ops aa K e h) (m:Nat) (B:World) (d:Nat) (hs:Sat n e a) {Q:Exit->Act->World->Prop}
  (hQ:∀e' a' d' h',Sat n e' a'->Same (y8 ops.toList) a a'->K e' h'->Q .normal a' (mk B d' h')):(Eo id ops aa).wpIn (rf none) m P Q a (mk B d h):=by
 unfold ztd at H
 split at H
 ·exact wpIn_wide.2 (zc5 hm H B d hs hQ)
 ·rename_i pre o Z ai
  have hl:=z2a ai
  cases aa with
  |true=>exact Dr H
  |false=>
   simp only[cond_false]at H
   cases hnd:(pre.all xx&&Z.all xx)with
   |false=>rw[hnd]at H;exact Dr H
   |true=>
    rw[hnd]at H
    simp only[cond_true]at H
    rw[As]at hnd
    split at H
    ·rename_i hg
     cases hd:qk n [] o.dst with
     |false=>rw[hd]at H;exact Dr H
     |true=>
      rw[hd]at H
      simp only[cond_true]at H
      refine wpIn_region_list ?_
      have ab:∀x∈y8 pre,x∈y8 ops.toList:=λx hx=>by rw[hl,Zn];exact Ar _ hx
      have ae:∀i,o.dst=some i->i∈y8 ops.toList:=λi hi=>by rw[hl,Zn];exact Ay _ (by simp[y8,hi])
      have ah:∀x∈y8 Z,x∈y8 ops.toList:=λx hx=>by
       rw[hl,Zn]
       refine Ay _ ?_
       unfold y8
       split
       ·exact Ae _ hx
       ·exact hx
      rw[hl]
      refine zio (K:=λa1 w1=>∃e1 d1 h1,w1=mk B d1 h1/\Sat n e1 a1/\Same (y8 ops.toList) a a1/\zvd P o e1 h1 λv h2=>wR P n ops K Z (putO e1 o.dst [] v) h2) pre (o::Z) a _ hnd.1 (zal B pre e h a d H hs λe' a' d' h' q1 q2 q3=>⟨e',d',h',rfl,q1,q2.mono ab,q3⟩) ?_
      rintro a1 w1 ⟨e1,d1,h1,rfl,s1,m1,q1⟩
      unfold wpListIn
      have af:Bu o (yielded ops a1.tmps)=true:=by simp[Bu,hg]
      rw[if_pos af]
      refine zql q1 s1 B d1 λv d2 h2 q2=>?_
      have s2:Sat n (putO e1 o.dst [] v) (a1.put o.dst v):=s1.putO hd (λ_=>rfl) (λhv=>absurd trivial hv)
      rw[<-A3 Z]
      refine zio (K:=λa' w'=>Q .normal a' w') Z [] _ _ hnd.2 (zal B Z _ _ _ _ q2 s2 λe' a' d' h' r1 r2 r3=>?_) λa w h=>h
      exact hQ e' a' d' h' r1 ((m1.trans (Same.put a1 o.dst v ae)).trans (r2.mono ah)) r3
    ·exact Dr H
def WI(P:Program)(n:Nat)(pl:Plan):Code->zbl->Env->za->Prop
 |.skip,Q,e,h=>Q .normal e h
 |.ret,Q,e,h=>Q .ret e h
 |.exit id,Q,e,h=>Q (.exit id) e h
 |.label _,Q,e,h=>Q .normal e h
 |.goto l,Q,e,h=>Q (.goto l) e h
 |.region id ops draw,Q,e,h=>ztd P n pl.tails id ops draw (λe h=>Q .normal e h) e h
 |.seq x y,Q,e,h=>match z4l pl.joins (jr y)with
  |none=>WI P n pl x (zrv (λe h=>WI P n pl y Q e h) Q) e h
  |some J=>qc5 J (λe h=>WI P n pl y Q e h) (λK=>WI P n pl x (zrv K Q) e h) (Xq (Qg x) e)
 |.cond c x y,Q,e,h=>match W9 e [] c with
  |some (.bool b)=>(b=true->WI P n pl x Q e h)/\(b=false->WI P n pl y Q e h)
  |_=>False
 |.block id x,Q,e,h=>WI P n pl x (zhb id Q) e h
 |.loop x,Q,e,h=>match z4l pl.loops (jr x)with
  |some J=>qc6 J (λQn e h=>WI P n pl x (zrv Qn Q) e h) (Xq (Qg x) e) e h
  |none=>False
 |_,_,_,_=>False
theorem z6p(hm:P.follows .mixedOrders=true){pl:Plan}:∀(c:Code) (Q:zbl) (e:Env) (h:za),WI P n pl c Q e h ->
  ∀(m:Nat) (B:World) (d:Nat) (a:Act),Sat n e a->c.wpIn (rf none) m P (qc7 n B (Qg c) a Q) a (mk B d h):=by
 intro c
 induction c with
 |skip=>exact λQ e h H m B d a hs=>wpIn_skip ⟨e,d,h,rfl,hs,Same.refl _ _,H⟩
 |ret=>exact λQ e h H m B d a hs=>wpIn_ret ⟨e,d,h,rfl,hs,Same.refl _ _,H⟩
 |exit id=>exact λQ e h H m B d a hs=>wpIn_exit ⟨e,d,h,rfl,hs,Same.refl _ _,H⟩
 |label l=>exact λQ e h H m B d a hs=>wpIn_label ⟨e,d,h,rfl,hs,Same.refl _ _,H⟩
 |goto l=>exact λQ e h H m B d a hs=>wpIn_goto ⟨e,d,h,rfl,hs,Same.refl _ _,H⟩
 |region id ops aB=>
  exact λQ e h H m B d a hs=>zni hm H m B d hs λe' a' d' h' q1 q2 q3=>⟨e',d',h',rfl,q1,q2,q3⟩
 |seq x y aa ab=>
  intro Q e h H m B d a hs
  simp only[WI]at H
  have hl:∀i∈Qg x,i∈Qg (x.seq y):=λi hi=>Ar _ hi
  have hr:∀i∈Qg y,i∈Qg (x.seq y):=λi hi=>Ay _ hi
  split at H
  ·refine wpIn_seq (wpIn_mono (aa _ _ _ H m B d a hs) ?_)
   rintro ex a1 w1 ⟨e1,d1,h1,rfl,s1,m1,q1⟩
   cases ex with
   |normal=>
    refine wpIn_mono (ab _ _ _ q1 m B d1 a1 s1) ?_
    rintro ex a2 w2 ⟨e2,d2,h2,rfl,s2,m2,q2⟩
    exact⟨e2,d2,h2,rfl,s2,(m1.mono hl).trans (m2.mono hr),q2⟩
   |_=>exact⟨e1,d1,h1,rfl,s1,m1.mono hl,q1⟩
  ·rename_i J hJ
   have H':=H (mkC (wa J) λvs=>λh=>WI P n pl y Q (Yq J vs++Xq (Qg x) e) h) (zl1 λvs h hq=>hq)
   refine wpIn_seq (wpIn_mono (aa _ _ _ H' m B d a hs) ?_)
   rintro ex a1 w1 ⟨e1,d1,h1,rfl,s1,m1,q1⟩
   cases ex with
   |normal=>
    obtain⟨vs,q,hv,hq,hk⟩:=zeg q1
    have aj:=zl0 hq
    subst aj
    have ap:Sat n (Yq J vs++Xq (Qg x) e) a1:=zc6 hs s1.defers s1.size m1 (jm s1 hv)
    refine wpIn_mono (ab _ _ _ hk m B d1 a1 ap) ?_
    rintro ex a2 w2 ⟨e2,d2,h2,rfl,s2,m2,q2⟩
    exact⟨e2,d2,h2,rfl,s2,(m1.mono hl).trans (m2.mono hr),q2⟩
   |_=>exact⟨e1,d1,h1,rfl,s1,m1.mono hl,q1⟩
 |cond c x y aa ab=>
  intro Q e h H m B d a hs
  simp only[WI]at H
  have hl:∀i∈Qg x,i∈Qg (Ej c x y):=λi hi=>Ar _ hi
  have hr:∀i∈Qg y,i∈Qg (Ej c x y):=λi hi=>Ay _ hi
  split at H
  ·rename_i b hb
   refine wpIn_cond_split (qu hs (c:=[]) trivial hb) (λay=>?_) (λau=>?_)
   ·refine wpIn_mono (aa _ _ _ (H.1 ay) m B d a hs) ?_
    rintro ex a2 w2 ⟨e2,d2,h2,rfl,s2,m2,q2⟩
    exact⟨e2,d2,h2,rfl,s2,m2.mono hl,q2⟩
   ·refine wpIn_mono (ab _ _ _ (H.2 au) m B d a hs) ?_
    rintro ex a2 w2 ⟨e2,d2,h2,rfl,s2,m2,q2⟩
    exact⟨e2,d2,h2,rfl,s2,m2.mono hr,q2⟩
  ·exact H.elim
 |block id x ih=>
  intro Q e h H m B d a hs
  refine wpIn_block (wpIn_mono (ih _ _ _ H m B d a hs) ?_)
  rintro ex a1 w1 ⟨e1,d1,h1,rfl,s1,m1,q1⟩
  cases ex with
  |exit i=>
   simp only[zhb]at q1
   simp only[Exit.inBlock]
   by_cases hb:Nat.beq i id=true
   ·rw[if_pos (Ah hb)]
    simp only[hb,cond_true]at q1
    exact⟨e1,d1,h1,rfl,s1,m1,q1⟩
   ·rw[if_neg (λhe=>hb (by rw[he];simp))]
    simp only[hb,cond_false]at q1
    exact⟨e1,d1,h1,rfl,s1,m1,q1⟩
  |_=>exact⟨e1,d1,h1,rfl,s1,m1,q1⟩
 |loop x ih=>
  intro Q e h H m B d a hs
  simp only[WI]at H
  split at H
  ·rename_i J hJ
   obtain⟨I,μ,h0,ae⟩:=H
   obtain⟨ar,p0,ak,az,ax⟩:=zeg h0
   let F:=zwd (wa J) I μ
   let at_:Act->Option ((za->Prop)×(za->Nat)):=λa1=>(za1 (λi=>some (zo a1 i)) J).bind λvs=>zoi (wa J) vs F
   refine wpIn_loop (λa1 w1=>∃d1 h1 vs p,w1=mk B d1 h1/\a1.defers=[]/\a1.tmps.size=n/\Same (Qg x) a a1/\za1 (λi=>some (zo a1 i)) J=some vs/\zoi (wa J) vs F=some p/\p.1 h1)
    (λa1 w1=>match at_ a1 with|some p=>p.2 w1.heap|none=>0) ⟨d,h,ar,p0,rfl,hs.defers,hs.size,Same.refl _ _,jm hs ak,az,ax⟩ ?_
   rintro a1 w1 ⟨d1,h1,vs,p,rfl,ah,an,Z,hv,hp,hI⟩
   have s1:Sat n (Yq J vs++Xq (Qg x) e) a1:=zc6 hs ah an Z hv
   have hb:=zha hp ae h1 hI
   refine wpIn_mono (ih _ _ _ hb m B d1 a1 s1) ?_
   rintro ex a2 w2 ⟨e2,d2,h2,rfl,s2,m2,q2⟩
   cases ex with
   |normal=>
    obtain⟨aA,q,af,hq,am,ai⟩:=zeg q2
    refine⟨⟨d2,h2,aA,q,rfl,s2.defers,s2.size,Z.trans m2,jm s2 af,hq,am⟩,?_⟩
    have e1:at_ a1=some p:=by simp only[at_,hv,CP];exact hp
    have e2:at_ a2=some q:=by simp only[at_,jm s2 af,CP];exact hq
    rw[e1,e2]
    exact ai
   |_=>exact⟨e2,d2,h2,rfl,s2,Z.trans m2,q2⟩
  ·exact H.elim
 |_=>exact λQ e h H=>H.elim
def XCI(P:Program)(f:FuncId)(args:Array Value)(h:za)(R:Value->za->Prop):Prop:=
 ∀(m:Nat) (B:World) (d:Nat),CallsIn (rf none) m P f args (mk B d h) λe w'=>∃v d' h',e=.returned v/\w'=mk B d' h'/\R v h'
theorem ziq(hm:P.follows .mixedOrders=true)(pl:Plan)(vs:List Value){fn:Func}{rs:List ResultVar}(hf:P.funcs[f]?=some fn)(hb:Qy fn=true)(hr:fn.results.toList=rs)(hn:fn.ntmps=n)
  (hz:Nat.ble vs.length n=true) {R:Value->za->Prop} (H:WI P n pl (codeOf fn) (qfm P rs R) (zys 0 vs) h):XCI P f vs.toArray h R:=by
 have aa:fn.body=some (codeOf fn):=by
  unfold Qy at hb
  unfold codeOf
  split at hb
  ·rename_i c hc;rw[hc]
  ·cases hb
 intro m B d
 subst hn
 refine callsIn_of_wp hf aa trivial ?_ rfl
 have ab:vs.length<=fn.ntmps:=BR hz
 have hs:Sat fn.ntmps (zys 0 vs) { tmps:=vs.toArray++Bn (fn.ntmps-vs.toArray.size) undef,defers:=[] }:=by
  refine⟨rfl,by simp;omega,?_⟩
  refine zap vs.toArray _ vs 0 λj v hj=>?_
  have Z:j<vs.length:=by
   rcases A1 j vs.length with h|h
   ·exact h
   ·rw[BS h]at hj;cases hj
  simp only[AK,BB]
  rw[CI (by simpa using Z)]
  simp[hj]
 refine wpIn_mono (z6p hm (codeOf fn) _ _ _ H m B d _ hs) ?_
 rintro ex a w ⟨e1,d1,h1,rfl,s1,m1,q1⟩
 cases ex with
 |normal=>
  obtain⟨v,hv,hq⟩:=Qx s1 hr q1
  exact⟨s1.defers,v,hq B d1,v,d1,h1,rfl,rfl,hv⟩
 |ret=>
  obtain⟨v,hv,hq⟩:=Qx s1 hr q1
  exact⟨s1.defers,v,hq B d1,v,d1,h1,rfl,rfl,hv⟩
 |_=>exact q1.elim
end
end Go.X
end
section
namespace Go.X
section
variable {P:Program} {n m id:Nat} {ro:Option Nat} {e:Env} {h:za} {a:Act}
theorem znj{P:Program}{ops:Array Oper}{D:List Deferred}{K:Act->World->Prop}:∀(l:List Oper) (a:Act) (w:World),wpList P ops (zf3 K) l a w->wpList P ops (zf3 λa1 w1=>∃a0,a1=Xe D a0/\K a0 w1) l (Xe D a) w
 |[],a,w,h=>⟨a,rfl,h⟩
 |o::l,a,w,h=>by
  unfold wpList at h ⊢
  have hy:yielded ops (Xe D a).tmps=yielded ops a.tmps:=rfl
  rw[hy]
  by_cases hw:Bu o (yielded ops a.tmps)=true
  ·rw[if_pos hw]at h ⊢
   rcases h with h|⟨_,h⟩
   ·exact .inl (Oper.wp_mono (λa1 w1 ⟨a0,e,hq⟩=>by rw[e];exact znj l a0 w1 hq) (z8v h))
   ·exact(Yc h).elim
  ·rw[if_neg hw]at h ⊢
   have hp:(Xe D a).put o.dst undef=Xe D (a.put o.dst undef):=by cases o.dst <;> rfl
   rw[hp]
   exact znj l _ w h
def qfy(P:Program)(n:Nat)(ops:Array Oper)(Z:Bool)(K:Env->za->Prop)(e:Env)(h:za):Prop:=
 bif ops.toList.all xx then(bif Z then(bif zjd ops then wI P n h true ops (λe'=>wB7 P n ops h K true (hvL ops).length [] (hvL ops) e' h) (Yp [] (Y3 ops [] ops.size) ops.size) e else False)else wR P n ops K ops.toList e h)else False
theorem zlh(hm:P.follows .mixedOrders=true){D:List Deferred}{ops:Array Oper}{Z:Bool}{K:Env->za->Prop}(H:qfy P n ops Z K e h)(B:World)(d:Nat)(hs:Sat n e a){Q:Exit->Act->World->Prop}
  (hQ:∀e' a' d' h',Sat n e' a'->K e' h'->Q .normal (Xe D a') (mk B d' h')):(Eo id ops Z).wpIn (rf ro) m P Q (Xe D a) (mk B d h):=by
 unfold qfy at H
 cases hd:ops.toList.all xx with
 |false=>rw[hd]at H;exact H.elim
 |true=>
  rw[hd,cond_true]at H
  have fin:∀a1 w1,(∃a0,a1=Xe D a0/\∃e' d' h',w1=mk B d' h'/\Sat n e' a0/\K e' h')->Q .normal a1 w1:=by
   rintro a1 w1 ⟨a0,rfl,e',d',h',rfl,q1,q2⟩;exact hQ e' a0 d' h' q1 q2
  cases Z with
  |false=>
   refine wpIn_region_list ?_
   rw[<-A3 ops.toList]
   exact zio _ [] _ _ hd (znj (K:=λa0 w1=>∃e' d' h',w1=mk B d' h'/\Sat n e' a0/\K e' h') _ _ _ (zal B _ _ _ _ _ H hs λe' a' d' h' q1 q2 q3=>⟨e',d',h',rfl,q1,q3⟩)) fin
  |true=>
   rw[cond_true]at H
   cases hB:zjd ops with
   |false=>rw[hB]at H;exact H.elim
   |true=>
    rw[hB]at H
    have h0:wpAny P .any ops (zf3 λa0 w1=>∃e' d' h',w1=mk B d' h'/\Sat n e' a0/\K e' h') ops.size (Bn ops.size false) a (mk B (d+1) h):=
     zef B hB H hs (λe' a' d' h' q1 q2 q3=>⟨e',d',h',rfl,q1,q3⟩) (d+1)
    refine wpIn_mono (wpIn_region_any (Q:=zf3 λa1 w1=>∃a0,a1=Xe D a0/\∃e' d' h',w1=mk B d' h'/\Sat n e' a0/\K e' h') hm (zvc (λi o ho=>?_) _ _ _ _ (znh _ _ _ _ h0))) λx a' w' hx=>?_
    ·rw[AD]at hd
     obtain⟨aa,e⟩:=Ad.1 ho
     exact hd o (by rw[<-e];simp)
    ·cases x with
     |normal=>exact fin _ _ hx
     |_=>exact hx.elim
def WG(P:Program)(n:Nat):Code->zbl->Env->za->Prop
 |.skip,Q,e,h=>Q .normal e h
 |.ret,Q,e,h=>Q .ret e h
 |.exit id,Q,e,h=>Q (.exit id) e h
 |.region _ ops draw,Q,e,h=>qfy P n ops draw (λe h=>Q .normal e h) e h
 |.seq x y,Q,e,h=>WG P n x (zrv (λe h=>WG P n y Q e h) Q) e h
 |.cond c x y,Q,e,h=>match W9 e [] c with
  |some (.bool b)=>(b=true->WG P n x Q e h)/\(b=false->WG P n y Q e h)
  |_=>False
 |.block id x,Q,e,h=>WG P n x (zhb id Q) e h
 |_,_,_,_=>False
def qbz(n:Nat)(B:World)(D:List Deferred)(Q:zbl):Exit->Act->World->Prop:=
 λx a w=>∃e d h a0,a=Xe D a0/\w=mk B d h/\Sat n e a0/\Q x e h
theorem qes{B:World}{D:List Deferred}{Q:zbl}:∀ex a w,qbz n B D (zhb id Q) ex a w->Exit.inBlock id (qbz n B D Q) ex a w:=by
 rintro ex a1 w1 ⟨e1,d1,h1,a0,rfl,rfl,s1,q1⟩
 cases ex with
 |exit i=>
  simp only[zhb]at q1
  simp only[Exit.inBlock]
  by_cases hb:Nat.beq i id=true
  ·rw[if_pos (Ah hb)]
   simp only[hb,cond_true]at q1
   exact⟨e1,d1,h1,a0,rfl,rfl,s1,q1⟩
  ·rw[if_neg (λhe=>hb (by rw[he];simp))]
   simp only[hb,cond_false]at q1
   exact⟨e1,d1,h1,a0,rfl,rfl,s1,q1⟩
 |_=>exact⟨e1,d1,h1,a0,rfl,rfl,s1,q1⟩
theorem zve(hm:P.follows .mixedOrders=true){D:List Deferred}:∀(c:Code) (Q:zbl) (e:Env) (h:za),WG P n c Q e h ->
  ∀(B:World) (d:Nat) (a:Act),Sat n e a->c.wpIn (rf ro) m P (qbz n B D Q) (Xe D a) (mk B d h):=by
 intro c
 induction c with
 |skip=>exact λQ e h H B d a hs=>wpIn_skip ⟨e,d,h,a,rfl,rfl,hs,H⟩
 |ret=>exact λQ e h H B d a hs=>wpIn_ret ⟨e,d,h,a,rfl,rfl,hs,H⟩
 |exit id=>exact λQ e h H B d a hs=>wpIn_exit ⟨e,d,h,a,rfl,rfl,hs,H⟩
 |region id ops af=>exact λQ e h H B d a hs=>zlh hm H B d hs λe' a' d' h' q1 q2=>⟨e',d',h',a',rfl,rfl,q1,q2⟩
 |seq x y Z aa=>
  intro Q e h H B d a hs
  refine wpIn_seq (wpIn_mono (Z _ _ _ H B d a hs) ?_)
  rintro ex a1 w1 ⟨e1,d1,h1,a0,rfl,rfl,s1,q1⟩
  cases ex with
  |normal=>exact aa _ _ _ q1 B d1 a0 s1
  |_=>exact⟨e1,d1,h1,a0,rfl,rfl,s1,q1⟩
 |cond c x y Z aa=>
  intro Q e h H B d a hs
  simp only[WG]at H
  split at H
  ·rename_i b hb
   have hc:(Xe D a).eval c=.bool b:=qu hs (c:=[]) trivial hb
   exact wpIn_cond_split hc (λae=>Z _ _ _ (H.1 ae) B d a hs) (λab=>aa _ _ _ (H.2 ab) B d a hs)
  ·exact H.elim
 |block id x ih=>
  intro Q e h H B d a hs
  exact wpIn_block (wpIn_mono (ih _ _ _ H B d a hs) qes)
 |_=>exact λQ e h H=>H.elim
abbrev zn3:=LoopState->Option Code->Loop
def qii(rec:zn3)(l:Nat)(K:Value->za->Prop):zbl
 |.normal,_,h=>h[l]?=some (.loop (rec .busy none))/\K (.bool true) (h.setIfInBounds l (.loop (rec .ready none)))
 |.ret,_,h=>h[l]?=some (.loop (rec .busy none))/\K (.bool false) (h.setIfInBounds l (.loop (rec .done (some .ret))))
 |_,_,_=>False
def zac(P:Program)(n:Nat)(Z bd:Code)(rec:zn3)(l:Nat)(K:Value->za->Prop)(e:Env)(h:za):Prop:=
 WG P n Z (λx e1 h1=>match x with
  |.normal=>h1[l]?=some (.loop (rec .ready none))/\WG P n bd (qii rec l K) e1 (h1.setIfInBounds l (.loop (rec .busy none)))
  |_=>False) e h
theorem zvf(a:Act):Xe [] a=a:=by unfold Xe;rw[A3]
def qb0:Env->List Nat->List Value->Env
 |e,p::ps,v::vs=>qb0 (putO e (some p) [] v) ps vs
 |e,_,_=>e
def zxt:Array Value->List Nat->List Value->Array Value
 |t,p::ps,v::vs=>zxt (t.setIfInBounds p v) ps vs
 |t,_,_=>t
theorem zli:∀(ps:List Nat) (vs:List Value) (t:Array Value),(ps.zip vs).foldl (λ(t:Array Value) (x:Tmp×Value)=>t.setIfInBounds x.1 x.2) t=zxt t ps vs
 |[],_,_=>rfl
 |_::_,[],_=>rfl
 |p::ps,v::vs,t=>zli ps vs (t.setIfInBounds p v)
theorem zqm{n:Nat}:∀(ps:List Nat) (vs:List Value) (e:Env) (a:Act),(∀p∈ps,qk n [] (some p)=true)->Sat n e a->Sat n (qb0 e ps vs) { tmps:=zxt a.tmps ps vs,defers:=[] }
 |[],vs,e,a,_,hs=>by
  have:=hs.defers
  cases a;simp only at this;subst this;exact hs
 |p::ps,[],e,a,_,hs=>by
  have:=hs.defers
  cases a;simp only at this;subst this;exact hs
 |p::ps,v::vs,e,a,h,hs=>zqm ps vs _ (a.put (some p) v) (λq hq=>h q (Ae _ hq)) (hs.putO (h p Aj) (λ_=>rfl) (λhv=>absurd trivial hv))
theorem z8w(hm:P.follows .mixedOrders=true){n l:Nat}{ps:List Nat}{ab bd:Code}{fn:FuncId}{D:Nat}(ak:∀p∈ps,qk n [] (some p)=true)
  {rec:zn3} (Z:rec=λst pe=>{ state:=st,pending:=pe,fn:=fn,tmps:=a.tmps,params:=ps.toArray,assign:=ab,body:=bd,defers:=D })
  {vs:List Value} (hv:ps.length=vs.length) (hs:Sat n e a) (hl:h[l]?=some (.loop (rec .ready none))) {K:Value->za->Prop}
  (H:zac P n ab bd rec l K (qb0 e ps vs) h):YX P l vs.toArray h K:=by
 intro m B d
 have ai:(mk B d h).heap[l]?=some (.loop (rec .ready none)):=hl
 have hy:=run_yield (P:=P) (w:=mk B d h) (args:=vs.toArray) ai (by rw[Z];show vs.toArray.size=ps.toArray.size;simp[hv])
 refine⟨_,_,_,_,hy,?_⟩
 rw[Z]at hy ⊢
 have s2:=zqm ps vs e a ak hs
 have key:RoundIn (rf none) m P l fn (zxt a.tmps ps vs) ab bd (mk B d h) (λe w'=>∃v d' h',e=.returned v/\w'=mk B d' h'/\K v h'):=by
  refine roundIn_of_wpIn (F:=rf none) trivial ?_
  have hF:(rf none).inRound l=rf (some l):=rfl
  rw[hF,<-zvf { tmps:=zxt a.tmps ps vs,defers:=[] }]
  refine wpIn_mono (zve hm ab _ _ _ H B d _ s2) ?_
  rintro ex a1 w1 ⟨e1,d1,h1,a0,rfl,rfl,s1,q1⟩
  cases ex with
  |normal=>
   obtain⟨k3,k4⟩:=q1
   have aj:(mk B d1 h1).heap[l]?=some (.loop (rec .ready none)):=k3
   have hb:=run_beginRound (P:=P) aj (by rw[Z])
   refine⟨_,hb,?_⟩
   have af:({ rec .ready none with state:=.busy }:Loop)=rec .busy none:=by rw[Z]
   rw[af]
   refine wpIn_mono (zve hm bd _ _ _ k4 B d1 a0 s1) ?_
   rintro ex a2 w2 ⟨e2,d2,h2,a3,rfl,rfl,s3,q2⟩
   cases ex with
   |normal=>
    obtain⟨k6,k7⟩:=q2
    have ah:(mk B d2 h2).heap[l]?=some (.loop (rec .busy none)):=k6
    have aa:=run_endRound (P:=P) none ah
    refine⟨_,_,aa,.bool true,d2,h2.setIfInBounds l (.loop (rec .ready none)),rfl,?_,k7⟩
    have ae:({ rec .busy none with state:=if(none:Option Code).isNone then .ready else .done,pending:=none }:Loop)=rec .ready none:=by rw[Z];rfl
    rw[ae];rfl
   |ret=>
    obtain⟨k6,k7⟩:=q2
    have ah:(mk B d2 h2).heap[l]?=some (.loop (rec .busy none)):=k6
    have aa:=run_endRound (P:=P) (some .ret) ah
    refine⟨_,_,aa,.bool false,d2,h2.setIfInBounds l (.loop (rec .done (some .ret))),rfl,?_,k7⟩
    have ae:({ rec .busy none with state:=if(some Code.ret:Option Code).isNone then .ready else .done,pending:=some .ret }:Loop)=rec .done (some .ret):=by rw[Z];rfl
    rw[ae];rfl
   |_=>exact q2.elim
  |_=>exact q1.elim
 show RoundIn (rf none) m P l fn (Array.foldl (λ(t:Array Value) (x:Tmp×Value)=>t.setIfInBounds x.1 x.2) a.tmps (ps.toArray.zip vs.toArray)) _ _ _ _
 have zs:Array.foldl (λ(t:Array Value) (x:Tmp×Value)=>t.setIfInBounds x.1 x.2) a.tmps (ps.toArray.zip vs.toArray)=zxt a.tmps ps vs:=by rw[<-zli];simp
 rw[zs]
 exact key
def rfA:Code->Code
 |.rangeFunc _ _ x _=>x
 |.seq x y=>match rfA x with
  |.skip=>rfA y
  |c=>c
 |.block _ x=>rfA x
 |_=>.skip
def rfB:Code->Code
 |.rangeFunc _ _ _ y=>y
 |.seq x y=>match rfB x with
  |.skip=>rfB y
  |c=>c
 |.block _ x=>rfB x
 |_=>.skip
def marks(ds:List Nat):List Deferred:=ds.map λb=>{ target:=.collected b,args:=#[] }
abbrev zir:=Exit->List Nat->Env->za->Prop
def qg6(K:List Nat->Env->za->Prop)(Q:zir):zir
 |.normal,ds,e,h=>K ds e h
 |x,ds,e,h=>Q x ds e h
def z8x(id:Nat)(Q:zir):zir
 |.exit i,ds,e,h=>bif Nat.beq i id then Q .normal ds e h else Q (.exit i) ds e h
 |x,ds,e,h=>Q x ds e h
def zis(rec:zn3)(l:Nat)(N R:za->Prop)(h:za):Prop:=
 (h[l]?=some (.loop (rec .ready none))/\N (h.setIfInBounds l (.loop (rec .exhausted none))))\/(h[l]?=some (.loop (rec .done (some .ret)))/\R (h.setIfInBounds l (.loop (rec .exhausted (some .ret)))))
def z8y(P:Program)(n:Nat)(p1 p2:Nat)(Z bd:Code)(v:Value)(Q:zir)(ds:List Nat)(e:Env)(h:za):Prop:=
 bif qk n [] (some p1)&&qk n [] (some p2)then(∃g lb,v=.func (.func g) #[] lb/\zj P g=true/\∀rec:zn3,
  (∀{v1 v2:Value} {h2:za} {K:Value->za->Prop},h2[h.size+1]?=some (.loop (rec .ready none))->zac P n Z bd rec (h.size+1) K (putO (putO e (some p1) [] v1) (some p2) [] v2) h2->YX P (h.size+1) #[v1,v2] h2 K) ->
  XCI P g (#[.func (.yield (h.size+1)) #[] #[]]++lb) ((h.push (.deferred (some []))).push (.loop (rec .ready none))) λ_ h5=>zis rec (h.size+1) (λh6=>Q .normal (h.size::ds) e h6) (λh6=>Q .ret (h.size::ds) e h6) h5)else False
def z2b(P:Program)(n:Nat)(p1:Nat)(Z bd:Code)(v:Value)(Q:zir)(ds:List Nat)(e:Env)(h:za):Prop:=
 bif qk n [] (some p1)then(∃g lb,v=.func (.func g) #[] lb/\zj P g=true/\∀rec:zn3,
  (∀{v1:Value} {h2:za} {K:Value->za->Prop},h2[h.size+1]?=some (.loop (rec .ready none))->zac P n Z bd rec (h.size+1) K (putO e (some p1) [] v1) h2->YX P (h.size+1) #[v1] h2 K) ->
  XCI P g (#[.func (.yield (h.size+1)) #[] #[]]++lb) ((h.push (.deferred (some []))).push (.loop (rec .ready none))) λ_ h5=>zis rec (h.size+1) (λh6=>Q .normal (h.size::ds) e h6) (λh6=>Q .ret (h.size::ds) e h6) h5)else False
def WD(P:Program)(n:Nat):Code->zir->List Nat->Env->za->Prop
 |.skip,Q,ds,e,h=>Q .normal ds e h
 |.ret,Q,ds,e,h=>Q .ret ds e h
 |.exit id,Q,ds,e,h=>Q (.exit id) ds e h
 |.region _ ops draw,Q,ds,e,h=>qfy P n ops draw (λe h=>Q .normal ds e h) e h
 |.seq x y,Q,ds,e,h=>WD P n x (qg6 (λds e h=>WD P n y Q ds e h) Q) ds e h
 |.cond c x y,Q,ds,e,h=>match W9 e [] c with
  |some (.bool b)=>(b=true->WD P n x Q ds e h)/\(b=false->WD P n y Q ds e h)
  |_=>False
 |.block id x,Q,ds,e,h=>WD P n x (z8x id Q) ds e h
 |.rangeFunc g ps asg bd,Q,ds,e,h=>match W9 e [] g,ps.toList with
  |some v,[p1,p2]=>z8y P n p1 p2 asg bd v Q ds e h
  |some v,[p1]=>z2b P n p1 asg bd v Q ds e h
  |_,_=>False
 |_,_,_,_,_=>False
def qet(n:Nat)(B:World)(Q:zir):Exit->Act->World->Prop:=
 λx a w=>∃ds e d h a0,a=Xe (marks ds) a0/\w=mk B d h/\Sat n e a0/\Q x ds e h
theorem zfn(aj:1<=m){ps:Array Nat}{ab bd:Code}{gf:FuncId}{lb:Array Value}(hg:zj P gf=true){g:Operand}{Q:zir}{ds:List Nat}(hs:Sat n e a)(hc:(Xe (marks ds) a).eval g=.func (.func gf) #[] lb)
  (HR:∀fn (rec:zn3),rec=(λst pe=>{ state:=st,pending:=pe,fn:=fn,tmps:=a.tmps,params:=ps,assign:=ab,body:=bd,defers:=h.size }) ->
   XCI P gf (#[.func (.yield (h.size+1)) #[] #[]]++lb) ((h.push (.deferred (some []))).push (.loop (rec .ready none))) λ_ h5=>zis rec (h.size+1) (λh6=>Q .normal (h.size::ds) e h6) (λh6=>Q .ret (h.size::ds) e h6) h5)
  (B:World) (d:Nat):(Code.rangeFunc g ps ab bd).wpIn (rf none) m P (qet n B Q) (Xe (marks ds) a) (mk B d h):=by
 refine wpIn_rangeFunc λaf _=>?_
 obtain⟨rec,Z⟩:∃rec:zn3,rec=λst pe=>{ state:=st,pending:=pe,fn:=af,tmps:=a.tmps,params:=ps,assign:=ab,body:=bd,defers:=h.size }:=⟨_,rfl⟩
 have ai:=HR af rec Z
 refine⟨h.size+1,[{ target:=.collected h.size,args:=#[] }],mk B d ((h.push (.deferred (some []))).push (.loop (rec .ready none))),{ target:=.fn (.func gf) lb,args:=#[.func (.yield (h.size+1)) #[] #[]] },mk B d ((h.push (.deferred (some []))).push (.loop (rec .ready none))),gf,
  #[.func (.yield (h.size+1)) #[] #[]]++lb,mk B d ((h.push (.deferred (some []))).push (.loop (rec .ready none))),?_,?_,λ_ _=>trivial,?_,λ_=>aj,?_⟩
 ·rw[Z];exact run_enterLoop_outer _ _ _ _ _
 ·simp only[resolve,hc]
  simp[go_sem,DL]
 ·simp only[invoke]
  exact Xn hg _ _
 ·have ha:({ Xe (marks ds) a with defers:=[{ target:=.collected h.size,args:=#[] }]++(Xe (marks ds) a).defers }:Act)=Xe (marks (h.size::ds)) a:=by
   unfold Xe marks;simp only[hs.defers];rfl
  rw[ha]
  refine CallsIn.mono (ai (m-1) B d) ?_
  rintro e' w' ⟨v,d5,h5,rfl,rfl,ah⟩
  rcases ah with⟨ae,hN⟩|⟨ae,hR⟩
  ·have aa:(mk B d5 h5).heap[h.size+1]?=some (.loop (rec .ready none)):=ae
   have he:=run_endLoop (P:=P) aa (by rw[Z];intro hx;cases hx)
   have e1:({ rec .ready none with state:=.exhausted }:Loop)=rec .exhausted none:=by rw[Z]
   have e2:(rec .ready none).pending=none:=by rw[Z]
   rw[e1,e2]at he
   exact⟨none,_,he,_,e,d5,_,a,rfl,rfl,hs,hN⟩
  ·have aa:(mk B d5 h5).heap[h.size+1]?=some (.loop (rec .done (some .ret))):=ae
   have he:=run_endLoop (P:=P) aa (by rw[Z];intro hx;cases hx)
   have e1:({ rec .done (some .ret)with state:=.exhausted }:Loop)=rec .exhausted (some .ret):=by rw[Z]
   have e2:(rec .done (some .ret)).pending=some .ret:=by rw[Z]
   rw[e1,e2]at he
   exact⟨some .ret,_,he,wpIn_ret ⟨_,e,d5,_,a,rfl,rfl,hs,hR⟩⟩
theorem z6q(hm:P.follows .mixedOrders=true)(ak:1<=m):∀(c:Code) (Q:zir) (ds:List Nat) (e:Env) (h:za),WD P n c Q ds e h ->
  ∀(B:World) (d:Nat) (a:Act),Sat n e a->c.wpIn (rf none) m P (qet n B Q) (Xe (marks ds) a) (mk B d h):=by
 intro c
 induction c with
 |skip=>exact λQ ds e h H B d a hs=>wpIn_skip ⟨ds,e,d,h,a,rfl,rfl,hs,H⟩
 |ret=>exact λQ ds e h H B d a hs=>wpIn_ret ⟨ds,e,d,h,a,rfl,rfl,hs,H⟩
 |exit id=>exact λQ ds e h H B d a hs=>wpIn_exit ⟨ds,e,d,h,a,rfl,rfl,hs,H⟩
 |region id ops ap=>exact λQ ds e h H B d a hs=>zlh hm H B d hs λe' a' d' h' q1 q2=>⟨ds,e',d',h',a',rfl,rfl,q1,q2⟩
 |seq x y ah aj=>
  intro Q ds e h H B d a hs
  refine wpIn_seq (wpIn_mono (ah _ _ _ _ H B d a hs) ?_)
  rintro ex a1 w1 ⟨ab,e1,d1,h1,a0,rfl,rfl,s1,q1⟩
  cases ex with
  |normal=>exact aj _ _ _ _ q1 B d1 a0 s1
  |_=>exact⟨ab,e1,d1,h1,a0,rfl,rfl,s1,q1⟩
 |cond c x y ah aj=>
  intro Q ds e h H B d a hs
  simp only[WD]at H
  split at H
  ·rename_i b hb
   have hc:(Xe (marks ds) a).eval c=.bool b:=qu hs (c:=[]) trivial hb
   exact wpIn_cond_split hc (λan=>ah _ _ _ _ (H.1 an) B d a hs) (λam=>aj _ _ _ _ (H.2 am) B d a hs)
  ·exact H.elim
 |block id x ih=>
  intro Q ds e h H B d a hs
  refine wpIn_block (wpIn_mono (ih _ _ _ _ H B d a hs) ?_)
  rintro ex a1 w1 ⟨ab,e1,d1,h1,a0,rfl,rfl,s1,q1⟩
  cases ex with
  |exit i=>
   simp only[z8x]at q1
   simp only[Exit.inBlock]
   by_cases hb:Nat.beq i id=true
   ·rw[if_pos (Ah hb)]
    simp only[hb,cond_true]at q1
    exact⟨ab,e1,d1,h1,a0,rfl,rfl,s1,q1⟩
   ·rw[if_neg (λhe=>hb (by rw[he];simp))]
    simp only[hb,cond_false]at q1
    exact⟨ab,e1,d1,h1,a0,rfl,rfl,s1,q1⟩
  |_=>exact⟨ab,e1,d1,h1,a0,rfl,rfl,s1,q1⟩
 |rangeFunc g ps ar bd au ax=>
  intro Q ds e h H B d a hs
  simp only[WD]at H
  split at H
  ·rename_i v p1 p2 hv ai
   have ae:ps=#[p1,p2]:=by rw[<-Array.toList_inj];exact ai
   subst ae
   unfold z8y at H
   cases Z:(qk n [] (some p1)&&qk n [] (some p2))with
   |false=>rw[Z]at H;exact H.elim
   |true=>
    rw[Z]at H
    rw[As]at Z
    obtain⟨gf,lb,rfl,hg,HR⟩:=H
    exact zfn ak hg hs (qu hs (c:=[]) trivial hv) (λfn rec aa=>HR rec (λ {v1 v2 h2 K} hl af=>z8w hm (ps:=[p1,p2]) (vs:=[v1,v2]) (by intro p hp;simp only[Af,DX,or_false]at hp;rcases hp with rfl|rfl;exact Z.1;exact Z.2) aa rfl hs hl af)) B d
  ·rename_i v p1 hv ai
   have ae:ps=#[p1]:=by rw[<-Array.toList_inj];exact ai
   subst ae
   unfold z2b at H
   cases Z:qk n [] (some p1)with
   |false=>rw[Z]at H;exact H.elim
   |true=>
    rw[Z]at H
    obtain⟨gf,lb,rfl,hg,HR⟩:=H
    exact zfn ak hg hs (qu hs (c:=[]) trivial hv) (λfn rec aa=>HR rec (λ {v1 h2 K} hl af=>z8w hm (ps:=[p1]) (vs:=[v1]) (by intro p hp;simp only[Af,DX,or_false]at hp;subst hp;exact Z) aa rfl hs hl af)) B d
  ·exact H.elim
 |_=>exact λQ ds e h H=>H.elim
def takeD:List Nat->(za->Prop)->za->Prop
 |[],K,h=>K h
 |b::ds,K,h=>h[b]?=some (.deferred (some []))/\takeD ds K (h.setIfInBounds b (.deferred none))
def qij(P:Program)(rs:List ResultVar)(R:Value->za->Prop):zir
 |.normal,ds,e,h=>takeD ds (λh'=>zyt P h' e rs λvs=>R (zhc vs) h') h
 |.ret,ds,e,h=>takeD ds (λh'=>zyt P h' e rs λvs=>R (zhc vs) h') h
 |_,_,_,_=>False
theorem zcq{P:Program}{fn:Func}{n:Nat}{rs:List ResultVar}(hr:fn.results.toList=rs){e:Env}{a:Act}(hs:Sat n e a){B:World}{R:Value->za->Prop}{D:Nat}:∀(ds:List Nat) (d:Nat) (h:za),takeD ds (λh'=>zyt P h' e rs λvs=>R (zhc vs) h') h ->
  LeavesInM Fence.wide D P fn a.tmps (λe w'=>∃v d' h',e=.returned v/\w'=mk B d' h'/\R v h') (marks ds) .returning (mk B d h)
 |[],d,h,H=>by
  obtain⟨v,hv,hq⟩:=Qx hs hr H
  exact⟨v,hq B d,v,d,h,rfl,rfl,hv⟩
 |b::ds,d,h,⟨h1,H⟩=>by
  have Z:(mk B d h).heap[b]?=some (.deferred (some [])):=h1
  exact⟨by simp,.inl ⟨_,_,rfl,run_takeDeferred (P:=P) Z,zcq hr hs ds d _ H⟩⟩
theorem zit(hm:P.follows .mixedOrders=true)(vs:List Value){f:FuncId}{fn:Func}{rs:List ResultVar}(hf:P.funcs[f]?=some fn)(hb:Qy fn=true)(hr:fn.results.toList=rs)(hn:fn.ntmps=n)(hz:Nat.ble vs.length n=true){R:Value->za->Prop}{F:Prop}(H:F)(ef:F=WD P n (codeOf fn) (qij P rs R) [] (zys 0 vs) h):XC P f vs.toArray h R:=by
 have Z:fn.body=some (codeOf fn):=by
  unfold Qy at hb
  unfold codeOf
  split at hb
  ·rename_i c hc;rw[hc]
  ·cases hb
 intro B d
 refine callsIn_wide.1 (callsIn_of_wp_marks (F:=Fence.wide) (n:=1) hf Z trivial ?_ rfl)
 subst hn
 have ab:vs.length<=fn.ntmps:=BR hz
 have hs:Sat fn.ntmps (zys 0 vs) { tmps:=vs.toArray++Bn (fn.ntmps-vs.toArray.size) undef,defers:=[] }:=by
  refine⟨rfl,by simp;omega,?_⟩
  refine zap vs.toArray _ vs 0 λj v hj=>?_
  have aa:j<vs.length:=by
   rcases A1 j vs.length with h|h
   ·exact h
   ·rw[BS h]at hj;cases hj
  simp only[AK,BB]
  rw[CI (by simpa using aa)]
  simp[hj]
 have:=z6q hm (m:=1) (by omega) (codeOf fn) _ [] _ _ (ef ▸ H) B d _ hs
 rw[show marks []=[]from rfl,zvf]at this
 refine wpIn_mono this ?_
 rintro ex a w ⟨ds,e1,d1,h1,a0,rfl,rfl,s1,q1⟩
 have hd:(Xe (marks ds) a0).defers=marks ds:=by unfold Xe;rw[s1.defers];rfl
 have ht:(Xe (marks ds) a0).tmps=a0.tmps:=rfl
 cases ex with
 |normal=>show LeavesInM _ _ _ _ _ _ _ _ _;rw[hd,ht];exact zcq hr s1 ds d1 h1 q1
 |ret=>show LeavesInM _ _ _ _ _ _ _ _ _;rw[hd,ht];exact zcq hr s1 ds d1 h1 q1
 |_=>exact q1.elim
end
section
theorem zqn(Z:Nat)(c1:Addr)(h:za)(R:Value->za->Prop)
  (H:∃az:Bt,zc h c1=some (.string az)/\((decide ((((az).size:Int):Int)>65536))=true->YX Tp Z #[.agg #[.int .i64 0,.int .i64 0,.int .i64 0],.int .i64 3] h (λaI aJ=>∃aB:Bool,aI=.bool aB/\R (.tuple #[]) aJ))/\((decide ((((az).size:Int):Int)>65536))=false->∃(aC:Int->za->Prop) (aE:Int->za->Nat),aC 0 h/\∀ab:Int,∀ay:za,aC ab ay->(∃ah:Bt,zc ay c1=some (.string ah)/\((decide ((ab:Int)<((ah).size:Int)))=true->∃ax:Bt,zc ay c1=some (.string ax)/\XC Tp 198 #[.string ax,.int .i64 ab] ay (λaH au=>∃ak:Int,∃an:Int,∃ar:Int,∃aa:Int,aH=.tuple #[.agg #[.int .i64 ak,.int .i64 an,.int .i64 ar],.int .i64 aa]/\let aG:za:=CZ au (.cells #[.int .i64 0,.int .i64 0,.int .i64 0] 90);zk Tp (An 90 (.pointer (some ⟨AR au,0,none⟩)) (.agg #[.int .i64 ak,.int .i64 an,.int .i64 ar])) aG (λaA=>∃am:Int,∃ap:Int,∃ai:Int,zd aA ⟨AR au,0,none⟩ 0 [.int .i64 am,.int .i64 ap,.int .i64 ai]/\YX Tp Z #[.agg #[.int .i64 am,.int .i64 ap,.int .i64 ai],.int .i64 aa] aA (λaF aj=>∃af:Bool,aF=.bool af/\((bif (!af)then true else((aa:Int) != 0))=true->R (.tuple #[]) aj)/\((bif (!af)then true else((aa:Int) != 0))=false->∃ae:Int,zc aj (Ai (Ai ⟨AR au,0,none⟩ 1) 1)=some (.int .i64 ae)/\(aC ae aj/\aE ae aj<aE ab ay))))))/\((decide ((ab:Int)<((ah).size:Int)))=false->R (.tuple #[]) ay)))):
  XCI Tp 197 #[.func (.yield Z) #[] #[],.pointer (some c1)] h R:=
 ziq Tryz.mixed ⟨[],[(3,[(3,.one (.int .i64))])],[]⟩ [.func (.yield Z) #[] #[],.pointer (some c1)] (rs:=[]) (n:=34) Tryz.func197 (by kernel_rfl) (by kernel_rfl) (by kernel_rfl) (by kernel_rfl) (Eq.mp (by kernel_rfl) H)
theorem znk(s0:Bt)(h:za)(R:Value->za->Prop)
  (H:let ap:za:=CZ h (.cells #[.slice none 0 0] 83);let aj:za:=CZ ap (.cells #[.int .i64 0] 3);let aE:za:=CZ aj (.cells #[.int .i64 0] 27);let aI:za:=CZ aE (.cells #[.slice none 0 0] 83);XC Tp 113 #[.string s0] aI (λaJ aa=>∃an:Value,aJ=an/\∃(ak:FuncId) (am:Array Value),an=.func (.func ak) #[] am/\zj Tp ak=true/\∀ah:zn3,(∀{aB aA:Value} {aC:za} {ay:Value->za->Prop},aC[(AR aa+1)]?=some (.loop (ah .ready none))->zac Tp 25 (rfA (codeOf Tryz.f60)) (rfB (codeOf Tryz.f60)) ah (AR aa+1) ay (putO (putO [(9,[],an),(8,[],.string s0),(5,[],.pointer (some ⟨AR aE,0,none⟩)),(4,[],.pointer (some ⟨AR aj,0,none⟩)),(3,[],.pointer (some ⟨AR ap,0,none⟩)),(2,[],.pointer (some ⟨AR h,0,none⟩)),(0,[],.string s0)] (some 10) [] aB) (some 11) [] aA) aC->YX Tp (AR aa+1) #[aB,aA] aC ay)->XCI Tp ak (#[.func (.yield (AR aa+1)) #[] #[]]++am) (CZ (CZ aa (.deferred (some []))) (.loop (ah .ready none))) λ_ aF=>zis ah (AR aa+1) (λab=>∃Z:Sl,zc ab ⟨AR aE,0,none⟩=some (.slice Z.a Z.len Z.cap)/\zk Tp (An 83 (.pointer (some ⟨AR h,0,none⟩)) (.slice Z.a Z.len Z.cap)) ab (λaH=>zk Tp (An 3 (.pointer (some ⟨AR ap,0,none⟩)) (.int .i64 ((s0).size:Int))) aH (λaG=>zk Tp (An 27 (.pointer (some ⟨AR aj,0,none⟩)) (.int .i64 0)) aG (λai=>(ai)[AR aa]?=some (.deferred (some []))/\∃af:Sl,zc (Array.setIfInBounds ai (AR aa) (.deferred none)) ⟨AR h,0,none⟩=some (.slice af.a af.len af.cap)/\∃az:Int,zc (Array.setIfInBounds ai (AR aa) (.deferred none)) ⟨AR ap,0,none⟩=some (.int .i64 az)/\∃ar:Int,zc (Array.setIfInBounds ai (AR aa) (.deferred none)) ⟨AR aj,0,none⟩=some (.int .i64 ar)/\R (.tuple #[.slice af.a af.len af.cap,.int .i64 az,.int .i64 ar]) (Array.setIfInBounds ai (AR aa) (.deferred none)))))) (λab=>(ab)[AR aa]?=some (.deferred (some []))/\∃ae:Sl,zc (Array.setIfInBounds ab (AR aa) (.deferred none)) ⟨AR h,0,none⟩=some (.slice ae.a ae.len ae.cap)/\∃au:Int,zc (Array.setIfInBounds ab (AR aa) (.deferred none)) ⟨AR ap,0,none⟩=some (.int .i64 au)/\∃ax:Int,zc (Array.setIfInBounds ab (AR aa) (.deferred none)) ⟨AR aj,0,none⟩=some (.int .i64 ax)/\R (.tuple #[.slice ae.a ae.len ae.cap,.int .i64 au,.int .i64 ax]) (Array.setIfInBounds ab (AR aa) (.deferred none))) aF)):
  XC Tp 60 #[.string s0] h R:=
 zit Tryz.mixed [.string s0] (rs:=[.cell 2 83,.cell 3 3,.cell 4 27]) (n:=25) Tryz.func60 (by kernel_rfl) (by kernel_rfl) (by kernel_rfl) (by kernel_rfl) H (by kernel_rfl)
theorem zd1(x9:Value)(x8:Value)(x5:Addr)(x4:Addr)(x3:Addr)(x2:Addr)(x0:Value)(am:Int)(ak:Int)(aj:Int)(an:Int)(rec:zn3)(l:Nat)(K:Value->za->Prop)(h:za)
  (H:let aC:za:=CZ h (.cells #[.int .i64 0,.int .i64 0,.int .i64 0] 90);zk Tp (An 90 (.pointer (some ⟨AR h,0,none⟩)) (.agg #[.int .i64 am,.int .i64 ak,.int .i64 aj])) aC (λar=>(ar)[l]?=some (.loop (rec .ready none))/\let ab:za:=Array.setIfInBounds ar l (.loop (rec .busy none));(((an:Int) != 0)=true->∃af:Int,zc ab (Ai (Ai ⟨AR h,0,none⟩ 1) 0)=some (.int .i64 af)/\zk Tp (An 83 (.pointer (some x2)) (.slice none 0 0)) ab (λax=>(ax)[((Ai (Ai ⟨AR h,0,none⟩ 1) 0):Addr).block]?=(ab)[((Ai (Ai ⟨AR h,0,none⟩ 1) 0):Addr).block]?/\zk Tp (An 3 (.pointer (some x3)) (.int .i64 af)) ax (λaz=>zk Tp (An 27 (.pointer (some x4)) (.int .i64 an)) az (λau=>(au)[l]?=some (.loop (rec .busy none))/\K (.bool false) (Array.setIfInBounds au l (.loop (rec .done (some .ret))))))))/\(((an:Int) != 0)=false->∃Z:Sl,zc ab x5=some (.slice Z.a Z.len Z.cap)/\∃ae:Int,∃ai:Int,∃ah:Int,zd ab ⟨AR h,0,none⟩ 0 [.int .i64 ae,.int .i64 ai,.int .i64 ah]/\let aB:za:=CZ ab (.cells #[.int .i64 ae,.int .i64 ai,.int .i64 ah] 90);Z5 Tp (AB #[83,83] 83 #[.slice Z.a Z.len Z.cap,.slice (some ⟨AR ab,0,none⟩) 1 1]) aB (λay aA=>∃aa:Sl,ay=.slice aa.a aa.len aa.cap/\zk Tp (An 83 (.pointer (some x5)) (.slice aa.a aa.len aa.cap)) aA (λap=>(ap)[l]?=some (.loop (rec .busy none))/\K (.bool true) (Array.setIfInBounds ap l (.loop (rec .ready none)))))))):
  zac Tp 25 (rfA (codeOf Tryz.f60)) (rfB (codeOf Tryz.f60)) rec l K [(11,[],.int .i64 an),(10,[],.agg #[.int .i64 am,.int .i64 ak,.int .i64 aj]),(9,[],x9),(8,[],x8),(5,[],.pointer (some x5)),(4,[],.pointer (some x4)),(3,[],.pointer (some x3)),(2,[],.pointer (some x2)),(0,[],x0)] h:=
 Eq.mp (by kernel_rfl) H
end
end Go.X
end
section
namespace Go.X
open Go Go.X Go.Proofs Go.RowKit
section
variable {g:za} {i:Nat} {k f t:Int} {x9 x8 x0:Value} {K:Value -> za -> Prop}
abbrev tTk:Ty:=.pair (.int .i64) (.pair (.int .i64) (.int .i64))
theorem z8z:ElemT Tp 83 90 (.agg #[.int .i64 0,.int .i64 0,.int .i64 0]) (sz tTk) 24:=⟨by kernel_rfl,⟨Tryz.t90,by kernel_rfl,by kernel_rfl,by kernel_rfl,by kernel_rfl⟩,rfl,by decide⟩
theorem qb1:qd Tp 83=true:=by kernel_rfl
theorem qb2:qn Tp 83=1:=by kernel_rfl
theorem qeu:qd Tp 3=true:=by kernel_rfl
theorem qev:qn Tp 3=1:=by kernel_rfl
theorem qew:qd Tp 27=true:=by kernel_rfl
theorem qex:qn Tp 27=1:=by kernel_rfl
theorem z81{M:Fr}(k f t:Int):Rd M tTk (k,(f,t)) (zqi k f t):=⟨[.int .i64 k],[.int .i64 f,.int .i64 t],rfl,rfl,[.int .i64 f],[.int .i64 t],rfl,rfl,rfl⟩
structure TkS (h:za) (M:Fr) (b2 b3 b4 b5 bc D l:Nat) (rec:zn3) (s:Bs) (out:List Tk) (sl:Sl) (bs:List Nat) (g:za):Prop where
 keep:Keep h.size h g
 c:Blk g bc #[.string (bl s)]
 d:g[D]?=some (.deferred (some []))
 rc:g[l]?=some (.loop (rec .ready none))
 r2:Blk g b2 #[.slice none 0 0]
 r3:Blk g b3 #[.int .i64 0]
 r4:Blk g b4 #[.int .i64 0]
 r5:Blk g b5 #[slV sl]
 o:ORow (l+1) g M tTk out sl bs
structure Apart (h:za) (b2 b3 b4 b5 bc D l:Nat):Prop where
 lo:h.size<=b2
 a3:b2<b3
 a4:b3<b4
 a5:b4<b5
 ac:b5<bc
 aD:bc<D
 al:l=D+1
theorem zm{i j:Nat}{o:Obj}(h:j≠i):(g.setIfInBounds i o)[j]?=g[j]?:=AC (Ne.symm h)
theorem set_self{o:Obj}(h:i<g.size):(g.setIfInBounds i o)[i]?=some o:=Cn h
theorem lt_of_some{o:Obj}(h:g[i]?=some o):i<g.size:=(Ad.1 h).1
section
variable {h : za} {M : Fr} {b2 b3 b4 b5 bc D l : Nat} {rec : zn3} {s : Bs} {out : List Tk} {sl : Sl} {bs : List Nat} {g : za}
set_option maxRecDepth 100000 in
set_option maxHeartbeats 1000000 in
theorem TkS.round(A:Apart h b2 b3 b4 b5 bc D l)(ag:AgM M h)(S:TkS h M b2 b3 b4 b5 bc D l rec s out sl bs g)(hn:out.length<=100000)
  (hK:∀g' aI ak,TkS h M b2 b3 b4 b5 bc D l rec s (out++[(k,(f,t))]) aI ak g'->g.size<=g'.size->(∀j,j<g.size->j≠b5->j≠l->j∉bs->g'[j]?=g[j]?)->K (.bool true) g'):
  zac Tp 25 (rfA (codeOf Tryz.f60)) (rfB (codeOf Tryz.f60)) rec l K [(11,[],.int .i64 0),(10,[],.agg #[.int .i64 k,.int .i64 f,.int .i64 t]),(9,[],x9),(8,[],x8),(5,[],.pointer (some ⟨b5,0,none⟩)),(4,[],.pointer (some ⟨b4,0,none⟩)),(3,[],.pointer (some ⟨b3,0,none⟩)),(2,[],.pointer (some ⟨b2,0,none⟩)),(0,[],x0)] g:=by
 apply zd1
 intro ab
 have aG:Keep g.size g ab:=Keep.push _ _ (Ac _)
 have aO:ab.size=g.size+1:=Am _
 have aC:Blk ab g.size (zqi 0 0 0).toArray:=Blk.new _ _ _
 clear_value ab
 have ll:=lt_of_some S.rc
 have:=A.lo;have:=A.a3;have:=A.a4;have:=A.a5;have:=A.ac;have:=A.aD;have:=A.al
 refine qbw aC λaj q1 q2 q3=>?_
 have ae:∀j,j<g.size->aj[j]?=g[j]?:=λj hj=>by rw[q1 j (by omega)];exact aG.get j hj
 refine⟨by rw[ae l ll];exact S.rc,?_⟩
 intro Z
 have an:∀j,j≠l->Z[j]?=aj[j]?:=λj hj=>zm hj
 have aE:Z[l]?=some (.loop (rec .busy none)):=set_self (by omega)
 have aL:Z.size=aj.size:=AU
 clear_value Z
 refine⟨λhx=>by simp at hx,λ_=>?_⟩
 have B5:Blk Z b5 #[slV sl]:=S.r5.keep (by rw[an b5 (by omega),ae b5 (by omega)])
 have Bt:Blk Z g.size (zqi k f t).toArray:=q3.keep (an g.size (by omega))
 refine⟨sl,B5.cell rfl,k,f,t,Bt.ld,?_⟩
 intro aa
 have ar:Keep Z.size Z aa:=Keep.push _ _ (Ac _)
 have aM:aa.size=Z.size+1:=Am _
 have aH:Blk aa Z.size (zqi k f t).toArray:=Blk.new _ _ _
 clear_value aa
 have ai:∀j,j<g.size->j≠l->aa[j]?=g[j]?:=λj hj hl=>by rw[ar.get j (by omega),an j hl,ae j hj]
 have ax:AgM M aa:=λb c e=>by
  obtain⟨T,m,e'⟩:=(ag.keep S.keep) b c e
  have hb:=ag.lt e
  exact⟨T,m,by rw[ai b (by have:=S.keep.size;omega) (by omega)];exact e'⟩
 have aB:ORow (l+1) aa M tTk out sl bs:=S.o.frame (λc hc=>by
  have:=S.o.own c hc
  exact ai c this.2.1 (by omega)) (Fr.le.refl _) (λc hc=>(S.o.own c hc).2.2)
 refine ORow.app z8z (by omega) ax aB (by omega) aH (z81 k f t) (by omega) λs' aA ak am aJ aN ah=>⟨s',rfl,?_⟩
 have af:∀c∈bs,l+1<=c:=λc hc=>(S.o.own c hc).1
 have aF:Blk aA b5 #[slV sl]:=B5.keep (by
  rw[ah b5 (by omega) (λhm=>by have:=af _ hm;omega)]
  exact ar.get b5 (by omega))
 refine wb qb1 qb2 aF (by show 0<1;omega) rfl λap u1 u3 u2=>?_
 have ay:∀j,j<g.size->j≠l->j≠b5->j∉bs->ap[j]?=g[j]?:=λj hj hl h5 hm=>by rw[u2 j h5,ah j (by omega) hm,ai j hj hl]
 have au:ap[l]?=some (.loop (rec .busy none)):=by
  rw[u2 l (by omega),ah l (by omega) (λhm=>by have:=af _ hm;omega),ar.get l (by omega)];exact aE
 refine⟨au,hK _ s' ak ?_ ?_ ?_⟩
 ·have az:=lt_of_some au
  have bx:∀j,j<l->j≠b5->(ap.setIfInBounds l (.loop (rec .ready none)))[j]?=g[j]?:=λj hj h5=>by
   rw[zm (by omega)]
   exact ay j (by omega) (by omega) h5 (λhm=>by have:=af _ hm;omega)
  refine⟨S.keep.trans ⟨?_,λj hj=>bx j (by omega) (by omega)⟩ (Ac _),S.c.keep (bx bc (by omega) (by omega)),(bx D (by omega) (by omega)).trans S.d,set_self az,S.r2.keep (bx b2 (by omega) (by omega)),S.r3.keep (bx b3 (by omega) (by omega)),S.r4.keep (bx b4 (by omega) (by omega)),?_,?_⟩
  ·rw[AU]
   have:=S.keep.size;omega
  ·exact Blk.keep u1 (zm (by omega))
  ·refine am.frame (λc hc=>?_) (Fr.le.refl _) (λc hc=>(am.own c hc).2.2)
   have:=(am.own c hc).1
   rw[zm (by omega),u2 c (by omega)]
 ·rw[AU];omega
 ·intro j hj h5 hl hm
  rw[zm hl];exact ay j hj hl h5 hm
set_option maxRecDepth 100000 in
set_option maxHeartbeats 1000000 in
theorem TkS.err(A:Apart h b2 b3 b4 b5 bc D l)(S:TkS h M b2 b3 b4 b5 bc D l rec s out sl bs g){k f t e:Int}(he:¬e=0)
  (hK:∀g',Keep h.size h g'->g'[D]?=some (.deferred (some []))->g'[l]?=some (.loop (rec .done (some .ret)))->Blk g' b2 #[.slice none 0 0]->Blk g' b3 #[.int .i64 f]->Blk g' b4 #[.int .i64 e]->K (.bool false) g'):
  zac Tp 25 (rfA (codeOf Tryz.f60)) (rfB (codeOf Tryz.f60)) rec l K [(11,[],.int .i64 e),(10,[],.agg #[.int .i64 k,.int .i64 f,.int .i64 t]),(9,[],x9),(8,[],x8),(5,[],.pointer (some ⟨b5,0,none⟩)),(4,[],.pointer (some ⟨b4,0,none⟩)),(3,[],.pointer (some ⟨b3,0,none⟩)),(2,[],.pointer (some ⟨b2,0,none⟩)),(0,[],x0)] g:=by
 apply zd1
 intro ab
 have am:Keep g.size g ab:=Keep.push _ _ (Ac _)
 have ar:ab.size=g.size+1:=Am _
 have aj:Blk ab g.size (zqi 0 0 0).toArray:=Blk.new _ _ _
 clear_value ab
 have ll:=lt_of_some S.rc
 have:=A.lo;have:=A.a3;have:=A.a4;have:=A.a5;have:=A.ac;have:=A.aD;have:=A.al
 refine qbw aj λae q1 q2 q3=>?_
 have af:∀j,j<g.size->ae[j]?=g[j]?:=λj hj=>by rw[q1 j (by omega)];exact am.get j hj
 refine⟨by rw[af l ll];exact S.rc,?_⟩
 intro aa
 have ai:∀j,j≠l->aa[j]?=ae[j]?:=λj hj=>zm hj
 have ak:aa[l]?=some (.loop (rec .busy none)):=set_self (by omega)
 have ap:aa.size=ae.size:=AU
 clear_value aa
 refine⟨λ_=>?_,λhx=>by simp[he]at hx⟩
 have Bt:Blk aa g.size (zqi k f t).toArray:=q3.keep (ai g.size (by omega))
 have Z:∀j,j<g.size->j≠l->aa[j]?=g[j]?:=λj hj hl=>(ai j hl).trans (af j hj)
 refine⟨f,?_,?_⟩
 ·rw[qh,qh];exact Bt.cell rfl
 refine wb qb1 qb2 (S.r2.keep (Z b2 (by omega) (by omega))) (by show 0<1;omega) rfl λax u1 u3 u2=>⟨?_,?_⟩
 ·rw[qh,qh];exact u2 g.size (by omega)
 refine wb qeu qev (S.r3.keep ((u2 b3 (by omega)).trans (Z b3 (by omega) (by omega)))) (by show 0<1;omega) rfl λau v1 v3 v2=>?_
 refine wb qew qex (S.r4.keep ((v2 b4 (by omega)).trans ((u2 b4 (by omega)).trans (Z b4 (by omega) (by omega))))) (by show 0<1;omega) rfl λan w1 w3 w2=>?_
 have ah:an[l]?=some (.loop (rec .busy none)):=by rw[w2 l (by omega),v2 l (by omega),u2 l (by omega)];exact ak
 refine⟨ah,hK _ ?_ ?_ (set_self (lt_of_some ah)) ?_ ?_ ?_⟩
 ·refine S.keep.trans ⟨by rw[AU];have:=S.keep.size;omega,λj hj=>?_⟩ (Ac _)
  rw[zm (by omega),w2 j (by omega),v2 j (by omega),u2 j (by omega)]
  exact Z j (by have:=S.keep.size;omega) (by omega)
 ·rw[zm (by omega),w2 D (by omega),v2 D (by omega),u2 D (by omega),Z D (by omega) (by omega)];exact S.d
 ·exact Blk.keep u1 (by rw[zm (by omega),w2 b2 (by omega),v2 b2 (by omega)])
 ·exact Blk.keep v1 (by rw[zm (by omega),w2 b3 (by omega)])
 ·exact Blk.keep w1 (zm (by omega))
end
end
section
variable {M:Fr} {s:Bs} {g g':za} {k a e lf:Int} {O:Nat -> Prop} {lo bp b c:Nat} {rs:Sl} {cs:Array Value}
theorem qb3{t:Ty}{x:El t}{xs:List (El t)}{s:Sl}(h:Rd M (.row t) (x::xs) [slV s]):Rd M (.row t) xs [slV ⟨zjc s.a (sz t) 1 s.cap,s.len-1,s.cap-1⟩]:=by
 obtain⟨h1,h2,h3⟩:=rowLen h
 rw[Ap]at h1 h2 h3
 refine⟨_,rfl,zjc s.a (sz t) 1 s.cap,s.cap-1,?_,⟨by omega,by omega⟩,?_⟩
 ·show slV _=_
  unfold slV;rw[h1];rfl
 ·by_cases he:xs=[]
  ·exact .inl he
  ·have hp:=Bf.2 he
   obtain⟨b,o,cs,e1,e2,e3⟩:∃b o cs,s.a=some ⟨b,o,none⟩/\M b=some cs/\∀i (hi:i<(x::xs).length),Rd M t (x::xs)[i] (cut cs (o+i*sz t) (sz t)):=by
    obtain⟨w,e,a,c,q,hn,hx⟩:=h
    simp only[BM,and_true]at e
    subst e
    simp only[slV,AX]at q
    rcases hx with hx|⟨b,o,cs,e1,e2,e3⟩
    ·cases hx
    ·exact⟨b,o,cs,by rw[q.1,e1],e2,e3⟩
   refine .inr ⟨b,o+sz t,cs,?_,e2,λi hi=>?_⟩
   ·unfold zjc
    rw[if_neg (by omega),e1,D6,qh,DF]
   ·have:=e3 (i+1) (by simp;omega)
    rw[List.getElem_cons_succ]at this
    rw[show o+sz t+i*sz t=o+(i+1)*sz t by rw[C4];omega]
    exact this
theorem qct(ag:AgM M g){xs:List Tk}{s:Sl}(H:Rd M (.row tTk) xs [slV s]){k:Nat}(hk:k<xs.length):∃b o,s.a=some ⟨b,o,none⟩/\zc g ⟨b,o+k*3,none⟩=some (.int .i64 xs[k].1)/\zc g ⟨b,o+k*3+1,none⟩=some (.int .i64 xs[k].2.1)/\zc g ⟨b,o+k*3+2,none⟩=some (.int .i64 xs[k].2.2):=by
 obtain⟨b,o,cs,e1,e2,e3⟩:=Go.X.rowAt H hk
 refine⟨b,o,e1,?_⟩
 obtain⟨c1,c2,e,h1,c3,c4,h2,h3,h4⟩:=e3
 have h1:c1=[.int .i64 xs[k].1]:=h1
 have h3:c3=[.int .i64 xs[k].2.1]:=h3
 have h4:c4=[.int .i64 xs[k].2.2]:=h4
 subst h1 h3 h4 h2
 have e:cut cs (o+k*3) 3=zqi xs[k].1 xs[k].2.1 xs[k].2.2:=e
 have L:=zz1 (vs:=zqi xs[k].1 xs[k].2.1 xs[k].2.2) (o:=o+k*3) (i:=0) ag e2 (by rw[CW];exact e)
 obtain⟨l1,l2,l3,_⟩:=L
 rw[qh]at l1 l2 l3
 exact⟨l1,l2,l3⟩
def ppC(s:Bs)(rs:Sl)(lf last:Int)(sl:Sl)(a e:Int):List Value:=[.string (bl s),slV rs,.int .i64 lf,.int .i64 last,slV sl,.int .i64 a,.int .i64 e]
def ppO(bp:Nat)(na:NA)(sl:Sl)(b c:Nat):Prop:=c=bp\/nsO na sl b c
structure PW (lo:Nat) (g:za) (M:Fr) (bp:Nat) (s:Bs) (rest:List Tk) (last a e:Int) (rs:Sl) (lf:Int) (na:NA) (sl:Sl) (b:Nat) (cs:Array Value):Prop where
 blk:Blk g bp (ppC s rs lf last sl a e).toArray
 rd:Rd M (.row tTk) rest [slV rs]
 ns:NS lo g M na sl b cs
 ag:AgM M g
 bl:lo<=bp/\M bp=none
 nb:¬nsO na sl b bp
def PaS(lo:Nat)(g:za)(M:Fr)(bp:Nat)(s:Bs)(st:PSt)(a e:Int)(O:Nat->Prop):Prop:=
 ∃(rs:Sl) (lf:Int) (na:NA) (sl:Sl) (b:Nat) (cs:Array Value),PW lo g M bp s st.rest st.last a e rs lf na sl b cs/\na.map (·.1)=st.nodes/\O=ppO bp na sl b
structure Stp (g:za) (O:Nat->Prop) (g':za) (O':Nat->Prop):Prop where
 le:g.size<=g'.size
 sub:∀c,O' c->O c\/g.size<=c
 fr:∀j,j<g.size->¬O j->g'[j]?=g[j]?
theorem Stp.refl(g:za)(O:Nat->Prop):Stp g O g O:=⟨Ac _,λc h=>.inl h,λj _ _=>rfl⟩
theorem Stp.trans{g g' aa:za}{O O' Z:Nat->Prop}(a:Stp g O g' O')(b:Stp g' O' aa Z):Stp g O aa Z:=by
 have:=a.le;have:=b.le
 refine⟨by omega,λc h=>?_,λj hj hn=>?_⟩
 ·rcases b.sub c h with h|h
  ·exact a.sub c h
  ·exact .inr (by omega)
 ·rw[b.fr j (by omega) (λh=>?_)]
  ·exact a.fr j hj hn
  ·rcases a.sub j h with h|h
   ·exact hn h
   ·omega
theorem Stp.keep(k:Keep g.size g g'):Stp g O g' O:=⟨k.size,λc h=>.inl h,λj hj _=>k.get j hj⟩
theorem PW.own{rest:List Tk}{last a e:Int}{na:NA}{sl:Sl}(H:PW lo g M bp s rest last a e rs lf na sl b cs)(h:ppO bp na sl b c):lo<=c/\c<g.size/\M c=none:=by
 rcases h with rfl|h
 ·exact⟨H.bl.1,H.blk.lt,H.bl.2⟩
 ·exact H.ns.own h
theorem PaS.own{st:PSt}(H:PaS lo g M bp s st a e O)(h:O c):lo<=c/\c<g.size/\M c=none:=by
 obtain⟨rs,lf,na,sl,b,cs,W,_,rfl⟩:=H
 exact W.own h
theorem z2c(ag:AgM M g)(f:∀j,j<g.size->M j≠none->g'[j]?=g[j]?):AgM M g':=λb c e=>by
 obtain⟨T,m,e'⟩:=ag b c e
 exact⟨T,m,by rw[f b (ag.lt e) (by rw[e];simp)];exact e'⟩
theorem PaS.frame{st:PSt}(H:PaS lo g M bp s st a e O)(hz:g.size<=g'.size)(f:∀c,c<g.size->(O c\/M c≠none)->g'[c]?=g[c]?):PaS lo g' M bp s st a e O:=by
 obtain⟨rs,lf,na,sl,b,cs,W,h1,rfl⟩:=H
 refine⟨rs,lf,na,sl,b,cs,⟨W.blk.keep (f bp W.blk.lt (.inl (.inl rfl))),W.rd,W.ns.frame hz λc hc=>f c (W.ns.own hc).2.1 (.inl (.inr hc)),z2c W.ag λj hj hm=>f j hj (.inr hm),W.bl,W.nb⟩,h1,rfl⟩
theorem PaS.keep{st:PSt}(H:PaS lo g M bp s st a e O)(k:Keep g.size g g'):PaS lo g' M bp s st a e O:=H.frame k.size λc hc _=>k.get c hc
theorem PaS.ag{st:PSt}(H:PaS lo g M bp s st a e O):AgM M g:=by
 obtain⟨rs,lf,na,sl,b,cs,W,_,_⟩:=H;exact W.ag
theorem PW.put{rest rest':List Tk}{last last' a a' e e':Int}{rs rs':Sl}{lf lf':Int}{na:NA}{sl:Sl}(H:PW lo g M bp s rest last a e rs lf na sl b cs)(B:Blk g' bp (ppC s rs' lf' last' sl a' e').toArray)(r:Rd M (.row tTk) rest' [slV rs'])(hz:g'.size=g.size)(f:∀j,j≠bp->g'[j]?=g[j]?):PW lo g' M bp s rest' last' a' e' rs' lf' na sl b cs:=
 ⟨B,r,H.ns.frame (by omega) λc hc=>f c λh=>H.nb (h ▸ hc),z2c H.ag λj _ hm=>f j λh=>hm (h ▸ H.bl.2),H.bl,H.nb⟩
section
variable {lo : Nat} {g : za} {M : Fr} {bp : Nat} {s : Bs} {st : PSt} {a e : Int} {O : Nat -> Prop} {K : Value -> za -> Prop}
theorem znl(H:PaS lo g M bp s st a e O)(hK:K (.int .i64 st.kind) g):XC Tp 115 #[.pointer (some ⟨bp,0,none⟩)] g K:=by
 obtain⟨rs,lf,na,sl,b,cs,W,h1,rfl⟩:=H
 apply zce
 have hl:=(rowLen W.rd).1
 refine⟨_,rfl,rs,by rw[qh];exact W.blk.cell rfl,λhx=>?_,λhx=>⟨_,rfl,rs,by rw[qh];exact W.blk.cell rfl,?_⟩⟩
 ·have hx:rs.len=0:=by simpa using hx
  have:st.rest=[]:=A7.1 (by omega)
  unfold PSt.kind at hK
  rw[this]at hK;exact hK
 ·have hx:rs.len≠0:=by simpa using hx
  cases hr:st.rest with
  |nil=>rw[hr]at hl;exact absurd hl hx
  |cons t r=>
   have rd:=W.rd
   rw[hr]at rd
   obtain⟨tb,o,e1,e2,e3,e4⟩:=qct W.ag rd (k:=0) (by simp)
   refine⟨_,⟨e1,by omega,by omega⟩,t.1,?_,?_⟩
   ·rw[qh,qh];exact e2
   ·unfold PSt.kind at hK;rw[hr]at hK;exact hK
theorem z2d(H:PaS lo g M bp s st a e O)(hK:K (.int .i64 (st.here s.length)) g):XC Tp 121 #[.pointer (some ⟨bp,0,none⟩)] g K:=by
 obtain⟨rs,lf,na,sl,b,cs,W,h1,rfl⟩:=H
 apply zci
 have hl:=(rowLen W.rd).1
 refine⟨_,rfl,rs,by rw[qh];exact W.blk.cell rfl,λhx=>?_,λhx=>⟨_,rfl,rs,by rw[qh];exact W.blk.cell rfl,?_⟩⟩
 ·have hx:rs.len=0:=by simpa using hx
  have:st.rest=[]:=A7.1 (by omega)
  unfold PSt.here at hK
  rw[this]at hK
  refine⟨_,rfl,bl s,by rw[qh];exact W.blk.cell rfl,?_⟩
  rw[ze];exact hK
 ·have hx:rs.len≠0:=by simpa using hx
  cases hr:st.rest with
  |nil=>rw[hr]at hl;exact absurd hl hx
  |cons t r=>
   have rd:=W.rd
   rw[hr]at rd
   obtain⟨tb,o,e1,e2,e3,e4⟩:=qct W.ag rd (k:=0) (by simp)
   refine⟨_,⟨e1,by omega,by omega⟩,t.2.1,?_,?_⟩
   ·rw[qh,qh,qh];exact e3
   ·unfold PSt.here at hK;rw[hr]at hK;exact hK
theorem z9a:qd Tp 3=true:=by kernel_rfl
theorem z9b:qn Tp 3=1:=by kernel_rfl
theorem qg7:qd Tp 27=true:=by kernel_rfl
theorem qg8:qn Tp 27=1:=by kernel_rfl
theorem qey:qd Tp 58=true:=by kernel_rfl
theorem qez:qn Tp 58=2:=by kernel_rfl
theorem qe0:qd Tp 83=true:=by kernel_rfl
theorem qe1:qn Tp 83=1:=by kernel_rfl
theorem Stp.same(hz:g'.size=g.size)(hb:O bp)(f:∀j,j≠bp->g'[j]?=g[j]?):Stp g O g' O:=⟨by omega,λc h=>.inl h,λj hj hn=>f j λe=>hn (e ▸ hb)⟩
theorem Wv(H:PaS lo g M bp s st a e O){x:Int}(hK:∀g',PaS lo g' M bp s st (st.here s.length) x O->Stp g O g' O->K (.bool false) g'):XC Tp 62 #[.pointer (some ⟨bp,0,none⟩),.int .i64 x] g K:=by
 apply zcd
 refine z2d H ⟨_,rfl,_,rfl,?_⟩
 obtain⟨rs,lf,na,sl,b,cs,W,h1,rfl⟩:=H
 rw[qh]
 refine wb z9a z9b W.blk (by show 5<7;omega) rfl λg1 u1 u2 u3=>⟨_,rfl,?_⟩
 rw[qh]
 refine wb qg7 qg8 u1 (by show 6<7;omega) rfl λg2 v1 v2 v3=>?_
 have f:∀j,j≠bp->g2[j]?=g[j]?:=λj hj=>(v3 j hj).trans (u3 j hj)
 exact hK g2 ⟨rs,lf,na,sl,b,cs,W.put (rest':=st.rest) (last':=st.last) (a':=st.here s.length) (e':=x) (rs':=rs) (lf':=lf) v1 W.rd (by omega) f,h1,rfl⟩ (Stp.same (by omega) (.inl rfl) f)
theorem zte(H:PaS lo g M bp s st a e O)(hr:st.rest≠[])(hK:∀g',PaS lo g' M bp s st.skip a e O->Stp g O g' O->K (.tuple #[]) g'):XC Tp 116 #[.pointer (some ⟨bp,0,none⟩)] g K:=by
 apply zcf
 obtain⟨rs,lf,na,sl,b,cs,W,h1,rfl⟩:=H
 obtain⟨hl,_,hc⟩:=rowLen W.rd
 obtain⟨t,r,er⟩:=A9 hr
 have rd:=W.rd
 rw[er]at rd hl hc
 rw[Ap]at hl hc
 obtain⟨tb,o,e1,e2,e3,e4⟩:=qct W.ag rd (k:=0) (by simp)
 refine⟨_,rfl,rs,by rw[qh];exact W.blk.cell rfl,_,⟨e1,by omega,by omega⟩,t.2.1,t.2.2,?_,_,rfl,rs,by rw[qh];exact W.blk.cell rfl,.inl rfl,⟨by omega,by omega,by omega,by omega⟩,_,rfl,?_⟩
 ·rw[qh,qh]
  exact⟨by rw[qh];exact e3,by rw[qh];exact e4,trivial⟩
 rw[qh]
 refine zif (vs:=[.int .i64 t.2.1,.int .i64 t.2.2]) qey W.blk rfl qez (by show 2+2<=7;omega) (λu hu=>?_) λg1 u1 u2 u3=>⟨_,rfl,?_⟩
 ·simp at hu;rcases hu with rfl|rfl <;> rfl
 rw[qh]
 refine wb qe0 qe1 u1 (by rw[zuw (by show 2+2<=7;omega)];show 1<7;omega) rfl λg2 v1 v2 v3=>?_
 have f:∀j,j≠bp->g2[j]?=g[j]?:=λj hj=>(v3 j hj).trans (u3 j hj)
 have Z:=qb3 rd
 rw[Al,Al]at v1
 have v1:Blk g2 bp (ppC s ⟨zjc rs.a (sz tTk) 1 rs.cap,rs.len-1,rs.cap-1⟩ t.2.1 t.2.2 sl a e).toArray:=v1
 have es:st.skip=⟨r,t.2.2,st.nodes⟩:=by unfold PSt.skip;rw[er]
 rw[es]at hK
 exact hK g2 ⟨_,t.2.1,na,sl,b,cs,W.put v1 Z (by omega) f,h1,rfl⟩ (Stp.same (by omega) (.inl rfl) f)
theorem PSt.ne_of_kind{st:PSt}(h:st.kind=k)(hk:k≠0):st.rest≠[]:=λe=>by
 unfold PSt.kind at h;rw[e]at h;exact hk h.symm
theorem zgq(H:PaS lo g M bp s st a e O)(hk:k≠0)(hY:st.kind=k->∀g',PaS lo g' M bp s st.skip a e O->Stp g O g' O->K (.bool true) g')(hN:st.kind≠k->K (.bool false) g):XC Tp 199 #[.pointer (some ⟨bp,0,none⟩),.int .i64 k] g K:=by
 apply za5
 refine znl H ⟨_,rfl,λhx=>hN (by simpa using hx),λhx=>?_⟩
 have hx:st.kind=k:=by simpa using hx
 exact zte H (PSt.ne_of_kind hx hk) λg' p q=>⟨rfl,hY hx g' p q⟩
end
end
section
variable {M:Fr} {g:za} {s:Sl} {k b f:Nat} {t:Bs}
theorem qg9(ag:AgM M g){xs:List Int}(H:Rd M (.row (.int .i64)) xs [slV s])(hk:k<xs.length):∃b o,s.a=some ⟨b,o,none⟩/\zc g ⟨b,o+k*1,none⟩=some (.int .i64 xs[k]):=by
 obtain⟨b,o,cs,e1,e2,e3⟩:=Go.X.rowAt H hk
 exact⟨b,o,e1,zz2 ag e2 e3⟩
theorem qik(ag:AgM M g){xs:List Nd}(H:Rd M (.row tNd) xs [slV s])(hk:k<xs.length):∃(b o:Nat) (ks ps:Sl),s.a=some ⟨b,o,none⟩/\zd g ⟨b,o+k*7,none⟩ 0 [.int .i64 xs[k].1,.int .i64 xs[k].2.1.1,.int .i64 xs[k].2.1.2,.int .i64 xs[k].2.2.1.1,.int .i64 xs[k].2.2.1.2,slV ks,slV ps]/\Rd M (.row (.int .i64)) xs[k].2.2.2.1 [slV ks]:=by
 obtain⟨b,o,cs,e1,e2,e3⟩:=Go.X.rowAt H hk
 obtain⟨c1,r1,q1,a1,c2,r2,q2,⟨d1,d2,q3,a2,a3⟩,c3,r3,q4,⟨d3,d4,q5,a4,a5⟩,c4,c5,q6,a6,a7⟩:=e3
 have a1:c1=[.int .i64 xs[k].1]:=a1
 have a2:d1=[.int .i64 xs[k].2.1.1]:=a2
 have a3:d2=[.int .i64 xs[k].2.1.2]:=a3
 have a4:d3=[.int .i64 xs[k].2.2.1.1]:=a4
 have a5:d4=[.int .i64 xs[k].2.2.1.2]:=a5
 obtain⟨ks,rfl⟩:∃ks:Sl,c4=[slV ks]:=by
  obtain⟨w,e,a,c,q,_⟩:=a6
  exact⟨⟨a,_,c⟩,by rw[e,q];rfl⟩
 obtain⟨ps,rfl⟩:∃ps:Sl,c5=[slV ps]:=by
  obtain⟨w,e,a,c,q,_⟩:=a7
  exact⟨⟨a,_,c⟩,by rw[e,q];rfl⟩
 subst a1 a2 a3 a4 a5 q3 q5 q6 q4 q2
 refine⟨b,o,ks,ps,e1,?_,a6⟩
 exact zz1 (o:=o+k*7) (i:=0) ag e2 (by rw[CW];exact q1)
theorem qil:qd Tp 62=true:=by kernel_rfl
theorem qim:qn Tp 62=7:=by kernel_rfl
theorem qha:qd Tp 26=true:=by kernel_rfl
theorem qhb:qn Tp 26=4:=by kernel_rfl
theorem Yd{x y z w:Value}(B:Blk g b #[x,y,z,w]){k:Int}{s:Bt}{sk si:Sl}{K:za->Prop}(hK:∀g',(∀j,j≠b->g'[j]?=g[j]?)->g'.size=g.size->Blk g' b #[.int .i64 k,.string s,slV sk,slV si]->K g'):
  zk Tp (An 26 (.pointer (some ⟨b,0,none⟩)) (.agg #[.int .i64 k,.string s,slV sk,slV si])) g K:=by
 refine zif (vs:=[.int .i64 k,.string s,slV sk,slV si]) qha B rfl qhb (Ac _) (λu hu=>?_) λg' q1 q2 q3=>hK g' q3 q2 q1
 simp at hu;rcases hu with rfl|rfl|rfl|rfl <;> rfl
def Xf(t:Bs)(nodes:List Nd)(f:Nat)(x:Nd)(n:Nat):Tr:=.mk x.1 (bl (Ym x.1 (ya t x.2.1))) (if x.1=6 then(x.2.2.2.1.take n).map λc=>bl (zim t nodes c)else []) ((x.2.2.2.1.take n).map λc=>j6 t nodes f c.toNat)
theorem z2e{nodes:List Nd}{x:Nd}(hx:nodes[k]?=some x):Xf t nodes f x x.2.2.2.1.length=j6 t nodes (f+1) k:=by
 unfold Xf;rw[j6,hx,AW]
theorem zxu{nodes:List Nd}{x:Nd}{n:Nat}(hn:n<x.2.2.2.1.length):Xf t nodes f x (n+1)=.mk x.1 (bl (Ym x.1 (ya t x.2.1))) (if x.1=6 then(Xf t nodes f x n).keys++[bl (zim t nodes x.2.2.2.1[n])]else(Xf t nodes f x n).keys) ((Xf t nodes f x n).items++[j6 t nodes f x.2.2.2.1[n].toNat]):=by
 unfold Xf
 rw[Av hn,BW,BW]
 by_cases h6:x.1=6
 ·simp only[h6,if_true];rfl
 ·simp only[h6,if_false];rfl
section
variable {t : Bs} {nodes : List Nd} {lvs : List Nat} {gl : Fr}
theorem qb4{u v:Value}(B:Blk g b #[u,v]):zd g ⟨b,0,none⟩ 0 [u,v]:=B.ld (cs:=[u,v])
def qin(F:FuncId)(t:Bs)(nodes:List Nd)(gl:Fr)(k:Nat)(Z:List Value)(v:Tr):Prop:=
 ∀(h:za) (M:Fr) (ds:Sl),Fr.le gl M->AgM M h->Rd M (.row tNd) nodes [slV ds]->∀(K:Value->za->Prop),(∀(h':za) (bs:List Nat) (sk si:Sl),Keep h.size h h'->OT h' v bs (Z4 v sk si)->(∀b∈bs,h.size<=b)->K (.agg #[.int .i64 v.kind,.string v.text,slV sk,slV si]) h') ->
  XC Tp F ([Value.agg #[.string (bl t),slV ds],Ey .i64 (k:Int)]++Z).toArray h K
set_option maxRecDepth 100000 in
set_option maxHeartbeats 4000000 in
theorem z2f(hg:GL gl)(ht:t.length<=65536)(G:GoodN lvs nodes)(bJ:∀x∈nodes,x.2.2.2.1.length<=200000):∀(f k l:Nat) (L:Int),lvs[k]?=some l->33-l<=f->1<=L->L<=(l:Int)->qin 59 t nodes gl k [.int .i64 L] (j6 t nodes f k)
 |0,k,l,L,hl,hf,_,_=>by have:=G.lv k l hl;omega
 |f+1,k,l,L,hl,hf,hL1,hL2=>by
  intro h M ds hM ag rd K hK
  have bo:k<nodes.length:=by have:=(AF.1 hl).1;have:=G.len;omega
  have hx:nodes[k]?=some nodes[k]:=Aq bo
  have cQ:=G.lv k l hl
  have aF:=G.kid k l nodes[k] hx hl
  have cq:=bJ _ (AN bo)
  generalize cn:nodes[k]=x at hx aF cq
  have db:=(rowLen rd).1
  show XC Tp _ #[.agg #[.string (bl t),slV ds],.int .i64 (k:Int),.int .i64 L] h K
  apply zpw
  intro h1 h2
  have k1:Keep h.size h h1:=Keep.push _ _ (Ac _)
  have k2:Keep h1.size h1 h2:=Keep.push _ _ (Ac _)
  have z1:h1.size=h.size+1:=Am _
  have z2:h2.size=h1.size+1:=Am _
  have D1:Blk h1 h.size #[.string (bl t),slV ds]:=Blk.new _ _ _
  have R2:Blk h2 h1.size #[.int .i64 0,.string ⟨#[]⟩,.slice none 0 0,.slice none 0 0]:=Blk.new _ _ _
  clear_value h1 h2
  have bM:Keep h.size h h2:=k1.trans (c:=h2) (m:=h.size) ⟨k2.size,λj hj=>k2.get j (by omega)⟩ (Ac _)
  have D2:=D1.keep (k2.get h.size (by omega))
  have cA:=ag.keep bM
  obtain⟨nb,no,ks,ps,e1,e2,e3⟩:=qik cA rd bo
  rw[cn]at e2 e3
  have cE:=(rowLen e3).1
  refine⟨ds,by rw[qh];exact D2.cell rfl,_,⟨e1,by omega,by omega⟩,x.1,x.2.1.1,x.2.1.2,x.2.2.1.1,x.2.2.1.2,ks,ps,?_,?_⟩
  ·rw[qh,Al];exact e2
  intro aS
  have cp:Keep h2.size h2 aS:=Keep.push _ _ (Ac _)
  have cH:aS.size=h2.size+1:=Am _
  have cu:Blk aS h2.size #[.int .i64 0,.int .i64 0,.int .i64 0,.int .i64 0,.int .i64 0,.slice none 0 0,.slice none 0 0]:=Blk.new _ _ _
  clear_value aS
  refine zif (vs:=ndC (x,⟨ks,[],ps,[]⟩)) qil cu rfl qim (Ac _) (z1w _) λZ ak cP cd=>?_
  have ak:Blk Z h2.size #[.int .i64 x.1,.int .i64 x.2.1.1,.int .i64 x.2.1.2,.int .i64 x.2.2.1.1,.int .i64 x.2.2.1.2,slV ks,slV ps]:=ak
  have az:Keep h2.size h2 Z:=⟨by omega,λj hj=>(cd j (by omega)).trans (cp.get j hj)⟩
  have aE:Keep h.size h Z:=bM.trans (c:=Z) (m:=h.size) ⟨az.size,λj hj=>az.get j (by omega)⟩ (Ac _)
  have a8:=D2.keep (az.get h.size (by omega))
  have cg:=R2.keep (az.get h1.size (by omega))
  intro bI bA
  have bu:∀(vb:Nat) (aP:za),Z.size<=vb->Keep Z.size Z aP->Blk aP vb #[.int .i64 x.1,.string (bl (Ym x.1 (ya t x.2.1))),.slice none 0 0,.slice none 0 0]->bI ⟨vb,0,none⟩ aP:=by
   intro vb aP cz bU bS
   refine bA ⟨vb,0,none⟩ aP ?_
   have ca:=ak.keep (bU.get h2.size (by omega))
   have b8:=bS.lt
   refine⟨ks,by rw[qh];exact ca.cell rfl,λi ae=>∃(n:Nat) (sk si:Sl),i=(n:Int)/\n<=x.2.2.2.1.length/\Own Z.size ae.size ae vb (Xf t nodes f x n) sk si/\Keep Z.size Z ae,λi _=>x.2.2.2.1.length-i.toNat,⟨0,⟨none,0,0⟩,⟨none,0,0⟩,rfl,by omega,?_,bU⟩,?_⟩
   ·have e0:Xf t nodes f x 0=.mk x.1 (bl (Ym x.1 (ya t x.2.1))) [] []:=by unfold Xf;simp
    rw[e0]
    exact Own.new bS cz (Ac _)
   rintro i ae ⟨n,sk,si,rfl,hn,ax,aj⟩
   have bY:=ak.keep (aj.get h2.size (by omega))
   have bH:=a8.keep (aj.get h.size (by omega))
   have cB:=cg.keep (aj.get h1.size (by omega))
   have a7:Keep h.size h ae:=aE.trans (c:=ae) (m:=h.size) ⟨aj.size,λj hj=>aj.get j (by omega)⟩ (Ac _)
   have a6:=ag.keep a7
   have cL:=aj.size
   refine⟨λaI=>?_,λcb=>?_⟩
   ·have aI:n<x.2.2.2.1.length:=by have:=of_decide_eq_true aI;omega
    obtain⟨j,ej,cV,be⟩:=aF _ (AN aI)
    have hj:j<nodes.length:=by have:=(AF.1 be).1;have:=G.len;omega
    have cO:=G.lv j (l+1) be
    obtain⟨ib,io,f1,f2⟩:=qg9 a6 e3 aI
    rw[ej]at f2
    refine⟨ks,by rw[qh];exact bY.cell rfl,_,⟨f1,by omega,by omega⟩,(j:Int),by rw[qh,Al];exact f2,ds,λ_=>by rw[qh];exact bH.cell rfl,?_⟩
    have hc:(bif (bif (decide ((j:Int)<0))then true else(decide ((j:Int)>=((ds.len:Nat):Int))))then true else(decide (L>32)))=false:=by
     rw[decide_eq_false (by omega),cond_false,decide_eq_false (by omega),cond_false,decide_eq_false (by omega)]
    rw[hc]
    refine⟨λh=>(by cases h),λ_=>?_⟩
    intro co bB
    have bO:nodes[j]?=some nodes[j]:=Aq hj
    have bz:zim t nodes x.2.2.2.1[n]=zx7 t nodes[j]:=by unfold zim;rw[ej,Al,bO]
    have aQ:=zxu (t:=t) (nodes:=nodes) (f:=f) aI
    rw[bz,ej,Al]at aQ
    have body:∀(ab:za) (bn:List Bt) (bg:Sl),bn=(if x.1=6 then(Xf t nodes f x n).keys++[bl (zx7 t nodes[j])]else(Xf t nodes f x n).keys)->Own Z.size ab.size ab vb (.mk x.1 (bl (Ym x.1 (ya t x.2.1))) bn (Xf t nodes f x n).items) bg si->Keep Z.size Z ab->co ab:=by
     intro ab bn bg bZ ba aM
     refine bB ab ?_
     have cM:=aM.size
     have b9:=a8.keep (aM.get h.size (by omega))
     have br:Keep h.size h ab:=aE.trans (c:=ab) (m:=h.size) ⟨aM.size,λj hj=>aM.get j (by omega)⟩ (Ac _)
     have aL:=ba.box.lt
     refine⟨si,by rw[qh];exact ba.box.cell rfl,bl t,ds,qb4 b9,?_⟩
     rw[w64 (by omega)]
     refine z2f hg ht G bJ f j (l+1) (L+1) be (by omega) (by omega) (by omega) ab M ds hM (ag.keep br) rd _ λa1 bw wk wi aV ow bh=>⟨_,_,_,_,rfl,?_⟩
     have cY:=aV.size
     refine⟨by rw[qh];exact aV.get vb aL,?_⟩
     intro ai
     have aT:Keep a1.size a1 ai:=Keep.push _ _ (Ac _)
     have cJ:ai.size=a1.size+1:=Am _
     have cm:Blk ai a1.size (Z4 (j6 t nodes f j) wk wi).toArray:=Blk.new _ _ _
     clear_value ai
     refine⟨by rw[qh];exact(aT.get vb (by omega)).trans (aV.get vb aL),?_⟩
     have au:Keep ab.size ab ai:=aV.trans (c:=ai) (m:=ab.size) ⟨aT.size,λj hj=>aT.get j (by omega)⟩ (Ac _)
     have bP:Keep Z.size Z ai:=aM.trans (c:=ai) (m:=Z.size) ⟨au.size,λj hj=>au.get j (by omega)⟩ (Ac _)
     have bL:(Xf t nodes f x n).items.length<=1000000:=by unfold Xf;simp;omega
     rw[qh]
     refine Own.item (ba.keep au) (by omega) bL cm (ow.frame λc hc=>aT.get c (ow.lt c hc)) (λhm=>by have:=ow.lt _ hm;omega) (λc hc=>⟨by have:=bh c hc;omega,by have:=bh c hc;omega,bh c hc⟩) λg' s2 O' k' z'=>⟨⟨n+1,bg,s2,by rw[w64 (by omega)];omega,by omega,?_,bP.trans (c:=g') (m:=Z.size) k' (Ac _)⟩,?_⟩
     ·rw[aQ,<-bZ];exact O'
     ·show x.2.2.2.1.length-(Aa .i64 ((n:Int)+1)).toNat<x.2.2.2.1.length-(n:Int).toNat
      rw[w64 (by omega)];omega
    refine⟨x.1,by rw[qh];exact bY.cell rfl,λh6=>?_,λh6=>?_⟩
    ·have h6:x.1=6:=by simpa using h6
     have aG:=ax.box.lt
     refine⟨sk,by rw[qh];exact ax.box.cell rfl,bl t,ds,qb4 bH,?_⟩
     refine(z1x hg ht (nodes:=nodes) (k:=j) bO (R:=λr=>r=bl (zx7 t nodes[j])) rfl).go hM a6 (yj (a:=Arg.mk zva _) ⟨[.string (bl t),slV ds],rfl,[.string (bl t)],[slV ds],rfl,rfl,rd⟩ (yj (a:=Arg.mk (.int .i64) _) (Jf _ _) jy)) λv aY M' r Lt hv hr=>⟨r,qgo hv,?_⟩
     subst hr
     have aU:=Lt.keep
     have cG:=aU.size
     refine⟨by rw[qh];exact aU.get vb aG,?_⟩
     intro an
     have bm:Keep aY.size aY an:=Keep.push _ _ (Ac _)
     have da:an.size=aY.size+1:=Am _
     have ck:Blk an aY.size #[.string (bl (zx7 t nodes[j]))]:=Blk.new _ _ _
     clear_value an
     refine⟨by rw[qh];exact(bm.get vb (by omega)).trans (aU.get vb aG),?_⟩
     have ap:Keep ae.size ae an:=aU.trans (c:=an) (m:=ae.size) ⟨bm.size,λj hj=>bm.get j (by omega)⟩ (Ac _)
     have bC:Keep Z.size Z an:=aj.trans (c:=an) (m:=Z.size) ⟨ap.size,λj hj=>ap.get j (by omega)⟩ (Ac _)
     have bT:(Xf t nodes f x n).keys.length<=1048576:=by unfold Xf;simp[h6];omega
     rw[qh]
     refine Own.key (ax.keep ap) (by omega) bT ck λg' s2 O' k' z'=>body g' _ s2 (by rw[if_pos h6]) O' (bC.trans (c:=g') (m:=Z.size) k' (Ac _))
    ·have h6:¬x.1=6:=by simpa using h6
     exact body ae (Xf t nodes f x n).keys sk (by rw[if_neg h6]) ax aj
   ·have cc:n=x.2.2.2.1.length:=by have:=of_decide_eq_false cb;omega
    subst cc
    have eN:=z2e (t:=t) (f:=f) hx
    rw[eN]at ax
    refine⟨_,_,sk,si,ax.box.ld (cs:=Z4 _ sk si),?_⟩
    refine Yd cB λg2 f2 z2 B2=>⟨_,_,sk,si,B2.ld (cs:=[_,_,slV sk,slV si]),?_⟩
    obtain⟨bs,ot,bG⟩:=ax.ot
    refine hK g2 bs sk si (a7.trans (c:=g2) (m:=h.size) ⟨by omega,λj hj=>f2 j (by omega)⟩ (Ac _)) (ot.frame λc hc=>f2 c (by have:=(bG c hc).1;omega)) λc hc=>by have:=(bG c hc).1;omega
  have cT:=ze6 t x.2.1
  have bF:∀{g:za} {Q:Value->za->Prop},AgM M g->(∀g',Keep g.size g g'->Q (.string (bl (ya t x.2.1))) g')->XC Tp 31 #[.agg #[.string (bl t),slV ds],.agg #[.int .i64 x.2.1.1,.int .i64 x.2.1.2]] g Q:=λ {g Q} agg hQ=>by
   refine(zvb (gl:=gl) (t:=t) (nodes:=nodes) (p:=x.2.1) (R:=λr=>r=bl (ya t x.2.1)) rfl).go hM agg (yj (a:=Arg.mk zva _) ⟨[.string (bl t),slV ds],rfl,[.string (bl t)],[slV ds],rfl,rfl,rd⟩ (yj (a:=Arg.mk tSp _) ⟨[.int .i64 x.2.1.1,.int .i64 x.2.1.2],rfl,_,_,rfl,rfl,rfl⟩ jy)) λv g' M' r L hv hr=>?_
   subst hr
   rw[qgo hv]
   exact hQ g' L.keep
  have bj:∀{g:za} {Q:Value->za->Prop},AgM M g->(∀g',Keep g.size g g'->Q (.string (bl (Ym x.1 (ya t x.2.1)))) g')->XC Tp 111 #[.int .i64 x.1,.string (bl (ya t x.2.1))] g Q:=λ {g Q} agg hQ=>by
   refine(z6k hg (k:=x.1) (t:=ya t x.2.1) (by omega) (R:=λr=>r=bl (Ym x.1 (ya t x.2.1))) rfl).go hM agg (yj (a:=Arg.mk (.int .i64) _) (Jf _ _) (yj (a:=Arg.mk .str _) (rdStr _) jy)) λv g' M' r L hv hr=>?_
   subst hr
   rw[qgo hv]
   exact hQ g' L.keep
  have am:=ag.keep aE
  have ah:∀(hh hA:za),Keep Z.size Z hh->Keep hh.size hh hA->Blk hA hh.size #[.int .i64 0,.string ⟨#[]⟩,.slice none 0 0,.slice none 0 0]->zk Tp (An 26 (.pointer (some ⟨hh.size,0,none⟩)) (.agg #[.int .i64 x.1,.string (bl (Ym x.1 (ya t x.2.1))),.slice none 0 0,.slice none 0 0])) hA (λg=>bI ⟨hh.size,0,none⟩ g):=λhh hA kh kA BA=>
   Yd (sk:=⟨none,0,0⟩) (si:=⟨none,0,0⟩) BA λg2 f2 z2 B2=>bu hh.size g2 kh.size (kh.trans (c:=g2) (m:=Z.size) ⟨by have:=kh.size;have:=kA.size;omega,λj hj=>by have:=kh.size;rw[f2 j (by omega)];exact kA.get j (by omega)⟩ (Ac _)) B2
  have hX:∀{g:za},Keep Z.size Z g->g[h2.size]?=Z[h2.size]?:=λk=>k.get h2.size (by omega)
  refine⟨x.1,by rw[qh];exact ak.cell rfl,x.1,by rw[qh];exact ak.cell rfl,bl t,ds,qb4 a8,x.2.1.1,x.2.1.2,?_,bF am λaH aa=>⟨_,rfl,by rw[qh];exact hX aa,by rw[qh];exact hX aa,bj (am.keep aa) λaf aC=>⟨_,rfl,?_,?_,?_⟩,?_⟩,?_⟩
  ·rw[qh];exact⟨by rw[qh];exact ak.cell rfl,by rw[qh];exact ak.cell rfl,trivial⟩
  ·rw[qh]
   exact hX (aa.trans (c:=af) (m:=Z.size) ⟨aC.size,λj hj=>aC.get j (by have:=aa.size;omega)⟩ (Ac _))
  ·intro cy
   have kk:Keep Z.size Z af:=aa.trans (c:=af) (m:=Z.size) ⟨aC.size,λj hj=>aC.get j (by have:=aa.size;omega)⟩ (Ac _)
   exact ah af cy kk (Keep.push _ _ (Ac _)) (Blk.new _ _ _)
  ·intro bV
   have kk:Keep Z.size Z af:=aa.trans (c:=af) (m:=Z.size) ⟨aC.size,λj hj=>aC.get j (by have:=aa.size;omega)⟩ (Ac _)
   have bq:Keep af.size af bV:=Keep.push _ _ (Ac _)
   refine⟨by rw[qh];exact(bq.get h2.size (by have:=kk.size;omega)).trans (hX kk),?_⟩
   exact ah af bV kk bq (Blk.new _ _ _)
  ·intro aB
   have bi:Keep aH.size aH aB:=Keep.push _ _ (Ac _)
   have cF:aB.size=aH.size+1:=Am _
   have cj:Blk aB aH.size #[.int .i64 0,.string ⟨#[]⟩,.slice none 0 0,.slice none 0 0]:=Blk.new _ _ _
   clear_value aB
   have c8:=aa.size
   have aA:Keep Z.size Z aB:=aa.trans (c:=aB) (m:=Z.size) ⟨bi.size,λj hj=>bi.get j (by omega)⟩ (Ac _)
   refine⟨by rw[qh];exact hX aA,by rw[qh];exact hX aA,bj (am.keep aA) λbE aJ=>⟨_,rfl,?_,?_⟩⟩
   ·rw[qh]
    exact hX (aA.trans (c:=bE) (m:=Z.size) ⟨aJ.size,λj hj=>aJ.get j (by omega)⟩ (Ac _))
   ·exact ah aH bE aa ⟨by have:=aJ.size;omega,λj hj=>by rw[aJ.get j (by omega)];exact bi.get j hj⟩ (cj.keep (aJ.get _ (by omega)))
  ·intro aZ
   have ar:Keep Z.size Z aZ:=Keep.push _ _ (Ac _)
   have c7:aZ.size=Z.size+1:=Am _
   have cC:Blk aZ Z.size #[.int .i64 0,.string ⟨#[]⟩,.slice none 0 0,.slice none 0 0]:=Blk.new _ _ _
   clear_value aZ
   refine⟨by rw[qh];exact hX ar,ar.get h.size (by omega),by rw[qh];exact hX ar,by rw[qh];exact hX ar,bF (am.keep ar) λbD aN=>⟨_,rfl,?_⟩⟩
   have cZ:=aN.size
   have ay:Keep Z.size Z bD:=ar.trans (c:=bD) (m:=Z.size) ⟨aN.size,λj hj=>aN.get j (by omega)⟩ (Ac _)
   refine⟨by rw[qh];exact hX ay,by rw[qh];exact hX ay,bj (am.keep ay) λbQ aO=>⟨_,rfl,?_,?_⟩⟩
   ·rw[qh]
    exact hX (ay.trans (c:=bQ) (m:=Z.size) ⟨aO.size,λj hj=>aO.get j (by omega)⟩ (Ac _))
   ·exact ah Z bQ (Keep.refl _ _) ⟨by have:=aO.size;omega,λj hj=>by rw[aO.get j (by omega),aN.get j (by omega)];exact ar.get j hj⟩ ((cC.keep (aN.get _ (by omega))).keep (aO.get _ (by omega)))
end
end
section
variable {n bv cv:Nat} {t el ty:TypeId} {zv:Value} {ks:Sl} {K:Value -> za -> Prop}
theorem NS.cell{lo:Nat}{g:za}{M:Fr}{na:NA}{sl:Sl}{b:Nat}{cs:Array Value}(H:NS lo g M na sl b cs)(hn:n<na.length):sl.a=some ⟨b,0,none⟩/\Blk g b cs/\sl.cap≠0/\n*7+7<=cs.size/\∀(q:Nat) (v:Value),q<7->(ndC na[n])[q]?=some v->zc g ⟨b,n*7+q,none⟩=some v:=by
 have Z:na.map ndC≠[]:=λh=>by rw[List.map_eq_nil_iff]at h;rw[h]at hn;simp at hn
 obtain⟨h1,h2⟩:=H.cr.blk Z
 obtain⟨h3,h4⟩:=H.cr.el n (ndC na[n]) (by rw[BN,Aq hn];rfl)
 refine⟨h1,h2,by have:=H.len;have:=H.cr.ro.le;omega,by omega,λq v hq hv=>h2.cell ?_⟩
 have:=zu9 h4 hq
 rw[hv]at this
 rw[<-this,BP]
def axK(k:Int)(s':Sl)(Z:List Nat)(p:Nd×Ax):Nd×Ax:=((p.1.1,p.1.2.1,p.1.2.2.1,p.1.2.2.2.1++[k],p.1.2.2.2.2),⟨s',Z,p.2.ps,p.2.pb⟩)
def axP(k:Sp)(s':Sl)(Z:List Nat)(p:Nd×Ax):Nd×Ax:=((p.1.1,p.1.2.1,p.1.2.2.1,p.1.2.2.2.1,p.1.2.2.2.2++[k]),⟨p.2.ks,p.2.kb,s',Z⟩)
def axT(t:Int)(p:Nd×Ax):Nd×Ax:=(qbj t p.1,p.2)
theorem zcr{f:Nd×Ax->Nd×Ax}{f':Nd->Nd}(h:∀p,(f p).1=f' p.1)(na:NA)(n:Nat):(na.modify n f).map (·.1)=(na.map (·.1)).modify n f':=by
 apply BC
 intro i
 rw[BN,BF,BF,BN]
 cases na[i]? with
 |none=>rfl
 |some p=>by_cases e:n=i <;> simp[e,h]
structure NSt (lo:Nat) (g:za) (M:Fr) (na:NA) (sl:Sl) (b:Nat) (g':za) (na':NA) (cs':Array Value):Prop where
 ns:NS lo g' M na' sl b cs'
 le:g.size<=g'.size
 sub:∀c,nsO na' sl b c->nsO na sl b c\/g.size<=c
 fr:∀j,j<g.size->¬nsO na sl b j->g'[j]?=g[j]?
section
variable {lo : Nat} {g : za} {M : Fr} {na : NA} {sl : Sl} {b : Nat} {cs : Array Value}
theorem NS.addK{bytes:Nat}(E:ElemT Tp t el zv (sz (.int .i64)) bytes)(ai:bytes<=1000)(ag:AgM M g)(ah:lo<=g.size)(H:NS lo g M na sl b cs)(hn:n<na.length){k:Int}(hv:Blk g bv #[.int .i64 k])(hb:na[n].1.2.2.2.1.length<=1000000)(aj:na[n].2.ks=ks)
  (hK:∀(s':Sl) (g1:za) (Z:List Nat),Blk g1 b cs->g.size<=g1.size->(∀j,j<g.size->¬nsO na sl b j->g1[j]?=g[j]?)->(∀g2:za,Blk g2 b (cs.setIfInBounds (n*7+5) (slV s'))->g2.size=g1.size->(∀j,j≠b->g2[j]?=g1[j]?)->NSt lo g M na sl b g2 (na.modify n (axK k s' Z)) (cs.setIfInBounds (n*7+5) (slV s')))->K (.slice s'.a s'.len s'.cap) g1):
  Z5 Tp (AB #[t,t] ty #[.slice ks.a ks.len ks.cap,.slice (some ⟨bv,0,none⟩) 1 cv]) g K:=by
 subst aj
 obtain⟨h1,h2,h3,h4,h5⟩:=H.cell hn
 have hm:=AN hn
 have I:=H.nd _ hm
 have ak:=(H.lb h3).2.1
 refine ORow.app E ai ag I.kk ah hv rfl hb λs' g1 Z o1 z1 c1 f1=>?_
 have ae:b∉na[n].2.kb:=λh=>H.nb _ hm (.inl h)
 have af:b∉Z:=λh=>by
  rcases c1 b h with h|h
  ·exact ae h
  ·omega
 refine hK s' g1 Z (h2.keep (f1 b ak ae)) z1 (λj hj aa=>f1 j hj λh=>aa (.inr ⟨_,hm,.inl h⟩)) λg2 B2 z2 f2=>?_
 have ab:∀j,j<g.size->j≠b->¬axO na[n] j->g2[j]?=g[j]?:=λj hj h1 h2=>by rw[f2 j h1,f1 j hj λh=>h2 (.inl h)]
 have q1:NdI lo g2 M (axK k s' Z na[n]):=by
  refine⟨?_,?_,?_⟩
  ·exact o1.frame (λc hc=>f2 c λe=>af (e ▸ hc)) (Fr.le.refl _) λc hc=>(o1.own c hc).2.2
  ·exact I.pp.frame (λc hc=>by have:=(I.pp.own c hc).2.1;rw[f2 c λe=>H.nb _ hm (.inr (e ▸ hc))];exact f1 c this λh=>I.dd c h hc) (Fr.le.refl _) λc hc=>(I.pp.own c hc).2.2
  ·intro c hc hp
   rcases c1 c hc with h|h
   ·exact I.dd c h hp
   ·have:=(I.pp.own c hp).2.1;omega
 have q2:∀c,axO (axK k s' Z na[n]) c->axO na[n] c\/g.size<=c:=by
  intro c hc
  rcases hc with hc|hc
  ·rcases c1 c hc with h|h
   ·exact .inl (.inl h)
   ·exact .inr h
  ·exact .inl (.inr hc)
 obtain⟨N,ow⟩:=H.upd hn (f:=axK k s' Z) (q:=5) (v:=slV s') (by omega) B2 (by omega) rfl q1 q2 ab
 exact⟨N,by omega,ow,λj hj aa=>ab j hj (λe=>aa (.inl ⟨h3,e⟩)) λh=>aa (.inr ⟨_,hm,h⟩)⟩
theorem NS.addP{bytes:Nat}(E:ElemT Tp t el zv (sz tSp) bytes)(ai:bytes<=1000)(ag:AgM M g)(ah:lo<=g.size)(H:NS lo g M na sl b cs)(hn:n<na.length){k:Sp}(hv:Blk g bv #[.int .i64 k.1,.int .i64 k.2])(hb:na[n].1.2.2.2.2.length<=1000000)(aj:na[n].2.ps=ks)
  (hK:∀(s':Sl) (g1:za) (Z:List Nat),Blk g1 b cs->g.size<=g1.size->(∀j,j<g.size->¬nsO na sl b j->g1[j]?=g[j]?)->(∀g2:za,Blk g2 b (cs.setIfInBounds (n*7+6) (slV s'))->g2.size=g1.size->(∀j,j≠b->g2[j]?=g1[j]?)->NSt lo g M na sl b g2 (na.modify n (axP k s' Z)) (cs.setIfInBounds (n*7+6) (slV s')))->K (.slice s'.a s'.len s'.cap) g1):
  Z5 Tp (AB #[t,t] ty #[.slice ks.a ks.len ks.cap,.slice (some ⟨bv,0,none⟩) 1 cv]) g K:=by
 subst aj
 obtain⟨h1,h2,h3,h4,h5⟩:=H.cell hn
 have hm:=AN hn
 have I:=H.nd _ hm
 have ak:=(H.lb h3).2.1
 refine ORow.app E ai ag I.pp ah hv ⟨_,_,rfl,rfl,rfl⟩ hb λs' g1 Z o1 z1 c1 f1=>?_
 have ae:b∉na[n].2.pb:=λh=>H.nb _ hm (.inr h)
 have af:b∉Z:=λh=>by
  rcases c1 b h with h|h
  ·exact ae h
  ·omega
 refine hK s' g1 Z (h2.keep (f1 b ak ae)) z1 (λj hj aa=>f1 j hj λh=>aa (.inr ⟨_,hm,.inr h⟩)) λg2 B2 z2 f2=>?_
 have ab:∀j,j<g.size->j≠b->¬axO na[n] j->g2[j]?=g[j]?:=λj hj h1 h2=>by rw[f2 j h1,f1 j hj λh=>h2 (.inr h)]
 have q1:NdI lo g2 M (axP k s' Z na[n]):=by
  refine⟨?_,?_,?_⟩
  ·exact I.kk.frame (λc hc=>by have:=(I.kk.own c hc).2.1;rw[f2 c λe=>H.nb _ hm (.inl (e ▸ hc))];exact f1 c this λh=>I.dd c hc h) (Fr.le.refl _) λc hc=>(I.kk.own c hc).2.2
  ·exact o1.frame (λc hc=>f2 c λe=>af (e ▸ hc)) (Fr.le.refl _) λc hc=>(o1.own c hc).2.2
  ·intro c hp hc
   rcases c1 c hc with h|h
   ·exact I.dd c hp h
   ·have:=(I.kk.own c hp).2.1;omega
 have q2:∀c,axO (axP k s' Z na[n]) c->axO na[n] c\/g.size<=c:=by
  intro c hc
  rcases hc with hc|hc
  ·exact .inl (.inl hc)
  ·rcases c1 c hc with h|h
   ·exact .inl (.inr h)
   ·exact .inr h
 obtain⟨N,ow⟩:=H.upd hn (f:=axP k s' Z) (q:=6) (v:=slV s') (by omega) B2 (by omega) rfl q1 q2 ab
 exact⟨N,by omega,ow,λj hj aa=>ab j hj (λe=>aa (.inl ⟨h3,e⟩)) λh=>aa (.inr ⟨_,hm,h⟩)⟩
theorem NS.toB(H:NS lo g M na sl b cs)(hn:n<na.length){x:Int}{g2:za}(B2:Blk g2 b (cs.setIfInBounds (n*7+2) (.int .i64 x)))(z2:g2.size=g.size)(f2:∀j,j≠b->g2[j]?=g[j]?):NSt lo g M na sl b g2 (na.modify n (axT x)) (cs.setIfInBounds (n*7+2) (.int .i64 x)):=by
 obtain⟨h1,h2,h3,h4,h5⟩:=H.cell hn
 have hm:=AN hn
 have I:=H.nd _ hm
 have q1:NdI lo g2 M (axT x na[n]):=by
  refine⟨?_,?_,I.dd⟩
  ·exact I.kk.frame (λc hc=>f2 c λe=>H.nb _ hm (.inl (e ▸ hc))) (Fr.le.refl _) λc hc=>(I.kk.own c hc).2.2
  ·exact I.pp.frame (λc hc=>f2 c λe=>H.nb _ hm (.inr (e ▸ hc))) (Fr.le.refl _) λc hc=>(I.pp.own c hc).2.2
 obtain⟨N,ow⟩:=H.upd hn (f:=axT x) (q:=2) (v:=.int .i64 x) (by omega) B2 (by omega) rfl q1 (λc hc=>.inl hc) λj hj h1 h2=>f2 j h1
 exact⟨N,by omega,ow,λj hj Z=>f2 j λe=>Z (.inl ⟨h3,e⟩)⟩
end
end
section
variable {J O O':Nat -> Prop} {g g':za} {lo bp:Nat} {M:Fr} {s:Bs} {a e:Int}
structure StJ (J:Nat->Prop) (g:za) (O:Nat->Prop) (g':za) (O':Nat->Prop):Prop where
 le:g.size<=g'.size
 sub:∀c,O' c->O c\/g.size<=c
 fr:∀j,j<g.size->¬O j->¬J j->g'[j]?=g[j]?
theorem Stp.j{J:Nat->Prop}{g g':za}{O O':Nat->Prop}(S:Stp g O g' O'):StJ J g O g' O':=⟨S.le,S.sub,λj h1 h2 _=>S.fr j h1 h2⟩
theorem StJ.trans{g g' aa:za}{O O' Z:Nat->Prop}(a:StJ J g O g' O')(b:StJ J g' O' aa Z):StJ J g O aa Z:=by
 have:=a.le;have:=b.le
 refine⟨by omega,λc h=>?_,λj hj hn hJ=>?_⟩
 ·rcases b.sub c h with h|h
  ·exact a.sub c h
  ·exact .inr (by omega)
 ·rw[b.fr j (by omega) (λh=>?_) hJ]
  ·exact a.fr j hj hn hJ
  ·rcases a.sub j h with h|h
   ·exact hn h
   ·omega
def Apt(J:Nat->Prop)(g:za)(O:Nat->Prop):Prop:=∀j,J j->j<g.size/\¬O j
theorem Apt.step{J D:Nat->Prop}(h:Apt D g O)(S:StJ J g O g' O'):Apt D g' O':=λj hj=>by
 obtain⟨h1,h2⟩:=h j hj
 have:=S.le
 refine⟨by omega,λho=>?_⟩
 rcases S.sub j ho with h|h
 ·exact h2 h
 ·omega
def Ans(r:PR PSt)(b:Bool)(st':PSt)(a e:Int):Prop:=match r with
 |.inl t=>b=true/\st'=t
 |.inr x=>b=false/\x=(a,e)
def qh1(r:PR (List Bs×PSt))(b:Bool)(σ:List Bs)(st':PSt)(a e:Int):Prop:=match r with
 |.inl t=>b=true/\t=(σ,st')
 |.inr x=>b=false/\x=(a,e)
def qe2(g:za)(bp:Nat):Nat:=match zc g ⟨bp,1,none⟩with
 |some (.slice _ n _)=>n
 |_=>0
theorem PaS.restLen{st:PSt}(H:PaS lo g M bp s st a e O):qe2 g bp=st.rest.length:=by
 obtain⟨rs,lf,na,sl,b,cs,W,h1,rfl⟩:=H
 unfold qe2
 rw[W.blk.cell (o:=1) (v:=slV rs) rfl]
 exact(rowLen W.rd).1
theorem PW.nst{rest:List Tk}{last a e:Int}{rs:Sl}{lf:Int}{na na':NA}{sl:Sl}{b:Nat}{cs cs':Array Value}(W:PW lo g M bp s rest last a e rs lf na sl b cs)(N:NSt lo g M na sl b g' na' cs'):PW lo g' M bp s rest last a e rs lf na' sl b cs'/\Stp g (ppO bp na sl b) g' (ppO bp na' sl b):=by
 refine⟨⟨W.blk.keep (N.fr bp W.blk.lt W.nb),W.rd,N.ns,z2c W.ag λj hj hm=>N.fr j hj λh=>hm (W.ns.own h).2.2,W.bl,λh=>?_⟩,N.le,λc h=>?_,λj hj hn=>N.fr j hj λh=>hn (.inr h)⟩
 ·rcases N.sub bp h with h|h
  ·exact W.nb h
  ·have:=W.blk.lt;omega
 ·rcases h with h|h
  ·exact .inl (.inl h)
  ·rcases N.sub c h with h|h
   ·exact .inl (.inr h)
   ·exact .inr h
theorem qhc:ElemT Tp 59 3 (.int .i64 0) (sz (.int .i64)) 8:=⟨by kernel_rfl,⟨Tryz.t3,by kernel_rfl,by kernel_rfl,by kernel_rfl,by kernel_rfl⟩,rfl,by decide⟩
theorem qhd:ElemT Tp 60 58 (.agg #[.int .i64 0,.int .i64 0]) (sz tSp) 16:=⟨by kernel_rfl,⟨Tryz.t58,by kernel_rfl,by kernel_rfl,by kernel_rfl,by kernel_rfl⟩,rfl,by decide⟩
theorem qio:qd Tp 59=true:=by kernel_rfl
theorem qip:qn Tp 59=1:=by kernel_rfl
theorem qiq:qd Tp 60=true:=by kernel_rfl
theorem qir:qn Tp 60=1:=by kernel_rfl
def qh2(lo:Nat)(M:Fr)(bp:Nat)(s:Bs)(F:FuncId)(A C:Array Value)(lv:Int)(kid:zle)(HI:List Bs->za->Prop)(J D:Nat->Prop):Prop:=
 ∀(σ:List Bs) (g:za) (st:PSt) (a e:Int) (O:Nat->Prop),PaS lo g M bp s st a e O->HI σ g->Apt D g O->st.nodes.length<=4096->st.T<=200000->(∀t∈st.rest,TkW s t) ->
  ∀K:Value->za->Prop,(∀b g' st' a' e' O' σ',PaS lo g' M bp s st' a' e' O'->StJ J g O g' O'->st.nodes.length<=st'.nodes.length->(b=true->HI σ' g')->qh1 (kid σ st) b σ' st' a' e'->K (.bool b) g')->XC Tp F (A++#[.int .i64 lv]++C) g K
section
variable {lo : Nat} {g : za} {M : Fr} {bp : Nat} {s : Bs} {st : PSt} {a e : Int} {O J D : Nat -> Prop} {K : Value -> za -> Prop} {HI : List Bs -> za -> Prop} {kid : zle} {F : FuncId} {A C : Array Value}
set_option maxRecDepth 100000 in
set_option maxHeartbeats 4000000 in
theorem z2g(aN:∀σ g g',HI σ g->(∀j,D j->g'[j]?=g[j]?)->HI σ g'){aj lv:Int}(aZ:Aa .i64 (aj+1)=lv)(hk:qh2 lo M bp s F A C lv kid HI J D)(aS:zxp kid)(hF:zj Tp F=true)
  {closing:Int} (hc:closing≠0) (H:PaS lo g M bp s st a e O) (h0:HI [] g) (hJ:Apt D g O) (h4:st.nodes.length<=4096) (hT:st.T<=200000) (hw:∀t∈st.rest,TkW s t) {n:Nat} (hn:n<st.nodes.length)
  (hK:∀b g' st' a' e' O',PaS lo g' M bp s st' a' e' O'->StJ J g O g' O'->st.nodes.length<=st'.nodes.length->Ans (Xd s n closing kid st) b st' a' e'->K (.bool b) g'):
  XC Tp 117 #[.pointer (some ⟨bp,0,none⟩),.int .i64 (n:Int),.int .i64 aj,.int .i64 closing,.func (.func F) A C] g K:=by
 apply zcg
 refine zgq H hc (λhy g1 P1 S1=>⟨true,rfl,λ_=>?_,λh=>(by cases h)⟩) (λbh=>⟨false,rfl,λh=>(by cases h),λ_=>?_⟩)
 ·refine hK true g1 st.skip a e O P1 S1.j (by rw[yg];exact Ac _) ?_
  unfold Xd;rw[if_pos hy];exact⟨rfl,rfl⟩
 refine⟨λg'=>∃(f:Nat) (σ:List Bs) (st':PSt) (a' e':Int) (O':Nat->Prop),PaS lo g' M bp s st' a' e' O'/\HI σ g'/\Apt D g' O'/\StJ J g O g' O'/\Okk st st' 0/\st'.rest.length<f/\Xd s n closing kid st=Jo s n closing kid f σ st',λg'=>qe2 g' bp,⟨st.rest.length+1,[],st,a,e,O,H,h0,hJ,(Stp.refl g O).j,Okk.refl st,by omega,by unfold Xd;rw[if_neg bh]⟩,?_⟩
 rintro h6 ⟨f,σ,Z,a1,e1,O1,P1,I1,J1,S1,ab,hf,hL⟩
 obtain⟨f,rfl⟩:∃f',f=f'+1:=⟨f-1,by omega⟩
 have bH:n<Z.nodes.length:=by have:=ab.n;omega
 have bz:Z.nodes.length<=4096:=ab.m h4
 have bi:Z.T<=200000:=by have:=ab.t;omega
 have bq:=P1.restLen
 have aY:=P1
 obtain⟨bM,bO,bS,aP,b1,bU,W1,a7,_⟩:=aY
 have l1:aP.len=Z.nodes.length:=by rw[W1.ns.len,<-a7,AH]
 refine⟨_,rfl,Z.last,by rw[qh,qh];exact W1.blk.cell rfl,_,rfl,aP,by rw[qh];exact W1.blk.cell rfl,hF,?_⟩
 rw[aZ,l1]
 refine hk σ h6 Z a1 e1 O1 P1 I1 J1 bz bi (λt ht=>hw t (ab.w t ht)) _ λb g2 aa a2 e2 O2 σ2 P2 S2 n2 I2 A2=>⟨b,rfl,λhb=>?_,λhb=>?_⟩
 ·have hb:b=false:=by simpa using hb
  subst hb
  refine hK false g2 aa a2 e2 O2 P2 (S1.trans S2) (by have:=ab.n;omega) ?_
  rw[hL,Jo]
  cases hr:kid σ Z with
  |inl t=>rw[hr]at A2;exact absurd A2.1 (by simp)
  |inr x=>rw[hr]at A2;exact⟨rfl,A2.2⟩
 have hb:b=true:=by simpa using hb
 subst hb
 have hr:kid σ Z=.inl (σ2,aa):=by
  cases hr:kid σ Z with
  |inl t=>rw[hr]at A2;rw[A2.2]
  |inr x=>rw[hr]at A2;exact absurd A2.1 (by simp)
 have ok2:=aS _ _ _ _ hr
 have I2:=I2 rfl
 have J2:=J1.step S2
 rw[Jo,hr]at hL
 dsimp only at hL
 have be:=P2
 obtain⟨rs,lf,na,sl,b,cs,W,h1,rfl⟩:=be
 have bV:na.length=aa.nodes.length:=by rw[<-h1,AH]
 have az:n<na.length:=by omega
 obtain⟨q1,q2,q3,q4,q5⟩:=W.ns.cell az
 have bm:ndW na[n].1<=200000:=by
  have h:na[n].1∈aa.nodes:=by rw[<-h1];exact List.mem_map_of_mem (AN az)
  have:=qbk h;have:=ok2.t;omega
 unfold ndW at bm
 refine⟨_,rfl,sl,by rw[qh];exact W.blk.cell rfl,⟨b,0,none⟩,⟨q1,by omega,by have:=W.ns.len;omega⟩,⟨b,n*7,none⟩,by rw[qh,Al,AK],na[n].2.ks,?_,?_⟩
 ·rw[qh];exact q5 5 _ (by omega) rfl
 intro ai
 have ax:Keep g2.size g2 ai:=Keep.push _ _ (Ac _)
 have bP:ai.size=g2.size+1:=Am _
 have br:Blk ai g2.size #[.int .i64 (Z.nodes.length:Int)]:=Blk.new _ _ _
 clear_value ai
 have bD:NSt lo g2 M na sl b ai na cs:=⟨W.ns.frame ax.size λc hc=>ax.get c (W.ns.own hc).2.1,ax.size,λc h=>.inl h,λj hj _=>ax.get j hj⟩
 obtain⟨ay,bn⟩:=W.nst bD
 have aM:lo<=ai.size:=by have:=(ay.own (.inl rfl));omega
 refine NS.addK qhc (by omega) ay.ag aM ay.ns az br (by omega) rfl λs' bY ak bj bJ bI a8=>⟨s',rfl,⟨b,n*7,none⟩,by rw[qh,Al,AK],?_⟩
 rw[qh]
 refine wb qio qip bj (by omega) rfl λae u1 u2 u3=>?_
 obtain⟨af,bo⟩:=ay.nst (a8 ae u1 u2 u3)
 have aF:n<(na.modify n (axK (Z.nodes.length:Int) s' ak)).length:=by rw[List.length_modify];exact az
 have aI:(na.modify n (axK (Z.nodes.length:Int) s' ak))[n]=axK (Z.nodes.length:Int) s' ak na[n]:=by rw[List.getElem_modify,if_pos rfl]
 obtain⟨r1,r2,r3,r4,r5⟩:=af.ns.cell aF
 rw[aI]at r5
 refine⟨⟨b,n*7,none⟩,by rw[qh,Al,AK],na[n].2.ps,?_,?_⟩
 ·rw[qh];exact r5 6 _ (by omega) rfl
 have bE:PaS lo ae M bp s ⟨aa.rest,aa.last,(na.modify n (axK (Z.nodes.length:Int) s' ak)).map (·.1)⟩ a2 e2 _:=⟨_,_,_,_,_,_,af,rfl,rfl⟩
 refine z2d bE ⟨_,rfl,rfl,rfl,?_⟩
 intro ah
 have am:Keep ae.size ae ah:=Keep.push _ _ (Ac _)
 have bT:ah.size=ae.size+1:=Am _
 have bB:Blk ah ae.size #[.int .i64 Z.last,.int .i64 (aa.here s.length)]:=Blk.new _ _ _
 clear_value ah
 have bF:=(af.ns.own (.inl ⟨r3,rfl⟩)).2.1
 refine⟨by rw[qh];exact am.get b bF,?_⟩
 have bu:NSt lo ae M _ sl b ah _ _:=⟨af.ns.frame am.size λc hc=>am.get c (af.ns.own hc).2.1,am.size,λc h=>.inl h,λj hj _=>am.get j hj⟩
 obtain⟨aA,ba⟩:=af.nst bu
 have aQ:lo<=ah.size:=by have:=(aA.own (.inl rfl));omega
 refine NS.addP qhd (by omega) aA.ag aQ aA.ns aF (k:=(Z.last,aa.here s.length)) bB (by rw[aI];show na[n].1.2.2.2.2.length<=_;omega) (by rw[aI];rfl) λs2 bL bg bC bG bQ aO=>⟨s2,rfl,⟨b,n*7,none⟩,by rw[qh,Al,AK],?_⟩
 rw[qh]
 refine wb qiq qir bC (by omega) rfl λar v1 v2 v3=>?_
 obtain⟨aV,aU⟩:=aA.nst (aO ar v1 v2 v3)
 have aB:((na.modify n (axK (Z.nodes.length:Int) s' ak)).modify n (axP (Z.last,aa.here s.length) s2 bg)).map (·.1)=(aa.addKid n (Z.nodes.length:Int) (Z.last,aa.here s.length)).nodes:=by
  rw[zcr (f':=λx=>(x.1,x.2.1,x.2.2.1,x.2.2.2.1,x.2.2.2.2++[(Z.last,aa.here s.length)])) (λp=>rfl),zcr (f':=λx=>(x.1,x.2.1,x.2.2.1,x.2.2.2.1++[(Z.nodes.length:Int)],x.2.2.2.2)) (λp=>rfl),h1]
  unfold PSt.addKid
  apply BC
  intro i
  rw[BF,BF,BF]
  cases aa.nodes[i]? with
  |none=>rfl
  |some x=>by_cases e:n=i <;> simp[e,z1l]
 have aH:PaS lo ar M bp s (aa.addKid n (Z.nodes.length:Int) (Z.last,aa.here s.length)) a2 e2 _:=⟨_,_,_,_,_,_,aV,aB,rfl⟩
 have ap:=((bn.trans bo).trans ba).trans aU
 have bA:HI σ2 ar:=aN σ2 g2 ar I2 λj hj=>ap.fr j (J2 j hj).1 (J2 j hj).2
 have aL:=J2.step (ap.j (J:=J))
 have aT:=Jp aa n (Z.nodes.length:Int) (Z.last,aa.here s.length)
 have au:(aa.addKid n (Z.nodes.length:Int) (Z.last,aa.here s.length)).kind=aa.kind:=rfl
 have a6:(aa.addKid n (Z.nodes.length:Int) (Z.last,aa.here s.length)).here s.length=aa.here s.length:=rfl
 have an:=(S1.trans S2).trans ap.j
 have aG:st.nodes.length<=(aa.addKid n (Z.nodes.length:Int) (Z.last,aa.here s.length)).nodes.length:=by have:=ab.n;have:=ok2.n;omega
 refine zgq aH hc (λhy g' P' S'=>⟨true,rfl,λ_=>?_,λh=>(by cases h)⟩) (λaE=>⟨false,rfl,λh=>(by cases h),λ_=>?_⟩)
 ·refine hK true g' _ _ _ _ P' (an.trans S'.j) (by rw[yg];exact aG) ?_
  rw[au]at hy
  rw[hL,if_pos hy];exact⟨rfl,rfl⟩
 rw[au]at aE
 rw[if_neg aE]at hL
 refine zgq aH (by omega) (λhy g' P' S'=>⟨true,rfl,λh=>(by simp at h),λ_=>?_⟩) (λaC=>⟨false,rfl,λ_=>?_,λh=>(by simp at h)⟩)
 ·rw[au]at hy
  rw[if_pos hy]at hL
  have aJ:=ze5 aS hr (n:=n) (k:=(Z.nodes.length:Int)) (p:=(Z.last,aa.here s.length)) (PSt.ne_kind hy (by omega))
  refine⟨⟨f,σ2,_,_,_,_,P',aN σ2 ar g' bA (λj hj=>S'.fr j (aL j hj).1 (aL j hj).2),aL.step (S'.j (J:=J)),an.trans S'.j,(ab.trans aJ).le (by omega),?_,hL⟩,?_⟩
  ·have:=aJ.r;omega
  ·have e1:=P'.restLen
   have:=aJ.r
   show qe2 g' bp<qe2 h6 bp
   rw[e1,bq];omega
 ·rw[au]at aC
  rw[if_neg aC]at hL
  refine Wv aH λg' P' S'=>⟨false,rfl,hK false g' _ _ _ _ P' (an.trans S'.j) aG ?_⟩
  rw[hL];exact⟨rfl,by rw[a6]⟩
end
end
section
variable {gl:Fr}
theorem zqo{k:Int}{R:Int->Prop}(h:R (zw k)):PC Tp gl 114 [Arg.mk (.int .i64) k] [.int .i64] R:=by
 apply zjy
 unfold zw at h
 refine⟨λhx=>?_,λhx K hK=>?_⟩
 ·rw[if_pos (by simpa using hx)]at h;exact h
 have hx:¬k=12:=by simpa using hx
 rw[if_neg hx]at h
 have key:∀b:Bool,b=decide (k=10\/k=11)->K b:=λb hb=>hK b ⟨λh1=>by
   rw[h1]at hb
   rw[if_pos (of_decide_eq_true hb.symm)]at h;exact h,λh1=>by
   rw[h1]at hb
   rw[if_neg (of_decide_eq_false hb.symm)]at h
   refine⟨λh2=>?_,λh2=>⟨λh3=>?_,λh3=>⟨λh4=>?_,λh4=>⟨λh5=>?_,λh5=>?_⟩⟩⟩⟩
   ·rw[if_pos (by simpa using h2)]at h;exact h
   ·rw[if_neg (by simpa using h2),if_pos (by simpa using h3)]at h;exact h
   ·rw[if_neg (by simpa using h2),if_neg (by simpa using h3),if_pos (by simpa using h4)]at h;exact h
   ·rw[if_neg (by simpa using h2),if_neg (by simpa using h3),if_neg (by simpa using h4),if_pos (by simpa using h5)]at h;exact h
   ·rw[if_neg (by simpa using h2),if_neg (by simpa using h3),if_neg (by simpa using h4),if_neg (by simpa using h5)]at h;exact h⟩
 refine⟨λh1=>key _ ?_,λh1=>key _ ?_⟩
 ·have:k=10:=by simpa using h1
  rw[h1,this];rfl
 ·have:¬k=10:=by simpa using h1
  rw[AJ,beq_iff_eq,decide_eq_true_eq];omega
def qhe(lo:Nat)(M:Fr)(bp:Nat)(s:Bs)(lv:Int)(val:zrh):Prop:=
 ∀(key:Sp) (g:za) (st:PSt) (a e:Int) (O:Nat->Prop),PaS lo g M bp s st a e O->st.nodes.length<=4096->st.T<=200000->(∀t∈st.rest,TkW s t) ->
  ∀K:Value->za->Prop,(∀b g' st' a' e' O',PaS lo g' M bp s st' a' e' O'->Stp g O g' O'->st.nodes.length<=st'.nodes.length->Ans (val key st) b st' a' e'->K (.bool b) g')->XC Tp 61 #[.pointer (some ⟨bp,0,none⟩),.int .i64 lv,.agg #[.int .i64 key.1,.int .i64 key.2]] g K
section
variable {lo : Nat} {g : za} {M : Fr} {bp : Nat} {s : Bs} {lv : Int} {val : zrh}
theorem qb5(hv:qhe lo M bp s lv val):qh2 lo M bp s 118 #[.pointer (some ⟨bp,0,none⟩)] #[] lv (zdx val) (λ_ _=>True) (λ_=>False) (λ_=>False):=by
 intro σ g st a e O P I J h4 hT hw K hK
 show XC Tp _ #[.pointer (some ⟨bp,0,none⟩),.int .i64 lv] g K
 apply zch
 refine hv (0,0) g st a e O P h4 hT hw _ λb g' st' a' e' O' P' S' n' A'=>⟨b,rfl,hK b g' st' a' e' O' σ P' S'.j n' (λ_=>trivial) ?_⟩
 unfold zdx
 cases hr:val (0,0) st with
 |inl t=>rw[hr]at A';exact⟨A'.1,by rw[A'.2]⟩
 |inr x=>rw[hr]at A';exact A'
theorem z9c:MapT Tp 154 9 4 (.bool false):=⟨by kernel_rfl,by kernel_rfl,⟨Tryz.t4,by kernel_rfl,by kernel_rfl⟩⟩
def qfz(m:Nat)(σ:List Bs)(g:za):Prop:=∃l,MapAt g m l/\∀k:Bs,zi8 l (bl k)=if k∈σ then some (.bool true)else none
theorem zxv{M:Fr}{r:Bt×Int×Int}{v:Value}(h:zcx M [.str,.int .i64,.int .i64] r v):v=.tuple #[.string r.1,.int .i64 r.2.1,.int .i64 r.2.2]:=by
 obtain⟨vs,⟨v1,rest,rfl,hx,v2,Z,rfl,hy,v3,rfl,hz⟩,rfl⟩:=h
 rw[Ql hx,qo hy,qo hz]
 rfl
set_option maxRecDepth 100000 in
set_option maxHeartbeats 2000000 in
theorem qe3(hg:GL gl)(hM:Fr.le gl M)(hs:s.length<=65536)(hv:qhe lo M bp s lv val){m:Nat}{J:Nat->Prop}(hm:J m){σ:List Bs}{st:PSt}{a e:Int}{O:Nat->Prop}(P:PaS lo g M bp s st a e O)(I:qfz m σ g)(hJ:Apt J g O)(h4:st.nodes.length<=4096)(hT:st.T<=200000)(hw:∀t∈st.rest,TkW s t)(aS:∀j,J j->M j=none){K:Value->za->Prop}
  (hK:∀b g' st' a' e' O' σ',PaS lo g' M bp s st' a' e' O'->StJ (λj=>j=m) g O g' O'->st.nodes.length<=st'.nodes.length->(b=true->qfz m σ' g')->qh1 (zqd s val σ st) b σ' st' a' e'->K (.bool b) g'):
  XC Tp 120 #[.pointer (some ⟨bp,0,none⟩),.int .i64 lv,.map (some m)] g K:=by
 have af:=hJ m hm
 apply X8
 refine znl P ⟨_,rfl,λhx=>?_,λhx=>?_⟩
 ·have hx:¬st.kind=8:=by simpa using hx
  refine Wv P λg' P' S'=>⟨false,rfl,hK false g' st _ _ O σ P' S'.j (Ac _) (λh=>(by cases h)) ?_⟩
  unfold zqd
  cases hr:st.rest with
  |nil=>exact⟨rfl,rfl⟩
  |cons t r=>
   have:¬t.1=8:=by unfold PSt.kind at hx;rw[hr]at hx;exact hx
   dsimp only
   rw[if_neg this];exact⟨rfl,rfl⟩
 have hx:st.kind=8:=by simpa using hx
 have ar:=PSt.ne_kind hx (by omega)
 obtain⟨t,r,er⟩:=A9 ar
 have aE:t.1=8:=by unfold PSt.kind at hx;rw[er]at hx;exact hx
 obtain⟨w1,w2,w3,_⟩:=hw t (by rw[er];simp)
 have aO:=zab ar
 have P0:=P
 obtain⟨rs,lf,na,sl,b,cs,W,h1,eO⟩:=P0
 have rd:=W.rd
 have hl:=(rowLen W.rd).1
 rw[er]at rd hl
 rw[Ap]at hl
 obtain⟨tb,o,e1,e2,e3,e4⟩:=qct W.ag rd (k:=0) (by simp)
 refine⟨_,rfl,rs,by rw[qh];exact W.blk.cell rfl,_,⟨e1,by omega,by omega⟩,t.2.1,t.2.2,?_,?_⟩
 ·rw[qh,qh]
  exact⟨by rw[qh];exact e3,by rw[qh];exact e4,trivial⟩
 intro aj
 have aQ:Keep g.size g aj:=Keep.push _ _ (Ac _)
 have aZ:aj.size=g.size+1:=Am _
 have aJ:Blk aj g.size #[.int .i64 0,.int .i64 0]:=Blk.new _ _ _
 clear_value aj
 refine zif (vs:=[.int .i64 t.2.1,.int .i64 t.2.2]) qey aJ rfl qez (Ac _) (λu hu=>?_) λaA ae aY aT=>⟨_,rfl,?_⟩
 ·simp at hu;rcases hu with rfl|rfl <;> rfl
 have ae:Blk aA g.size #[.int .i64 t.2.1,.int .i64 t.2.2]:=ae
 have ah:Keep g.size g aA:=⟨by omega,λj hj=>(aT j (by omega)).trans (aQ.get j hj)⟩
 have aN:=P.keep ah
 have aP:=W.blk.keep (ah.get bp W.blk.lt)
 refine⟨bl s,by rw[qh];exact aP.cell rfl,t.2.1,by rw[qh];exact ae.cell rfl,t.2.2,by rw[qh];exact ae.cell rfl,⟨w1,by omega,by rw[ze];exact w3⟩,?_⟩
 have ex:(bl s).extract t.2.1.toNat t.2.2.toNat=bl (Jv s t.2):=by rw[Zq];rfl
 rw[ex]
 have aV:(Jv s t.2).length<=65536:=by unfold Jv;rw[Bb,AI];omega
 refine(ze7 hg (t:=Jv s t.2) (by omega) (R:=λr=>r=(bl (W8 (Jv s t.2)).1,((W8 (Jv s t.2)).2.1:Int),(W8 (Jv s t.2)).2.2)) rfl).go hM aN.ag (yj (a:=Arg.mk .str _) (rdStr _) jy) λv aC M' rr L aM hr=>?_
 subst hr
 rw[zxv aM]
 refine⟨_,_,_,rfl,?_⟩
 have Z:Keep g.size g aC:=ah.trans L.keep ah.size
 have ay:=P.keep Z
 obtain⟨l,ml,mk⟩:=I
 have am:MapAt aC m l:=ml.keep (Z.get m af.1)
 have aa:=zbm z9c am (bl (W8 (Jv s t.2)).1) false
 rw[if_neg (by simp)]at aa
 have aH:zyw l (bl (W8 (Jv s t.2)).1) (.bool false)=.bool (decide ((W8 (Jv s t.2)).1∈σ)):=by
  unfold zyw
  rw[mk]
  by_cases ak:(W8 (Jv s t.2)).1∈σ
  ·rw[if_pos ak];simp[ak]
  ·rw[if_neg ak];simp[ak]
 rw[aH]at aa
 have eM:zqd s val σ st=if(W8 (Jv s t.2)).1∈σ then st.err s 7
   else if st.skip.kind=7 then match val t.2 st.skip.skip with
    |.inl st'=>.inl (σ++[(W8 (Jv s t.2)).1],st')
    |.inr e=>.inr e
   else st.skip.err s 2:=by
  unfold zqd;rw[er];dsimp only;rw[if_pos aE];rfl
 refine⟨_,aa,λhy=>?_,λhy=>?_⟩
 ·have hy:=of_decide_eq_true hy
  refine Wv ay λg' P' S'=>⟨false,rfl,hK false g' st _ _ O σ P' ((Stp.keep (O:=O) Z).trans S').j (Ac _) (λh=>(by cases h)) ?_⟩
  rw[eM,if_pos hy];exact⟨rfl,rfl⟩
 have hy:=of_decide_eq_false hy
 rw[if_neg hy]at eM
 refine zok z9c am (bl (W8 (Jv s t.2)).1) (.bool true) λai aG a1 an=>?_
 have aF:PaS lo ai M bp s st a e O:=ay.frame (by omega) λc hc ho=>an c λh=>by
  subst h
  rcases ho with ho|ho
  ·exact af.2 ho
  ·exact ho (aS _ hm)
 have ax:StJ (λj=>j=m) g O ai O:=⟨by have:=Z.size;omega,λc h=>.inl h,λj hj hn hJ=>(an j hJ).trans (Z.get j hj)⟩
 have ap:∀g',g'[m]?=ai[m]?->qfz m (σ++[(W8 (Jv s t.2)).1]) g':=λg' aI=>by
  refine⟨_,aG.keep aI,λk=>?_⟩
  rw[zoj,mk]
  by_cases hk:(W8 (Jv s t.2)).1=k
  ·subst hk;simp
  ·have aL:¬bl (W8 (Jv s t.2)).1=bl k:=λh=>hk (z8j.1 h)
   rw[if_neg aL]
   have:(k∈σ++[(W8 (Jv s t.2)).1])↔k∈σ:=by simp;intro h;exact absurd h.symm hk
   simp only[this]
 have az:m<ai.size:=by have:=af.1;have:=Z.size;omega
 refine zte aF ar λg3 P3 S3=>⟨rfl,?_⟩
 refine zgq P3 (by omega) (λh7 g4 P4 S4=>⟨true,rfl,λh=>(by simp at h),λ_=>?_⟩) (λh7=>⟨false,rfl,λ_=>?_,λh=>(by simp at h)⟩)
 ·rw[if_pos h7]at eM
  have ok2:=zab (PSt.ne_kind h7 (by omega))
  have ab:=aO.trans ok2
  have aB:¬O g.size:=λh=>by have:=(P.own h).2.1;omega
  have B4:Blk g4 g.size #[.int .i64 t.2.1,.int .i64 t.2.2]:=by
   refine ae.keep ?_
   have aU:=ah.size
   rw[S4.fr _ (by have:=S3.le;have:=Z.size;have:=L.keep.size;omega) aB,S3.fr _ (by have:=Z.size;have:=L.keep.size;omega) aB,an _ (by have:=af.1;omega)]
   exact L.keep.get _ (by omega)
  refine⟨t.2.1,t.2.2,B4.ld (cs:=[.int .i64 t.2.1,.int .i64 t.2.2]),?_⟩
  refine hv t.2 g4 st.skip.skip a e O P4 (by have:=ab.m h4;exact this) (by have:=ab.t;omega) (λx hx=>hw x (ab.w x hx)) _ λb g' st' a' e' O' P' S' n' A'=>⟨b,rfl,?_⟩
  have au:=(S3.trans S4).trans S'
  refine hK b g' st' a' e' O' _ P' (ax.trans au.j) (by have:=ab.n;omega) (λ_=>ap g' (au.fr m az λh=>af.2 h)) ?_
  rw[eM]
  cases hr:val t.2 st.skip.skip with
  |inl x=>rw[hr]at A';exact⟨A'.1,by rw[A'.2]⟩
  |inr x=>rw[hr]at A';exact A'
 ·rw[if_neg h7]at eM
  refine Wv P3 λg' P' S'=>⟨false,rfl,hK false g' _ _ _ O σ P' (ax.trans (S3.trans S').j) (by rw[yg];exact Ac _) (λh=>(by cases h)) ?_⟩
  rw[eM];exact⟨rfl,rfl⟩
end
end
section
theorem qhf:ElemT Tp 34 62 (.agg #[.int .i64 0,.int .i64 0,.int .i64 0,.int .i64 0,.int .i64 0,.slice none 0 0,.slice none 0 0]) 7 88:=⟨by kernel_rfl,⟨Tryz.t62,by kernel_rfl,by kernel_rfl,by kernel_rfl,by kernel_rfl⟩,rfl,by decide⟩
theorem qis:qd Tp 34=true:=by kernel_rfl
theorem qit:qn Tp 34=1:=by kernel_rfl
theorem qiu:qd Tp 154=true:=by kernel_rfl
theorem qiv:qn Tp 154=1:=by kernel_rfl
section
variable {lo : Nat} {M gl : Fr} {bp : Nat} {s : Bs}
set_option maxRecDepth 100000 in
set_option maxHeartbeats 4000000 in
theorem z6r(hg:GL gl)(hM:Fr.le gl M)(hs:s.length<=65536):∀d:Nat,d<=32->qhe lo M bp s (33-(d:Int)) (Jw s d):=by
 intro d
 induction d with
 |zero=>
  intro hd key g st a e O P h4 hT hw K hK
  apply Qh
  intro h1 h2
  have k1:Keep g.size g h1:=Keep.push _ _ (Ac _)
  have k2:Keep h1.size h1 h2:=Keep.push _ _ (Ac _)
  have z1:h1.size=g.size+1:=Am _
  have B1:Blk h1 g.size #[.pointer (some ⟨bp,0,none⟩)]:=Blk.new _ _ _
  clear_value h1 h2
  have ab:Keep g.size g h2:=k1.trans k2 (by omega)
  have B2:=B1.keep (k2.get g.size (by omega))
  refine⟨_,B2.cell rfl,znl (P.keep ab) ⟨_,rfl,?_⟩⟩
  refine(zqo (k:=st.kind) (R:=λr=>r=zw st.kind) rfl).go hM (P.keep ab).ag (yj (a:=Arg.mk (.int .i64) _) (Jf _ _) jy) λv h8 M' r L hv hr=>⟨r,qgn hv,?_⟩
  subst hr
  have aj:=L.keep
  have k8:Keep g.size g h8:=ab.trans aj ab.size
  have B8:=B2.keep (aj.get g.size (by have:=ab.size;have:=k2.size;omega))
  refine⟨λhx=>⟨_,B8.cell rfl,?_⟩,λhx=>⟨λhy=>⟨_,B8.cell rfl,?_⟩,λhy=>?_⟩⟩
  ·refine Wv (P.keep k8) λg' P' S'=>⟨false,rfl,hK false g' st _ _ O P' ((Stp.keep (O:=O) k8).trans S') (Ac _) ?_⟩
   rw[Jw,if_pos (by simpa using hx)];exact⟨rfl,rfl⟩
  ·refine Wv (P.keep k8) λg' P' S'=>⟨false,rfl,hK false g' st _ _ O P' ((Stp.keep (O:=O) k8).trans S') (Ac _) ?_⟩
   rw[Jw,if_neg (by simpa using hx)];exact⟨rfl,rfl⟩
  ·exact absurd (of_decide_eq_false hy) (by omega)
 |succ d ih=>
  intro hd key g st a e O P h4 hT hw K hK
  have ih:=ih (by omega)
  have aU:=zqe s d
  apply Qh
  intro h1 h2
  have k1:Keep g.size g h1:=Keep.push _ _ (Ac _)
  have k2:Keep h1.size h1 h2:=Keep.push _ _ (Ac _)
  have z1:h1.size=g.size+1:=Am _
  have z2:h2.size=h1.size+1:=Am _
  have B1:Blk h1 g.size #[.pointer (some ⟨bp,0,none⟩)]:=Blk.new _ _ _
  have Bk2:Blk h2 h1.size #[.int .i64 key.1,.int .i64 key.2]:=Blk.new _ _ _
  clear_value h1 h2
  have ab:Keep g.size g h2:=k1.trans k2 (by omega)
  have B2:=B1.keep (k2.get g.size (by omega))
  refine⟨_,B2.cell rfl,znl (P.keep ab) ⟨_,rfl,?_⟩⟩
  refine(zqo (k:=st.kind) (R:=λr=>r=zw st.kind) rfl).go hM (P.keep ab).ag (yj (a:=Arg.mk (.int .i64) _) (Jf _ _) jy) λv h8 M' r L hv hr=>⟨r,qgn hv,?_⟩
  subst hr
  have aj:=L.keep
  have k8:Keep g.size g h8:=ab.trans aj ab.size
  have z8:h2.size<=h8.size:=aj.size
  have B8:=B2.keep (aj.get g.size (by omega))
  have bL:=Bk2.keep (aj.get h1.size (by omega))
  have P8:=P.keep k8
  have S8:Stp g O h8 O:=Stp.keep k8
  refine⟨λhx=>⟨_,B8.cell rfl,?_⟩,λhx=>⟨λhy=>?_,λhy=>?_⟩⟩
  ·refine Wv P8 λg' P' S'=>⟨false,rfl,hK false g' st _ _ O P' (S8.trans S') (Ac _) ?_⟩
   rw[Jw,if_pos (by simpa using hx)];exact⟨rfl,rfl⟩
  ·have:=of_decide_eq_true hy;omega
  have hx:¬zw st.kind=0:=by simpa using hx
  have az:=zgo hx
  obtain⟨t,r,er⟩:=A9 az
  have bo:=P8
  obtain⟨rs,lf,na,sl,b,cs,W,aF,eO⟩:=bo
  have bu:na.length=st.nodes.length:=by rw[<-aF,AH]
  have aA:sl.len=st.nodes.length:=by rw[W.ns.len,bu]
  refine⟨_,B8.cell rfl,_,rfl,sl,by rw[qh];exact W.blk.cell rfl,?_⟩
  rw[aA]
  refine⟨λhz=>⟨_,B8.cell rfl,?_⟩,λhz=>?_⟩
  ·refine Wv P8 λg' P' S'=>⟨false,rfl,hK false g' st _ _ O P' (S8.trans S') (Ac _) ?_⟩
   have hz:st.nodes.length=4096:=by have:=of_decide_eq_true hz;omega
   rw[Jw,if_neg hx,if_pos hz];exact⟨rfl,rfl⟩
  have hz:¬st.nodes.length=4096:=λh=>by have:=of_decide_eq_false hz;omega
  have eV:Jw s (d+1) key st=match zri s (Jw s d) st.nodes.length (zw st.kind) (st.open key)with
   |.inl st'=>.inl (st'.setTo st.nodes.length)
   |.inr e=>.inr e:=by rw[Jw,if_neg hx,if_neg hz];rfl
  have rd:=W.rd
  have hl:=(rowLen W.rd).1
  rw[er]at rd hl
  rw[Ap]at hl
  obtain⟨tb,o,e1,e2,e3,e4⟩:=qct W.ag rd (k:=0) (by simp)
  have bF:st.kind=t.1:=by unfold PSt.kind;rw[er]
  have bz:bp<h8.size:=W.blk.lt
  have aV:∀c,O c->c<g.size:=λc h=>(P.own h).2.1
  refine⟨_,B8.cell rfl,_,rfl,sl,by rw[qh];exact W.blk.cell rfl,_,B8.cell rfl,_,B8.cell rfl,_,rfl,sl,by rw[qh];exact W.blk.cell rfl,_,B8.cell rfl,_,rfl,rs,by rw[qh];exact W.blk.cell rfl,_,⟨e1,by omega,by omega⟩,t.2.1,t.2.2,?_,key.1,key.2,bL.ld (cs:=[.int .i64 key.1,.int .i64 key.2]),rfl,rfl,rfl,?_⟩
  ·rw[qh,qh]
   exact⟨by rw[qh];exact e3,by rw[qh];exact e4,trivial⟩
  intro ah
  have af:Keep h8.size h8 ah:=Keep.push _ _ (Ac _)
  have ca:ah.size=h8.size+1:=Am _
  have be:Blk ah h8.size (ndC ((zw st.kind,t.2,key,[],[]),ax0)).toArray:=Blk.new _ _ _
  clear_value ah
  refine⟨by rw[qh];exact af.get bp bz,af.get g.size (by omega),af.get g.size (by omega),?_⟩
  have a7:NSt lo h8 M na sl b ah na cs:=⟨W.ns.frame af.size λc hc=>af.get c (W.ns.own hc).2.1,af.size,λc h=>.inl h,λj hj _=>af.get j hj⟩
  obtain⟨ai,bM⟩:=W.nst a7
  have aM:lo<=ah.size:=by have:=(ai.own (.inl rfl));omega
  refine NS.push qhf (by omega) ai.ag aM ai.ns (x:=(zw st.kind,t.2,key,[],[])) rfl rfl be (by omega) λs' b8 b' cs' bg b9 aP aE=>⟨s',rfl,_,rfl,?_⟩
  have bO:¬nsO na sl b g.size:=λh=>by have:=aV g.size (by rw[eO];exact .inr h);omega
  refine⟨(aE g.size (by omega) bO).trans (af.get g.size (by omega)),?_⟩
  rw[qh]
  have aG:¬nsO (na++[((zw st.kind,t.2,key,[],[]),ax0)]) s' b' bp:=λh=>by
   rcases aP bp h with h|h
   ·exact W.nb h
   ·omega
  have aY:=ai.blk.keep (aE bp (by omega) ai.nb)
  refine wb qis qit aY (by show 4<7;omega) rfl λaB u1 u2 u3=>?_
  have bJ:PW lo aB M bp s st.rest st.last a e rs lf (na++[((zw st.kind,t.2,key,[],[]),ax0)]) s' b' cs':=by
   refine⟨u1,W.rd,bg.frame (by omega) λc hc=>u3 c λh=>aG (h ▸ hc),z2c ai.ag λj hj hm=>?_,W.bl,aG⟩
   rw[u3 j λh=>hm (h ▸ W.bl.2)]
   exact aE j hj λh=>hm (ai.ns.own h).2.2
  have bA:Stp ah (ppO bp na sl b) aB (ppO bp (na++[((zw st.kind,t.2,key,[],[]),ax0)]) s' b'):=by
   refine⟨by omega,λc h=>?_,λj hj hn=>?_⟩
   ·rcases h with h|h
    ·exact .inl (.inl h)
    ·rcases aP c h with h|h
     ·exact .inl (.inr h)
     ·exact .inr h
   ·rw[u3 j λh=>hn (.inl h)]
    exact aE j hj λh=>hn (.inr h)
  have aL:PaS lo aB M bp s ⟨st.rest,st.last,st.nodes++[(zw st.kind,t.2,key,[],[])]⟩ a e (ppO bp (na++[((zw st.kind,t.2,key,[],[]),ax0)]) s' b'):=⟨rs,lf,_,_,_,_,bJ,by rw[BW,aF];rfl,rfl⟩
  have ak:Stp h8 O aB (ppO bp (na++[((zw st.kind,t.2,key,[],[]),ax0)]) s' b'):=by rw[eO];exact bM.trans bA
  generalize ppO bp (na++[((zw st.kind,t.2,key,[],[]),ax0)]) s' b'=O45 at aL ak
  have am:¬O g.size:=λh=>by have:=aV _ h;omega
  have bD:=B8.keep (ak.fr g.size (by omega) am)
  refine⟨_,bD.cell rfl,zte aL az λZ ar bP=>⟨rfl,?_⟩⟩
  have bq:(⟨st.rest,st.last,st.nodes++[(zw st.kind,t.2,key,[],[])]⟩:PSt).skip=st.open key:=by
   unfold PSt.skip PSt.open
   rw[bF]
   dsimp only
   rw[er]
  rw[bq]at ar
  have ae:=ak.trans bP
  have bn:=ae.le
  have ax:∀c,c<h8.size->¬O c->¬O45 c:=λc hc hn h=>by
   rcases ak.sub c h with h|h
   ·exact hn h
   ·omega
  have aC:=B8.keep (ae.fr g.size (by omega) am)
  have an:=z1o (key:=key) az hz
  have ba:(st.open key).nodes.length=st.nodes.length+1:=zne az
  intro aZ aI
  have fin:∀(bb:Bool) (g':za) (st':PSt) (a' e':Int) (O':Nat->Prop),PaS lo g' M bp s st' a' e' O'->Stp g O g' O'->(st.open key).nodes.length<=st'.nodes.length->g'[g.size]?=Z[g.size]?->Ans (zri s (Jw s d) st.nodes.length (zw st.kind) (st.open key)) bb st' a' e'->aZ bb g':=by
   intro bb g' st' a' e' O' P' S' n' br A'
   refine aI bb g' ?_
   have B':=aC.keep br
   obtain⟨bT,bU,aN,bj,b1,bY,W1,ap,bC⟩:=P'
   have aS:st.nodes.length<aN.length:=by
    have:aN.length=st'.nodes.length:=by rw[<-ap,AH]
    omega
   obtain⟨q1,q2,q3,q4,q5⟩:=W1.ns.cell aS
   refine⟨_,B'.cell rfl,_,rfl,bj,by rw[qh];exact W1.blk.cell rfl,_,B'.cell rfl,_,rfl,st'.last,by rw[qh,qh];exact W1.blk.cell rfl,⟨b1,0,none⟩,⟨q1,by omega,by have:=W1.ns.len;omega⟩,?_⟩
   rw[qh,qh,qh,Al,AK,aA]
   refine wb z9a z9b q2 (by omega) rfl λg2 u1 u2 u3=>?_
   obtain⟨W2,S2⟩:=W1.nst (W1.ns.toB aS u1 u2 u3)
   refine hK bb g2 (st'.setTo st.nodes.length) a' e' _ ⟨_,_,_,_,_,_,W2,?_,rfl⟩ (S'.trans (by rw[bC];exact S2)) (by rw[zdy];omega) ?_
   ·rw[zcr (f':=qbj st'.last) (λp=>rfl),ap];rfl
   ·rw[eV]
    cases hr:zri s (Jw s d) st.nodes.length (zw st.kind) (st.open key)with
    |inl x=>rw[hr]at A';exact⟨A'.1,by rw[A'.2]⟩
    |inr x=>rw[hr]at A';exact A'
  have aO:Aa .i64 (33-((d+1:Nat):Int)+1)=33-(d:Int):=by rw[w64 (by omega)];omega
  have bZ:=an.t
  refine⟨λh5=>⟨_,aC.cell rfl,_,aC.cell rfl,?_⟩,λh5=>⟨λh6=>?_,λh6=>?_⟩⟩
  ·have h5:zw st.kind=5:=by simpa using h5
   refine z2g (J:=λ_=>False) (D:=λ_=>False) (HI:=λ_ _=>True) (kid:=zdx (Jw s d)) (λ_ _ _ _ _=>trivial) aO (qb5 ih) (z1n aU) (by kernel_rfl) (by omega) ar trivial (λj hj=>hj.elim) (an.m h4) (by omega) (λx hx=>hw x (an.w x hx)) (by omega) λbb g' st' a' e' O' P' S' n' A'=>⟨bb,rfl,fin bb g' st' a' e' O' P' ?_ n' ?_ ?_⟩
   ·exact(S8.trans ae).trans ⟨S'.le,S'.sub,λj hj hn=>S'.fr j hj hn (λh=>h)⟩
   ·exact S'.fr g.size (by omega) (ax _ (by omega) am) (λh=>h)
   ·rw[aA]at A';unfold zri;rw[if_pos h5];exact A'
  ·have h5:¬zw st.kind=5:=by simpa using h5
   have h6:zw st.kind=6:=by simpa using h6
   intro aa ay
   have bH:Keep Z.size Z aa:=Keep.push _ _ (Ac _)
   have aT:Keep aa.size aa ay:=Keep.push _ _ (Ac _)
   have z65:aa.size=Z.size+1:=Am _
   have bS:ay.size=aa.size+1:=Am _
   have bh:MapAt aa Z.size []:=MapAt.new _
   have a6:Blk ay aa.size #[.map none]:=Blk.new _ _ _
   clear_value aa ay
   refine wb qiu qiv a6 (by show 0<1;omega) rfl λaH u1 u2 u3=>?_
   have au:Keep Z.size Z aH:=⟨by omega,λj hj=>by rw[u3 j (by omega),aT.get j (by omega),bH.get j hj]⟩
   have a8:MapAt aH Z.size []:=(bh.keep (aT.get _ (by omega))).keep (u3 _ (by omega))
   have bB:=ar.keep au
   have aQ:=aC.keep (au.get g.size (by omega))
   have bV:Stp Z O45 aH O45:=Stp.keep au
   have aJ:∀c,O45 c->c<Z.size:=λc h=>(ar.own h).2.1
   have bG:∀c,g.size<=c->M c=none:=λc hc=>by
    cases e:M c with
    |none=>rfl
    |some x=>have:=P.ag.lt e;omega
   refine⟨_,aQ.cell rfl,?_⟩
   refine z2g (J:=λj=>j=Z.size) (D:=λj=>j=g.size\/j=aa.size\/j=Z.size) (HI:=λσ g'=>Blk g' g.size #[.pointer (some ⟨bp,0,none⟩)]/\Blk g' aa.size #[.map (some Z.size)]/\qfz Z.size σ g') (kid:=zqd s (Jw s d)) (λσ x y hx hf=>⟨hx.1.keep (hf _ (.inl rfl)),hx.2.1.keep (hf _ (.inr (.inl rfl))),?_⟩) aO ?_ (z8u aU) (by kernel_rfl) (by omega) bB ⟨aQ,u1,[],a8,λk=>rfl⟩ (λj hj=>?_) (an.m h4) (by omega) (λx hx=>hw x (an.w x hx)) (by omega) λbb g' st' a' e' O' P' S' n' A'=>⟨bb,rfl,fin bb g' st' a' e' O' P' ?_ n' ?_ ?_⟩
   ·obtain⟨l,ml,mk⟩:=hx.2.2
    exact⟨l,ml.keep (hf _ (.inr (.inr rfl))),mk⟩
   ·intro σ x bQ a1 e1 O1 P1 I1 J1 bI bm bE K1 bi
    show XC Tp _ #[.int .i64 (33-(d:Int)),.pointer (some ⟨g.size,0,none⟩),.pointer (some ⟨aa.size,0,none⟩)] x K1
    apply Xb
    refine⟨_,I1.1.cell rfl,_,I1.2.1.cell rfl,?_⟩
    refine qe3 hg hM hs ih (J:=λj=>j=g.size\/j=aa.size\/j=Z.size) (.inr (.inr rfl)) P1 I1.2.2 J1 bI bm bE (λj hj=>bG j (by omega)) λbb g' st' a' e' O' σ' P' S' n' H' A'=>⟨bb,rfl,bi bb g' st' a' e' O' σ' P' S' n' (λhb=>⟨I1.1.keep ?_,I1.2.1.keep ?_,H' hb⟩) A'⟩
    ·have:=J1 g.size (.inl rfl)
     exact S'.fr _ this.1 this.2 (by omega)
    ·have:=J1 aa.size (.inr (.inl rfl))
     exact S'.fr _ this.1 this.2 (by omega)
   ·refine⟨by omega,λh=>?_⟩
    have:=aJ j h
    rcases hj with rfl|rfl|rfl
    ·exact ax _ (by omega) am h
    ·omega
    ·omega
   ·refine(S8.trans ae).trans ⟨by have:=S'.le;omega,λc h=>?_,λj hj hn=>?_⟩
    ·rcases S'.sub c h with h|h
     ·exact .inl h
     ·exact .inr (by omega)
    ·rw[S'.fr j (by omega) hn (by omega)];exact au.get j hj
   ·rw[S'.fr g.size (by omega) (ax _ (by omega) am) (by omega)];exact au.get _ (by omega)
   ·rw[aA]at A';unfold zri;rw[if_neg h5,if_pos h6];exact A'
  ·have h5:¬zw st.kind=5:=by simpa using h5
   have h6:¬zw st.kind=6:=by simpa using h6
   refine fin true Z (st.open key) a e O45 ar (S8.trans ae) (Ac _) rfl ?_
   unfold zri;rw[if_neg h5,if_neg h6];exact⟨rfl,rfl⟩
end
end
section
variable {s:Bs} {f a t:Nat} {k:Int}
theorem TkS.frame{h:za}{M:Fr}{b2 b3 b4 b5 bc D l:Nat}{rec:zn3}{out:List Tk}{sl:Sl}{bs:List Nat}{g g':za}(S:TkS h M b2 b3 b4 b5 bc D l rec s out sl bs g)(A:Apart h b2 b3 b4 b5 bc D l)(hz:g.size<=g'.size)(f:∀j,j<g.size->g'[j]?=g[j]?):TkS h M b2 b3 b4 b5 bc D l rec s out sl bs g':=by
 have ll:=lt_of_some S.rc
 have:=A.lo;have:=A.a3;have:=A.a4;have:=A.a5;have:=A.ac;have:=A.aD;have:=A.al
 have kz:=S.keep.size
 exact⟨⟨by omega,λj hj=>(f j (by omega)).trans (S.keep.get j hj)⟩,S.c.keep (f _ (by omega)),(f _ (by omega)).trans S.d,(f _ ll).trans S.rc,S.r2.keep (f _ (by omega)),S.r3.keep (f _ (by omega)),S.r4.keep (f _ (by omega)),S.r5.keep (f _ (by omega)),S.o.frame (λc hc=>f c (S.o.own c hc).2.1) (Fr.le.refl _) λc hc=>(S.o.own c hc).2.2⟩
theorem z6s{o:List Tk}(ha:a<s.length)(h:Z7 s a=(k,t,0)):Yb (f+1) s a o=Yb f s t (o++[(k,((a:Int),(t:Int)))]):=by
 rw[Yb,if_pos ha,h];rfl
theorem z6t{k e:Int}{o:List Tk}(ha:a<s.length)(h:Z7 s a=(k,t,e))(he:¬e=0):Yb (f+1) s a o=([],t,e):=by
 rw[Yb,if_pos ha,h];simp only;rw[if_neg he]
theorem z2h{o:List Tk}(ha:¬a<s.length):Yb f s a o=(o,a,0):=by
 cases f with
 |zero=>rfl
 |succ f=>rw[Yb,if_neg ha]
section
variable {h : za} {M gl : Fr} {b2 b3 b4 b5 bc D l : Nat} {rec : zn3} {s : Bs} {sl : Sl} {bs : List Nat} {g : za}
abbrev qhg(b2 b3 b4 b5:Nat)(x9 x8 x0:Value):Env:=[(9,[],x9),(8,[],x8),(5,[],.pointer (some ⟨b5,0,none⟩)),(4,[],.pointer (some ⟨b4,0,none⟩)),(3,[],.pointer (some ⟨b3,0,none⟩)),(2,[],.pointer (some ⟨b2,0,none⟩)),(0,[],x0)]
set_option maxRecDepth 100000 in
set_option maxHeartbeats 4000000 in
theorem qhh(A:Apart h b2 b3 b4 b5 bc D l)(hg:GL gl)(hM:Fr.le gl M)(ag:AgM M h)(S:TkS h M b2 b3 b4 b5 bc D l rec s [] sl bs g){x9 x8 x0:Value}
  (ae:∀{v1 v2:Value} {h2:za} {K:Value->za->Prop},h2[l]?=some (.loop (rec .ready none))->zac Tp 25 (rfA (codeOf Tryz.f60)) (rfB (codeOf Tryz.f60)) rec l K (putO (putO (qhg b2 b3 b4 b5 x9 x8 x0) (some 10) [] v1) (some 11) [] v2) h2->YX Tp l #[v1,v2] h2 K)
  {Q:za->Prop} (hN:∀g out sl bs,TkS h M b2 b3 b4 b5 bc D l rec s out sl bs g->y5 s=(out,s.length,0)->out.length<=100000->Q g)
  (hE:∀(g:za) (t:Nat) (e:Int),¬e=0->y5 s=([],t,e)->Keep h.size h g->g[D]?=some (.deferred (some []))->g[l]?=some (.loop (rec .done (some .ret)))->Blk g b2 #[.slice none 0 0]->Blk g b3 #[.int .i64 (t:Int)]->Blk g b4 #[.int .i64 e]->Q g):
  XCI Tp 197 #[.func (.yield l) #[] #[],.pointer (some ⟨bc,0,none⟩)] g (λ_ g'=>Q g'):=by
 have:=A.lo;have:=A.a3;have:=A.a4;have:=A.a5;have:=A.ac;have:=A.aD;have:=A.al
 apply zqn
 refine⟨bl s,S.c.cell rfl,λab=>?_,λai=>?_⟩
 ·have af:65536<s.length:=by rw[ze]at ab;simp at ab;omega
  refine ae S.rc (TkS.err A S (by omega) λg' q1 q2 q3 q4 q5 q6=>⟨false,rfl,?_⟩)
  refine hE g' 0 3 (by omega) ?_ q1 q2 q3 q4 q5 q6
  unfold y5;rw[if_pos af]
 ·have ah:s.length<=65536:=by rw[ze]at ai;simp at ai;omega
  have hR:y5 s=Yb s.length s 0 []:=by unfold y5;rw[if_neg (by omega)]
  refine⟨λk g'=>∃(a f:Nat) (out:List Tk) (ar:Sl) (ax:List Nat),k=(a:Int)/\a<=s.length/\s.length-a<=f/\out.length<=a/\y5 s=Yb f s a out/\TkS h M b2 b3 b4 b5 bc D l rec s out ar ax g',λk _=>s.length-k.toNat,⟨0,s.length,[],sl,bs,rfl,by omega,by omega,Ac _,hR,S⟩,?_⟩
  rintro k g1 ⟨a,f,out,ay,an,rfl,ha,hf,ho,hT,S1⟩
  refine⟨bl s,S1.c.cell rfl,λak=>⟨bl s,S1.c.cell rfl,?_⟩,λaj=>?_⟩
  ·have aa:a<s.length:=by rw[ze]at ak;simp at ak;omega
   obtain⟨f,rfl⟩:∃f',f=f'+1:=⟨f-1,by omega⟩
   have aA:AgM M g1:=ag.keep S1.keep
   refine qeq hg hM aA ah aa λg2 k2=>?_
   obtain⟨tk,t,e,Z⟩:∃k t e,Z7 s a=(k,t,e):=⟨_,_,_,rfl⟩
   have z2:=k2.size
   by_cases he:e=0
   ·subst he
    have hp:=Jn aa (by rw[Z])
    rw[Z]at hp
    have aC:a<t:=hp.1
    have au:t<=s.length:=hp.2
    have ev:zqj s a=.tuple #[.agg #[.int .i64 tk,.int .i64 (a:Int),.int .i64 (t:Int)],.int .i64 0]:=by unfold zqj;rw[Z,if_pos rfl]
    refine⟨tk,a,t,0,ev,?_⟩
    intro g3
    have k3:Keep g2.size g2 g3:=Keep.push _ _ (Ac _)
    have z3:g3.size=g2.size+1:=Am _
    have B3:Blk g3 g2.size (zqi 0 0 0).toArray:=Blk.new _ _ _
    clear_value g3
    refine qbw B3 λg4 q1 q2 q3=>⟨tk,a,t,q3.ld,?_⟩
    have f4:∀j,j<g1.size->g4[j]?=g1[j]?:=λj hj=>by rw[q1 j (by omega),k3.get j (by omega),k2.get j hj]
    have S4:=S1.frame A (by omega) f4
    have ll:=lt_of_some S1.rc
    refine ae S4.rc (TkS.round A ag S4 (by omega) λg5 aB az S5 z5 f5=>⟨true,rfl,λhx=>by simp at hx,λ_=>?_⟩)
    refine⟨t,?_,⟨t,f,_,aB,az,rfl,au,by omega,?_,?_,S5⟩,?_⟩
    ·rw[qh,qh]
     refine(q3.keep (f5 g2.size (by omega) (by omega) (by omega) λhm=>?_)).cell rfl
     have:=(S1.o.own g2.size hm).2.1
     omega
    ·rw[Ag];show out.length+1<=t;omega
    ·rw[hT,z6s aa Z]
    ·show s.length-(t:Int).toNat<s.length-(a:Int).toNat
     rw[Al,Al];omega
   ·have ev:=zgp Z he
    refine⟨0,t,t,e,ev,?_⟩
    intro g3
    have k3:Keep g2.size g2 g3:=Keep.push _ _ (Ac _)
    have z3:g3.size=g2.size+1:=Am _
    have B3:Blk g3 g2.size (zqi 0 0 0).toArray:=Blk.new _ _ _
    clear_value g3
    refine qbw B3 λg4 q1 q2 q3=>⟨0,t,t,q3.ld,?_⟩
    have f4:∀j,j<g1.size->g4[j]?=g1[j]?:=λj hj=>by rw[q1 j (by omega),k3.get j (by omega),k2.get j hj]
    have S4:=S1.frame A (by omega) f4
    refine ae S4.rc (TkS.err A S4 he λg5 w1 w2 w3 w4 w5 w6=>⟨false,rfl,λ_=>?_,λhx=>by simp at hx⟩)
    exact hE g5 t e he (by rw[hT,z6t aa Z he]) w1 w2 w3 w4 w5 w6
  ·have am:¬a<s.length:=by rw[ze]at aj;simp at aj;omega
   have ap:a=s.length:=by omega
   exact hN g1 out ay an S1 (by rw[hT,z2h am,ap]) (by omega)
end
end
end Go.X
end
section
namespace Go.X
open Go Go.X Go.Proofs Go.RowKit
set_option maxRecDepth 100000 in
set_option maxHeartbeats 4000000 in
section
theorem z6u{gl M:Fr}(hg:GL gl)(hM:Fr.le gl M){h:za}(ag:AgM M h){s:Bs}{K:Value->za->Prop}
  (hK:∀(h':za) (M':Fr) (t:Sl),Later h M h' M'->Rd M' (.row tTk) (y5 s).1 [slV t]->K (.tuple #[slV t,.int .i64 ((y5 s).2.1:Nat),.int .i64 (y5 s).2.2]) h'):
  XC Tp 60 #[.string (bl s)] h K:=by
 apply znk
 intro h1 h2 h3 h4
 have k1:Keep h.size h h1:=Keep.push _ _ (Ac _)
 have k2:Keep h1.size h1 h2:=Keep.push _ _ (Ac _)
 have k3:Keep h2.size h2 h3:=Keep.push _ _ (Ac _)
 have k4:Keep h3.size h3 h4:=Keep.push _ _ (Ac _)
 have z1:h1.size=h.size+1:=Am _
 have z2:h2.size=h1.size+1:=Am _
 have z3:h3.size=h2.size+1:=Am _
 have z4:h4.size=h3.size+1:=Am _
 have B1:Blk h1 h.size #[.slice none 0 0]:=Blk.new _ _ _
 have B2:Blk h2 h1.size #[.int .i64 0]:=Blk.new _ _ _
 have B3:Blk h3 h2.size #[.int .i64 0]:=Blk.new _ _ _
 have B4:Blk h4 h3.size #[.slice none 0 0]:=Blk.new _ _ _
 clear_value h4 h3 h2 h1
 apply zxi
 intro h5
 have k5:Keep h4.size h4 h5:=Keep.push _ _ (Ac _)
 have z5:h5.size=h4.size+1:=Am _
 have B5:Blk h5 h4.size #[.string (bl s)]:=Blk.new _ _ _
 clear_value h5
 refine⟨_,rfl,_,_,rfl,by kernel_rfl,λrec ae=>?_⟩
 have e5:∀j,j<h.size->h5[j]?=h[j]?:=λj hj=>by rw[k5.get j (by omega),k4.get j (by omega),k3.get j (by omega),k2.get j (by omega),k1.get j hj]
 have A:Apart h h.size h1.size h2.size h3.size h4.size h5.size (h5.size+1):=⟨by omega,by omega,by omega,by omega,by omega,by omega,rfl⟩
 obtain⟨g0,aa⟩:∃g0,g0=(h5.push (.deferred (some []))).push (.loop (rec .ready none)):=⟨_,rfl⟩
 have gz:g0.size=h5.size+2:=by rw[aa,Am,Am]
 have ge:∀j,j<h5.size->g0[j]?=h5[j]?:=λj hj=>by rw[aa,Array.getElem?_push_lt (by rw[Am];omega)];rw[Array.getElem_push_lt hj,A0 hj]
 have gD:g0[h5.size]?=some (.deferred (some [])):=by rw[aa,Array.getElem?_push_lt (by rw[Am];omega),Array.getElem_push_eq]
 have ab:g0[h5.size+1]?=some (.loop (rec .ready none)):=by
  rw[aa]
  have:h5.size+1=(h5.push (.deferred (some []))).size:=by rw[Am]
  rw[this,Array.getElem?_push_size]
 rw[<-aa]
 clear aa
 have S:TkS h M h.size h1.size h2.size h3.size h4.size h5.size (h5.size+1) rec s [] ⟨none,0,0⟩ [] g0:=
  ⟨⟨by omega,λj hj=>(ge j (by omega)).trans (e5 j hj)⟩,B5.keep (ge _ (by omega)),gD,ab,
   B1.keep (by rw[ge _ (by omega),k5.get _ (by omega),k4.get _ (by omega),k3.get _ (by omega),k2.get _ (by omega)]),
   B2.keep (by rw[ge _ (by omega),k5.get _ (by omega),k4.get _ (by omega),k3.get _ (by omega)]),
   B3.keep (by rw[ge _ (by omega),k5.get _ (by omega),k4.get _ (by omega)]),
   B4.keep (by rw[ge _ (by omega),k5.get _ (by omega)]),.nil⟩
 refine qhh A hg hM ag S (x9:=_) (x8:=_) (x0:=_) ae ?_ ?_
 ·intro g out sl bs S' hT ho
  have ll:=lt_of_some S'.rc
  refine .inl ⟨S'.rc,?_⟩
  obtain⟨g6,Z⟩:∃g6,g6=g.setIfInBounds (h5.size+1) (.loop (rec .exhausted none)):=⟨_,rfl⟩
  have z6:g6.size=g.size:=by rw[Z,AU]
  have f6:∀j,j≠h5.size+1->g6[j]?=g[j]?:=λj hj=>by rw[Z];exact zm hj
  rw[<-Z]
  clear Z
  refine⟨sl,(S'.r5.keep (f6 _ (by omega))).cell rfl,?_⟩
  refine wb qb1 qb2 (S'.r2.keep (f6 _ (by omega))) (by show 0<1;omega) rfl λg7 u1 u3 u2=>?_
  refine wb qeu qev (S'.r3.keep ((u2 _ (by omega)).trans (f6 _ (by omega)))) (by show 0<1;omega) rfl λg8 v1 v3 v2=>?_
  refine wb qew qex (S'.r4.keep ((v2 _ (by omega)).trans ((u2 _ (by omega)).trans (f6 _ (by omega))))) (by show 0<1;omega) rfl λg9 w1 w3 w2=>?_
  have f9:∀j,j≠h5.size+1->j≠h.size->j≠h1.size->j≠h2.size->g9[j]?=g[j]?:=λj a1 a2 a3 a4=>by rw[w2 j a4,v2 j a3,u2 j a2,f6 j a1]
  refine⟨(f9 _ (by omega) (by omega) (by omega) (by omega)).trans S'.d,?_⟩
  have fx:∀j,j≠h5.size->(g9.setIfInBounds h5.size (.deferred none))[j]?=g9[j]?:=λj hj=>zm hj
  have Bx:Blk (g9.setIfInBounds h5.size (.deferred none)) h.size #[slV sl]:=u1.keep (by rw[fx _ (by omega),w2 _ (by omega),v2 _ (by omega)])
  have By:Blk (g9.setIfInBounds h5.size (.deferred none)) h1.size #[.int .i64 (((bl s).size:Nat):Int)]:=v1.keep (by rw[fx _ (by omega),w2 _ (by omega)])
  have Bz:Blk (g9.setIfInBounds h5.size (.deferred none)) h2.size #[.int .i64 0]:=w1.keep (fx _ (by omega))
  refine⟨sl,Bx.cell rfl,_,By.cell rfl,0,Bz.cell rfl,?_⟩
  have kx:Keep h.size h (g9.setIfInBounds h5.size (.deferred none)):=by
   have:=S'.keep.size
   refine⟨by rw[AU];omega,λj hj=>?_⟩
   rw[fx j (by omega),f9 j (by omega) (by omega) (by omega) (by omega)];exact S'.keep.get j hj
  have ow:=S'.o.own
  have ox:=S'.o.frame (h':=g9.setIfInBounds h5.size (.deferred none)) (λc hc=>by have:=ow c hc;rw[fx c (by omega),f9 c (by omega) (by omega) (by omega) (by omega)]) (Fr.le.refl M) λc hc=>(ow c hc).2.2
  have:=hK _ (MxL M (g9.setIfInBounds h5.size (.deferred none)) bs) sl (MxL.later ag kx λc hc=>by have:=ow c hc;omega) (by rw[hT];exact ox.rd (ag.keep kx) (λc hc=>hc) (by omega))
  rw[hT]at this
  rw[ze]
  exact this
 ·intro g t e he hT kg gd gr q2 q3 q4
  refine .inr ⟨gr,?_⟩
  obtain⟨g6,Z⟩:∃g6,g6=g.setIfInBounds (h5.size+1) (.loop (rec .exhausted (some .ret))):=⟨_,rfl⟩
  have z6:g6.size=g.size:=by rw[Z,AU]
  have f6:∀j,j≠h5.size+1->g6[j]?=g[j]?:=λj hj=>by rw[Z];exact zm hj
  rw[<-Z]
  clear Z
  refine⟨(f6 _ (by omega)).trans gd,?_⟩
  have fx:∀j,j≠h5.size->(g6.setIfInBounds h5.size (.deferred none))[j]?=g6[j]?:=λj hj=>zm hj
  have Bx:Blk (g6.setIfInBounds h5.size (.deferred none)) h.size #[.slice none 0 0]:=q2.keep (by rw[fx _ (by omega),f6 _ (by omega)])
  have By:Blk (g6.setIfInBounds h5.size (.deferred none)) h1.size #[.int .i64 (t:Int)]:=q3.keep (by rw[fx _ (by omega),f6 _ (by omega)])
  have Bz:Blk (g6.setIfInBounds h5.size (.deferred none)) h2.size #[.int .i64 e]:=q4.keep (by rw[fx _ (by omega),f6 _ (by omega)])
  refine⟨⟨none,0,0⟩,Bx.cell rfl,_,By.cell rfl,e,Bz.cell rfl,?_⟩
  have kx:Keep h.size h (g6.setIfInBounds h5.size (.deferred none)):=by
   have:=kg.size
   refine⟨by rw[AU];omega,λj hj=>?_⟩
   rw[fx j (by omega),f6 j (by omega)];exact kg.get j hj
  have:=hK _ M ⟨none,0,0⟩ (Later.same ag kx) (by rw[hT];exact⟨_,rfl,none,0,rfl,⟨by simp,by simp⟩,.inl rfl⟩)
  rw[hT]at this
  exact this
end
end Go.X
end
section
namespace Go.X
open Go Go.X Go.Proofs Go.RowKit
section
theorem zqp:∀(f:Nat) (s:Bs) (a:Nat) (o:List Tk),(Yb f s a o).1.length<=o.length+f
 |0,s,a,o=>Nat.le_add_right _ _
 |f+1,s,a,o=>by
  rw[Yb]
  split
  ·split
   ·have:=zqp f s (Z7 s a).2.1 (o++[((Z7 s a).1,((a:Int),((Z7 s a).2.1:Int)))])
    rw[Ag,List.length_singleton]at this;omega
   ·simp
  ·simp
end
section
variable {lo b:Nat} {g:za} {M:Fr} {cs:Array Value}
def z3z(na:NA)(b:Nat):List Nat:=if na.length=0 then []else b::na.flatMap λp=>p.2.kb++p.2.pb
theorem z6v{na:NA}{sl:Sl}(H:NS lo g M na sl b cs){c:Nat}(h:c∈z3z na b):lo<=c:=by
 unfold z3z at h
 split at h
 ·cases h
 rename_i h0
 rcases Af.1 h with rfl|h
 ·exact(H.lb (H.cell (n:=0) (by omega)).2.2.1).1
 ·obtain⟨p,hp,hc⟩:=CF.1 h
  exact((H.nd p hp).own (Aw.1 hc)).1
theorem ztf{na:NA}(h:0<na.length):z3z na b=b::na.flatMap λp=>p.2.kb++p.2.pb:=by unfold z3z;rw[if_neg (by omega)]
theorem NS.rd{na:NA}{sl:Sl}(H:NS lo g M na sl b cs)(ag:AgM M g)(hn:na.length<=4096)(hk:∀p∈na,ndW p.1<=1000000):Rd (MxL M g (z3z na b)) (.row tNd) (na.map (·.1)) [slV sl]:=by
 have hl:=H.len
 have hc:=H.cr.ro.le
 refine⟨_,rfl,sl.a,sl.cap,?_,⟨by rw[AH];omega,by rw[AH];omega⟩,?_⟩
 ·show slV _=_
  unfold slV;rw[AH,hl]
 ·by_cases h0:na=[]
  ·left;rw[h0];rfl
  ·have hp:0<na.length:=Bf.2 h0
   obtain⟨h1,h2,h3,h4,h5⟩:=H.cell hp
   refine .inr ⟨b,0,cs,h1,MxL.at (by rw[ztf hp];exact Aj) h2,λi hi=>?_⟩
   rw[AH]at hi
   have hm:=AN hi
   obtain⟨q1,q2⟩:=H.cr.el i (ndC na[i]) (by rw[BN,Aq hi];rfl)
   rw[AK,show sz tNd=7 from rfl,q2,DR]
   have I:=H.nd _ hm
   have hw:=hk _ hm
   unfold ndW at hw
   have r1:=I.kk.rd ag (all:=z3z na b) (λc hc=>by rw[ztf hp];exact Ae _ (CF.2 ⟨_,hm,Aw.2 (.inl hc)⟩)) (by omega)
   have r2:=I.pp.rd ag (all:=z3z na b) (λc hc=>by rw[ztf hp];exact Ae _ (CF.2 ⟨_,hm,Aw.2 (.inr hc)⟩)) (by omega)
   refine⟨[.int .i64 na[i].1.1],[.int .i64 na[i].1.2.1.1,.int .i64 na[i].1.2.1.2,.int .i64 na[i].1.2.2.1.1,.int .i64 na[i].1.2.2.1.2,slV na[i].2.ks,slV na[i].2.ps],rfl,rfl,?_⟩
   refine⟨[.int .i64 na[i].1.2.1.1,.int .i64 na[i].1.2.1.2],[.int .i64 na[i].1.2.2.1.1,.int .i64 na[i].1.2.2.1.2,slV na[i].2.ks,slV na[i].2.ps],rfl,⟨_,_,rfl,rfl,rfl⟩,?_⟩
   refine⟨[.int .i64 na[i].1.2.2.1.1,.int .i64 na[i].1.2.2.1.2],[slV na[i].2.ks,slV na[i].2.ps],rfl,⟨_,_,rfl,rfl,rfl⟩,?_⟩
   exact⟨[slV na[i].2.ks],[slV na[i].2.ps],rfl,r1,r2⟩
theorem z2i{x:Bs}{l:List Nd}{sl:Sl}(i j:Int)(h:Rd M (.row tNd) l [slV sl]):zcx M [.pair .str (.row tNd),.int .i64,.int .i64] ((bl x,l),i,j) (.tuple #[.agg #[.string (bl x),slV sl],.int .i64 i,.int .i64 j]):=by
 refine⟨[.agg #[.string (bl x),slV sl],.int .i64 i,.int .i64 j],⟨_,_,rfl,?_,_,_,rfl,Jf _ i,_,rfl,Jf _ j⟩,rfl⟩
 exact⟨[.string (bl x),slV sl],rfl,[.string (bl x)],[slV sl],rfl,rfl,h⟩
theorem z2j{T:Ty}:Rd M (.row T) [] [slV ⟨none,0,0⟩]:=⟨_,rfl,none,0,rfl,⟨by simp,by simp⟩,.inl rfl⟩
theorem qhi:qd Tp 36=true:=by kernel_rfl
theorem qhj:qn Tp 36=2:=by kernel_rfl
theorem zd2{x y:Value}(B:Blk g b #[x,y]){u:Bt}{v:Sl}{K:za->Prop}(hK:∀g',(∀j,j≠b->g'[j]?=g[j]?)->g'.size=g.size->Blk g' b #[.string u,slV v]->K g'):
  zk Tp (An 36 (.pointer (some ⟨b,0,none⟩)) (.agg #[.string u,slV v])) g K:=by
 refine zif (vs:=[.string u,slV v]) qhi B rfl qhj (Ac _) (λw hw=>?_) λg' q1 q2 q3=>hK g' q3 q2 q1
 simp at hw;rcases hw with rfl|rfl <;> rfl
theorem zqq{l:List Tk}{k:Nat}(hk:k<l.length):zy (l.take (k+1))=zy (l.take k)++(if l[k].1≠1 then [l[k]]else []):=by
 unfold zy
 rw[Av hk,List.filter_append]
 congr 1
 by_cases h:l[k].1=1
 ·simp[h]
 ·simp[h]
end
section
variable {s:Bs}
theorem z2k(h:(y5 s).2.2=0):s.length<=65536/\(y5 s).1.length<=s.length:=by
 unfold y5 at h ⊢
 split at h
 ·simp at h
 ·rename_i hh
  rw[if_neg hh]
  have:=zqp s.length s 0 []
  rw[AZ,AK]at this
  exact⟨by omega,this⟩
set_option maxRecDepth 100000 in
set_option maxHeartbeats 4000000 in
theorem zqr{gl:Fr}(hg:GL gl){R:(Bt×List Nd)×Int×Int->Prop}(hR:R ((bl (Z8 s).1.1,(Z8 s).1.2),(Z8 s).2.1,(Z8 s).2.2)):
  PC Tp gl 19 [Arg.mk .str (bl s)] [.pair .str (.row tNd),.int .i64,.int .i64] R:=by
 intro h M vs hM ag ha
 match vs,ha with
 |[u1],⟨a1,_⟩=>
  obtain rfl:=Ql (s:=bl s) a1
  apply PX.of
  apply zm0
  intro h1
  have k1:Keep h.size h h1:=Keep.push _ _ (Ac _)
  have z1:h1.size=h.size+1:=Am _
  have B1:Blk h1 h.size #[.string ⟨#[]⟩,.slice none 0 0]:=Blk.new _ _ _
  clear_value h1
  have bA:AgM M h1:=ag.keep k1
  refine z6u hg hM bA λh3 M1 t L1 rt=>⟨t,_,_,rfl,?_⟩
  have B3:=B1.keep (L1.keep.get h.size (by omega))
  have z3:=L1.keep.size
  have k3:Keep h.size h h3:=k1.trans (c:=h3) (m:=h.size) ⟨z3,λj hj=>L1.keep.get j (by omega)⟩ (Ac _)
  have bP:∀b,b<h.size->M1 b=M b:=λb hb=>L1.old b (by omega)
  have ba:M h.size=none:=by
   cases e:M h.size with
   |none=>rfl
   |some x=>have:=ag.lt e;omega
  have aS:M1 h.size=none:=by rw[L1.old _ (by omega)];exact ba
  refine⟨λhx=>?_,λhx=>?_⟩
  ·have hx:¬(y5 s).2.2=0:=by simpa using hx
   have eD:Z8 s=(([],[]),((y5 s).2.1:Int),(y5 s).2.2):=by unfold Z8;rw[if_neg hx]
   rw[eD]at hR
   refine zd2 (u:=⟨#[]⟩) (v:=⟨none,0,0⟩) B3 λh7 f7 z7 B7=>⟨_,_,B7.ld (cs:=[.string ⟨#[]⟩,slV ⟨none,0,0⟩]),?_⟩
   exact⟨M,_,Later.same ag ⟨by omega,λj hj=>by rw[f7 j (by omega)];exact k3.get j hj⟩,z2i (x:=[]) (l:=[]) _ _ z2j,hR⟩
  have hx:(y5 s).2.2=0:=by simpa using hx
  obtain⟨hs,bL⟩:=z2k hx
  have eD:Z8 s=match Jw s 32 (0,0) ⟨zy (y5 s).1,0,[]⟩with
   |.inl st=>if st.rest=[]then((s,st.nodes),(s.length:Int),0)else(([],[]),st.here s.length,2)
   |.inr e=>(([],[]),e.1,e.2):=by unfold Z8;rw[if_pos hx];rfl
  have aQ:=zxo (z6d s)
  generalize (y5 s).1=tl at rt bL eD aQ
  have rl:=(rowLen rt).1
  intro ap
  have bg:Keep h3.size h3 ap:=Keep.push _ _ (Ac _)
  have bS:ap.size=h3.size+1:=Am _
  have bC:Blk ap h3.size (ppC s ⟨none,0,0⟩ 0 0 ⟨none,0,0⟩ 0 0).toArray:=Blk.new _ _ _
  clear_value ap
  have aN:∀c,h3.size<=c->M1 c=none:=λc hc=>by
   cases e:M1 c with
   |none=>rfl
   |some x=>have:=L1.ag.lt e;omega
  refine⟨λk g=>∃(n:Nat) (rs:Sl) (bs:List Nat),k=(n:Int)/\n<=tl.length/\ORow (h3.size+1) g M1 tTk (zy (tl.take n)) rs bs/\Blk g h3.size (ppC s rs 0 0 ⟨none,0,0⟩ 0 0).toArray/\Keep h3.size h3 g,λk _=>tl.length-k.toNat,⟨0,⟨none,0,0⟩,[],rfl,by omega,.nil,bC,bg⟩,?_⟩
  rintro k g ⟨n,rs,bs,rfl,hn,ro,Bp,kg⟩
  have agg:AgM M1 g:=L1.ag.keep kg
  have zg:h3.size+1<=g.size:=by have:=Bp.lt;omega
  refine⟨λar=>?_,λbn=>?_⟩
  ·have ar:n<tl.length:=by have:=of_decide_eq_true ar;omega
   obtain⟨tb,o,e1,e2,e3,e4⟩:=qct agg rt ar
   have au:=zqq ar
   refine⟨_,⟨e1,by omega,by omega⟩,tl[n].1,tl[n].2.1,tl[n].2.2,?_,?_⟩
   ·rw[qh,Al]
    exact⟨by rw[qh];exact e2,by rw[qh];exact e3,by rw[qh];exact e4,trivial⟩
   intro ax
   have bJ:Keep g.size g ax:=Keep.push _ _ (Ac _)
   have bT:ax.size=g.size+1:=Am _
   have br:Blk ax g.size (zqi 0 0 0).toArray:=Blk.new _ _ _
   clear_value ax
   refine qbw br λab q1 q2 q3=>⟨tl[n].1,by rw[qh];exact q3.cell rfl,?_⟩
   have aI:Keep g.size g ab:=⟨by omega,λj hj=>(q1 j (by omega)).trans (bJ.get j hj)⟩
   have ae:=ro.frame (λc hc=>aI.get c (ro.own c hc).2.1) (Fr.le.refl M1) λc hc=>(ro.own c hc).2.2
   have ak:=Bp.keep (aI.get _ (by omega))
   have aA:Keep h3.size h3 ab:=kg.trans (c:=ab) (m:=h3.size) ⟨by omega,λj hj=>aI.get j (by omega)⟩ (Ac _)
   have aJ:Aa .i64 ((n:Int)+1)=((n+1:Nat):Int):=by rw[w64 (by omega)];omega
   rw[aJ]
   refine⟨λhb=>⟨_,rfl,rs,by rw[qh];exact ak.cell rfl,tl[n].1,tl[n].2.1,tl[n].2.2,q3.ld,?_⟩,λhb=>?_⟩
   ·have hb:tl[n].1≠1:=by simpa using hb
    rw[if_pos hb]at au
    intro af
    have az:Keep ab.size ab af:=Keep.push _ _ (Ac _)
    have cc:af.size=ab.size+1:=Am _
    have bq:Blk af ab.size (zqi tl[n].1 tl[n].2.1 tl[n].2.2).toArray:=Blk.new _ _ _
    clear_value af
    refine⟨by rw[qh];exact az.get h3.size (by omega),?_⟩
    have aU:=ae.frame (λc hc=>az.get c (ae.own c hc).2.1) (Fr.le.refl M1) λc hc=>(ae.own c hc).2.2
    have aO:=ak.keep (az.get _ (by omega))
    have aB:Keep h3.size h3 af:=aA.trans (c:=af) (m:=h3.size) ⟨by omega,λj hj=>az.get j (by omega)⟩ (Ac _)
    have bo:(zy (tl.take n)).length<=n:=by
     have:(zy (tl.take n)).length<=(tl.take n).length:=List.length_filter_le _ _
     rw[Bb]at this;omega
    refine ORow.app z8z (by omega) (L1.ag.keep aB) aU (by omega) bq (z81 _ _ _) (by omega) λs' bQ bE aG cg c29 aV=>⟨s',rfl,_,rfl,?_⟩
    rw[qh]
    have bz:h3.size∉bs:=λhm=>by have:=(ro.own _ hm).1;omega
    refine wb qe0 qe1 (aO.keep (aV _ (by omega) bz)) (by show 1<7;omega) rfl λbi u1 u2 u3=>⟨⟨n+1,s',bE,rfl,by omega,?_,u1,?_⟩,?_⟩
    ·rw[au]
     exact aG.frame (λc hc=>u3 c λe=>by have:=(aG.own c hc).1;omega) (Fr.le.refl M1) λc hc=>(aG.own c hc).2.2
    ·refine aB.trans (c:=bi) (m:=h3.size) ⟨by omega,λj hj=>?_⟩ (Ac _)
     rw[u3 j (by omega),aV j (by omega) λhm=>by have:=(ro.own j hm).1;omega]
    ·show tl.length-((n+1:Nat):Int).toNat<tl.length-(n:Int).toNat
     omega
   ·have hb:¬tl[n].1≠1:=by simpa using hb
    rw[if_neg hb,A3]at au
    refine⟨⟨n+1,rs,bs,rfl,by omega,by rw[au];exact ae,ak,aA⟩,?_⟩
    show tl.length-((n+1:Nat):Int).toNat<tl.length-(n:Int).toNat
    omega
  ·have bm:n=tl.length:=by have:=of_decide_eq_false bn;omega
   subst bm
   rw[AW]at ro
   have bo:(zy tl).length<=tl.length:=List.length_filter_le _ _
   have a6:=ro.rd agg (all:=bs) (λc hc=>hc) (by omega)
   have bF:AgM (MxL M1 g bs) g:=MxL.ag agg bs
   have aL:∀c∈bs,h3.size+1<=c:=λc hc=>(ro.own c hc).1
   have aH:∀c,c∉bs->MxL M1 g bs c=M1 c:=λc hc=>by unfold MxL;rw[if_neg hc]
   have a7:Fr.le gl (MxL M1 g bs):=hM.trans (L1.le.trans (zig agg bs))
   have P:PaS h3.size g (MxL M1 g bs) h3.size s ⟨zy tl,0,[]⟩ 0 0 (ppO h3.size [] ⟨none,0,0⟩ 0):=by
    refine⟨rs,0,[],⟨none,0,0⟩,0,#[],⟨Bp,a6,.nil,bF,⟨Ac _,?_⟩,?_⟩,rfl,rfl⟩
    ·rw[aH _ λhm=>by have:=aL _ hm;omega];exact aN _ (Ac _)
    ·rintro(⟨h1,_⟩|⟨p,hp,_⟩)
     ·exact h1 rfl
     ·cases hp
   have hT:(⟨zy tl,0,[]⟩:PSt).T<=200000:=by unfold PSt.T;simp;omega
   have bI:=z6r (lo:=h3.size) (M:=MxL M1 g bs) (bp:=h3.size) (s:=s) hg a7 hs 32 (Ac _) (0,0) g _ 0 0 _ P (by simp) hT aQ
   refine bI _ λb a8 st' a' e' O' P' S' n' A'=>⟨b,rfl,?_⟩
   intro bH aM
   have fin:∀(ok:Bool) (ai:za) (aa:PSt) (a1 e1:Int) (O1:Nat->Prop),PaS h3.size ai (MxL M1 g bs) h3.size s aa a1 e1 O1->Stp g (ppO h3.size [] ⟨none,0,0⟩ 0) ai O1->(ok=false->Z8 s=(([],[]),a1,e1))->(ok=true->Z8 s=((s,aa.nodes),(s.length:Int),0)/\aa.nodes.length<=4096/\aa.T<=200000)->bH ok ai:=by
    intro ok ai aa a1 e1 O1 P1 S1 hf ht
    refine aM ok ai ?_
    have bM:∀c,c<h3.size->¬ppO h3.size [] ⟨none,0,0⟩ 0 c:=λc hc=>by
     rintro(h1|⟨h1,_⟩|⟨p,hp,_⟩)
     ·omega
     ·exact h1 rfl
     ·cases hp
    have aC:∀j,j<h3.size->ai[j]?=h3[j]?:=λj hj=>(S1.fr j (by omega) (bM j hj)).trans (kg.get j hj)
    have ca:=S1.le
    have Bd:=B3.keep (aC h.size (by omega))
    have bB:=P1
    obtain⟨aE,bj,ah,aj,b1,aP,W1,Z,bD⟩:=bB
    have bZ:=W1.blk.lt
    refine⟨λho=>⟨_,rfl,a1,by rw[qh];exact W1.blk.cell rfl,_,rfl,e1,by rw[qh];exact W1.blk.cell rfl,rfl,rfl,?_⟩,λho=>⟨_,rfl,aj,by rw[qh];exact W1.blk.cell rfl,?_⟩⟩
    ·have ho:ok=false:=by simpa using ho
     refine zd2 (u:=⟨#[]⟩) (v:=⟨none,0,0⟩) Bd λcd aY b9 bO=>?_
     have am:=aY h3.size (by omega)
     refine⟨by rw[qh];exact am,by rw[qh];exact am,by rw[qh];exact am,_,_,bO.ld (cs:=[.string ⟨#[]⟩,slV ⟨none,0,0⟩]),?_⟩
     rw[hf ho]at hR
     exact⟨M,_,Later.same ag ⟨by omega,λj hj=>by rw[aY j (by omega),aC j (by omega)];exact k3.get j hj⟩,z2i (x:=[]) (l:=[]) _ _ z2j,hR⟩
    ·have ho:ok=true:=by simpa using ho
     obtain⟨bh,b8,bU⟩:=ht ho
     refine zd2 (u:=bl s) (v:=aj) Bd λay aF cb bG=>⟨_,_,bG.ld (cs:=[.string (bl s),slV aj]),?_⟩
     rw[bh]at hR
     rw[ze]
     have bu:MxL M1 g bs h.size=none:=by rw[aH _ λhm=>by have:=aL _ hm;omega];exact aS
     have aZ:NS h3.size ay (MxL M1 g bs) ah aj b1 aP:=W1.ns.frame (by omega) λc hc=>aF c λe=>by have:=(W1.ns.own hc).1;omega
     have an:AgM (MxL M1 g bs) ay:=z2c W1.ag λj hj hm=>aF j λe=>hm (e ▸ bu)
     have bY:ah.length=aa.nodes.length:=by rw[<-Z,AH]
     have aT:=aZ.rd an (by omega) λp hp=>by
      have:p.1∈aa.nodes:=by rw[<-Z];exact List.mem_map_of_mem hp
      have:=qbk this;omega
     rw[Z]at aT
     refine⟨MxL (MxL M1 g bs) ay (z3z ah b1),_,⟨⟨by omega,λj hj=>by rw[aF j (by omega),aC j (by omega)];exact k3.get j hj⟩,?_,λc hc=>?_,MxL.ag an _⟩,z2i _ _ aT,hR⟩
     ·exact L1.le.trans ((zig agg bs).trans (zig an _))
     ·have h1:c∉z3z ah b1:=λhm=>by have:=z6v aZ hm;omega
      have e1:MxL (MxL M1 g bs) ay (z3z ah b1) c=MxL M1 g bs c:=by unfold MxL;rw[if_neg h1]
      rw[e1,aH c λhm=>by have:=aL c hm;omega]
      exact bP c hc
   have be:=P'
   obtain⟨aE,bj,ah,aj,b1,aP,W1,Z,bD⟩:=be
   have bV:=(rowLen W1.rd).1
   refine⟨_,λ_=>rfl,aE,λ_=>by rw[qh];exact W1.blk.cell rfl,λhc=>?_,λhc=>?_⟩
   ·have hb:b=true/\0<st'.rest.length:=by
     cases b with
     |false=>simp at hc
     |true=>simp at hc;exact⟨rfl,by omega⟩
    refine Wv P' λg' P2 S2=>⟨false,rfl,fin false g' st' _ _ O' P2 (S'.trans S2) (λ_=>?_) (λh=>(by cases h))⟩
    rw[eD]
    cases hr:Jw s 32 (0,0) ⟨zy tl,0,[]⟩with
    |inl x=>
     rw[hr]at A'
     rw[A'.2]at hb ⊢
     dsimp only
     rw[if_neg λe=>by rw[e]at hb;simp at hb]
    |inr x=>rw[hr]at A';rw[A'.1]at hb;exact absurd hb.1 (by simp)
   ·refine fin b a8 st' a' e' O' P' S' (λhb=>?_) (λhb=>?_)
    ·rw[eD]
     cases hr:Jw s 32 (0,0) ⟨zy tl,0,[]⟩with
     |inl x=>rw[hr]at A';rw[A'.1]at hb;cases hb
     |inr x=>rw[hr]at A';rw[A'.2]
    ·subst hb
     have hz:st'.rest=[]:=by
      have:¬0<aE.len:=by simpa using hc
      exact A7.1 (by omega)
     cases hr:Jw s 32 (0,0) ⟨zy tl,0,[]⟩with
     |inl x=>
      rw[hr]at A' eD
      have okv:=zqe s 32 _ _ _ hr
      rw[<-A'.2]at okv eD
      dsimp only at eD
      rw[if_pos hz]at eD
      exact⟨eD,okv.m (by simp),by have:=okv.t;omega⟩
     |inr x=>rw[hr]at A';exact absurd A'.1 (by simp)
end
end Go.X
end
section
namespace Go.X
section
theorem zqs(s0:Bt)(h:za)(R:Value->za->Prop)
  (H:let b:=h.push (.cells #[.int .i64 0,.string (⟨#[]⟩:Bt),.slice none 0 0,.slice none 0 0] 26);XC Tp 19 #[.string s0] b (λc d=>∃e f g i,c=.tuple #[.agg #[.string e,slV f],.int .i64 g,.int .i64 i]/\let j:=d.push (.cells #[.string (⟨#[]⟩:Bt),.slice none 0 0] 36);zk Tp (An 36 (.pointer (some ⟨d.size,0,none⟩)) (.agg #[.string e,slV f])) j (λk=>((i != 0)=true->zk Tp (An 26 (.pointer (some ⟨h.size,0,none⟩)) (.agg #[.int .i64 0,.string (⟨#[]⟩:Bt),.slice none 0 0,.slice none 0 0])) k (λl=>∃m n o p,zd l ⟨h.size,0,none⟩ 0 [.int .i64 m,.string n,slV o,slV p]/\R (.tuple #[.agg #[.int .i64 m,.string n,slV o,slV p],.int .i64 g,.int .i64 i]) l))/\((i != 0)=false->∃q r,zd k ⟨d.size,0,none⟩ 0 [.string q,slV r]/\XC Tp 59 #[.agg #[.string q,slV r],.int .i64 0,.int .i64 1] k (λs t=>∃u v w x,s=.agg #[.int .i64 u,.string v,slV w,slV x]/\zk Tp (An 26 (.pointer (some ⟨h.size,0,none⟩)) (.agg #[.int .i64 u,.string v,slV w,slV x])) t (λy=>∃z A B C,zd y ⟨h.size,0,none⟩ 0 [.int .i64 z,.string A,slV B,slV C]/\R (.tuple #[.agg #[.int .i64 z,.string A,slV B,slV C],.int .i64 g,.int .i64 0]) y)))))):
  XC Tp 15 #[.string s0] h R:=
 XF ⟨[],[],[]⟩ [.cell 2 26,.tmp 3,.tmp 4] 22 Tryz.func15 H
end
end Go.X
end
