/- A part of the proof: nothing is stated here for its own sake. -/
import Derived.Test.YtjkbohnbckpmdaaGreatDoorPnC
import Derived.Lib.AppendZerosOnto
import Derived.RangeFuncCalls
open _root_.Go.Addr renaming add->YK
open _root_.Array renaming getD_eq_getD_getElem?->zay,getElem?_append_left->zbs,getElem?_eq_some_iff->YV,getElem?_setIfInBounds_ne->zb2,getElem?_toList->zav,push->za9,replicate->zar,size->ZK,size_push->ZI,size_setIfInBounds->zah
open _root_.Bool renaming and_eq_false_iff->zcr,and_eq_true->ZE,and_true->zbp,eq_iff_iff->ZR,false_eq_true->zaz,or_eq_false_iff->zcv,or_eq_true->zbb,true_and->zao
open _root_.Go.Builtin renaming append_->YY,len_->zb5
open _root_.Classical renaming byContradiction->zb3
open _root_.Go.Code renaming cond->zda,region->zc3
open _root_.Go.Deferred renaming ofValue->zcw
open _root_.Go.Instr renaming entry->zde,keyThatStays->zc2,lookup->zcm,mapUpdate->zbz,next->zc9,range->zdd,storeAt->YN
open _root_.Int renaming toNat_natCast->YO
open _root_.Go.IntKind renaming bits->zc6,signed->zdm,wrap->YJ
open _root_.List renaming all_append->zbq,all_cons->zbo,all_eq_false->zcj,all_eq_true->ZJ,all_nil->zdj,append_assoc->zbh,append_nil->ZY,cons_append->zaq,drop_drop->zbt,drop_eq_getElem_cons->ZM,drop_eq_nil_of_le->zac,drop_length->zbm,drop_zero->za5,exists_cons_of_ne_nil->za3,ext_getElem?->zap,filter_cons->zb9,getD_eq_getElem?_getD->zbv,getElem?_append_left->zbn,getElem?_append_right->zbw,getElem?_eq_getElem->YR,getElem?_eq_some_iff->ZH,getElem?_map->zai,getElem?_modify->za7,getElem?_take->ZQ,getElem_mem->YW,getElem_of_mem->zbx,length->zam,length_append->ZC,length_cons->ZV,length_drop->zab,length_eq_zero_iff->zau,length_map->ZA,length_nil->zb7,length_pos_iff->ZX,length_take->za0,map_append->ZZ,map_cons->zae,map_map->za8,mem_append->ZG,mem_append_left->YZ,mem_append_right->ZL,mem_cons->YS,mem_cons_of_mem->YU,mem_cons_self->ZB,mem_filter->zcq,mem_flatMap->zbf,mem_iff_getElem->zbr,mem_iff_getElem?->zce,mem_map->za6,mem_of_getElem?->zbd,mem_range->zbc,mem_singleton->zaf,nil_append->zba,range->zak,replicate->zct,take_append_drop->zax,take_length->ZO,take_of_length_le->zag,take_succ_eq_append_getElem->YP,zip_cons_cons->zbe
open _root_.List.cons renaming injEq->za4
open _root_.Nat renaming eq_of_beq_eq_true->YT,le_of_ble_eq_true->zaw,le_refl->YM,lt_or_ge->zad,min_eq_left->zcz,mul_le_mul_right->ZF,mul_one->zb1,sub_zero->zc7,succ_mul->zcn,zero_add->ZP,zero_le->ZN
open _root_.Go.Op renaming bytesLess->zbi
open _root_.Option renaming bind_some->zbl,map_eq_some_iff->zbu
open _root_.Option.some renaming inj->ZS,injEq->YL
open _root_.Go.Region renaming wanted->ZT
open _root_.Go.Proofs.Tryz renaming prog->ZW
open _root_.UInt8 renaming ofNat->zas,toNat_inj->zb8
open _root_.Go.Utf8 renaming encode->zdg
open _root_.Go.Value renaming string->ZD
set_option linter.all false
set_option maxRecDepth 100000
namespace Go.X
end Go.X
namespace Go.Proofs
end Go.Proofs
open Go Go.X Go.Proofs
open _root_.Bool renaming true->Ta,false->Tb
open _root_.Option renaming some->Tc,none->Td
section
namespace Go.X
open Go Go.ChangeMaps
section
variable {h h':zc} {m r:Nat} {P:Program} {t kt et ty:TypeId} {K:Value -> zc -> Prop} {dn:List Value}
def MapW(h:zc)(m:Nat)(l:List (Value×Value)):Prop:=
 ∃c b,h[m]?=Tc (.map c b)/\c.toList.map (λe=>(e.key,e.val))=l/\(∀e∈c.toList,e.born<b)/\(c.toList.map (·.born)).Nodup
theorem MapW.keep{l:List (Value×Value)}(H:MapW h m l)(k:h'[m]?=h[m]?):MapW h' m l:=by obtain⟨b,c,h1,e⟩:=H;exact⟨b,c,k.trans h1,e⟩
theorem MapW.lt{l:List (Value×Value)}(H:MapW h m l):m<h.size:=by obtain⟨b,c,h1,e⟩:=H;grind
theorem MapW.new(h:zc):MapW (h.push (.map #[] 0)) h.size []:=⟨#[],0,xq _ _,rfl,by simp,by simp⟩
def eR(l:List (Bt×Value)):List (Value×Value):=l.map λp=>(ZD p.1,p.2)
theorem MapW.at{l:List (Bt×Value)}(H:MapW h m (eR l)):MapAt h m l:=by obtain⟨b,c,h1,e,_⟩:=H;exact⟨b,c,h1,e⟩
theorem NN{z:Value}(T:MapT P t kt et z){l:List (Bt×Value)}(H:MapW h m (eR l))(k:Bt)(v:Value){K:zc->Prop}
  (x:∀h':zc,MapW h' m (eR (iw l k v))->h'.size=h.size->(∀i,i≠m->h'[i]?=h[i]?)->K h'):XRunU P (zbz t (.map (Tc m)) (.string k) v) h K:=by
 have f:=H.lt;obtain⟨b,c,h1,r,M,J⟩:=H;intro B d;have C:=QExec.underlying (h:=h) T.map B d;have w:=Jp (P:=P) h1 B d;have D:=zU T.key Tb k h B d;have n:∀o:Obj,(setObj m o).run P (mk B d h)=.ok () (mk B d (h.setIfInBounds m o)):=by intro o;have:(mk B d h).heap[m]?=Tc (.map b c):=h1;simp[setObj,Sem.run,this];rfl
 unfold zbz;rcases Wj k b.toList l 0 r with⟨A,q⟩|⟨j,O,e,A,q,I,L,G,E⟩;refine⟨d,h.setIfInBounds m (.map (b.push { key:=.string k,val:=v,born:=c }) (c+1)),?_,x _ ⟨b.push { key:=.string k,val:=v,born:=c },c+1,by simp[f],?_,?_,?_⟩ (by simp) (λi hi=>by grind)⟩;rw[Sem.run_bind,C];simp only[Result.andThen_ok,Sem.run_bind,w,D];rw[Z0 T.key k b.toList Td h q B d];simp_all;rw[wN A];unfold eR at r ⊢;simp[r];grind;grind;have y:j<b.size:=by have:=(ZH.1 q).1;simpa using this
 have u:((b.modify j λe=>{ e with key:=.string k,val:=v }).toList.map (·.born))=b.toList.map (·.born):=by apply zap;intro i;simp only[Array.toList_modify,zai,za7];by_cases F:j=i;simp_all;simp_all
 refine⟨d,_,?_,x (h.setIfInBounds m (.map (b.modify j λe=>{ e with key:=.string k,val:=v }) c)) ⟨b.modify j λe=>{ e with key:=.string k,val:=v },c,by simp[f],?_,?_,?_⟩ (by simp) (λi hi=>by grind)⟩;rw[Sem.run_bind,C];simp only[Result.andThen_ok,Sem.run_bind,w,D];rw[Z0 T.key k b.toList _ h G B d];simp only[Result.andThen_ok,ZP];have p:((b[j]?).map (·.key)).getD (.string k)=.string k:=by
  have:b[j]?=Tc e:=by simpa using q
  rw[this];exact I
 rw[p];have N:zc2 (.string k) (.string k)=pure (.string k):=by unfold zc2;rw[zb (by show(k==k)=Ta;simp)]
 simp_all;have:=E v;unfold eR;grind;intro e' s;have:e'.born∈((b.modify j λe=>{ e with key:=.string k,val:=v }).toList.map (·.born)):=za6.2 ⟨e',s,rfl⟩;grind;simp_all
def MapIt(h:zc)(r m:Nat)(l:List (Value×Value))(dn:List Value):Prop:=
 ∃k f b i c,h[r]?=Tc (.mapIter (Tc m) b i c)/\h[m]?=Tc (.map k f)/\k.toList.map (λe=>(e.key,e.val))=l/\(∀e∈k.toList,e.born<b)/\b<=c/\b<=f/\(k.toList.map (·.born)).Nodup /\
  ∀e∈k.toList,i.contains e.born=Ta↔e.key∈dn
theorem MapIt.keep{l:List (Value×Value)}(H:MapIt h r m l dn)(i:h'[r]?=h[r]?)(k2:h'[m]?=h[m]?):MapIt h' r m l dn:=by obtain⟨n,e,b,f,c,h1,k,o⟩:=H;exact⟨n,e,b,f,c,i.trans h1,k2.trans k,o⟩
def G9(h:zc)(r m:Nat)(k v:Value):Prop:=
 ∃(i:Array MapEntry) (b c:Nat) (f:Array Nat) (e:MapEntry),h[r]?=Tc (.mapIter (Tc m) c (f.push e.born) b)/\h[m]?=Tc (.map i b)/\e∈i.toList/\(i.toList.map (·.born)).Nodup/\e.key=k/\e.val=v
theorem EF(q:P.underlying t=Tc (.map kt et)){l:List (Value×Value)}(H:MapW h m l)
  (r:∀h',h'.size=h.size+1->Keep h.size h h'->MapIt h' h.size m l []->K (.pointer (Tc ⟨h.size,0,Td⟩)) h'):xd P (zdd t (.map (Tc m))) h K:=by
 have b:=H.lt;obtain⟨k,c,h1,f,o,i⟩:=H;intro B d;have n:=QExec.underlying (h:=h) q B d;have p:=Jp (P:=P) h1 B d;refine⟨.pointer (Tc ⟨h.size,0,Td⟩),d,h.push (.mapIter (Tc m) c #[] c),?_,r _ (by simp) (Keep.push _ _ (YM _)) ⟨k,c,c,#[],c,xq _ _,?_,f,o,YM _,YM _,i,λe s=>by simp⟩⟩;unfold zdd;rw[Sem.run_bind,n];simp only[Result.andThen_ok,Sem.run_bind,p,Sem.run_pure];rfl;grind
theorem Rl{c:List MapEntry}(h:(c.map (·.born)).Nodup){a b:MapEntry}(f:a∈c)(k:b∈c)(e:a.born=b.born):a=b:=by
 induction c with
 |nil=>cases f
 |cons x c i=>grind
theorem U7{c:List MapEntry}(h:(c.map (·.key)).Nodup){a b:MapEntry}(f:a∈c)(k:b∈c)(e:a.key=b.key):a=b:=by
 induction c with
 |nil=>cases f
 |cons x c i=>grind
def leftN(h:zc)(r m:Nat):Nat:=match h[r]?,h[m]? with
 |some (.mapIter _ _ seen _),Tc (.map es _)=>(es.toList.filter λe=>!seen.contains e.born).length
 |_,_=>0
theorem leftN.keep(b:h'[r]?=h[r]?)(k2:h'[m]?=h[m]?):leftN h' r m=leftN h r m:=by unfold leftN;rw[b,k2]
theorem Hg{α:Type}{p q:α->Bool}(h:∀x,p x=Ta->q x=Ta):∀l:List α,(l.filter p).length<=(l.filter q).length
 |[]=>YM _
 |x::l=>by have:=Hg h l;grind
theorem filter_lt{α:Type}{p q:α->Bool}(h:∀x,p x=Ta->q x=Ta){e:α}(h1:p e=Tb)(c:q e=Ta):∀l:List α,e∈l->(l.filter p).length<(l.filter q).length
 |[],b=>by cases b
 |x::l,b=>by rw[zb9,zb9];rcases YS.1 b with rfl|b;have:=Hg h l;grind;have:=filter_lt h h1 c l b;grind
theorem D7{l:List (Value×Value)}(H:MapIt h r m l dn)(Z:(l.map (·.1)).Nodup)(F:r≠m) (w:(∀p∈l,p.1∈dn)->K (.tuple #[.bool Tb]) h) (t:∀k v,(k,v)∈l->k∉dn->∀h',MapIt h' r m l (k::dn)->G9 h' r m k v->h'.size=h.size->(∀j,j≠r->h'[j]?=h[j]?)->leftN h' r m<leftN h r m->K (.tuple #[.bool Ta,k,v]) h'):
  xd P (zc9 (.pointer (Tc ⟨r,0,Td⟩)) Tb ty) h K:=by
 obtain⟨o,b,f,i,c,h1,A,D,I,V,N,G,J⟩:=H;intro B d;have U:(o.toList.map (·.key)).Nodup:=by
  have e:o.toList.map (·.key)=l.map (·.1):=by rw[<-D,za8];rfl
  rw[e];exact Z
 rcases run_next_at (P:=P) (mk B d h) ty r m f c i o b h1 A I V with⟨O,z⟩|⟨e,L,S,Q,z⟩;refine⟨_,d,h,z,w λp M=>?_⟩;rw[<-D]at M;obtain⟨x,u,rfl⟩:=za6.1 M;refine(J x u).1 ?_;have:leftOf o i=#[]:=Array.eq_empty_of_size_eq_zero O;unfold leftOf at this;simp_all;have n:e∈o.toList/\i.contains e.born=Tb:=by unfold leftOf at L;simpa using L
 have Y:r<h.size:=(YV.1 h1).1;have y:∃C,setBlock S r (.mapIter (Tc m) f (i.push e.born) b)=mk B C (h.setIfInBounds r (.mapIter (Tc m) f (i.push e.born) b)):=by rcases Q with rfl|rfl;exact⟨d,rfl⟩;exact⟨d+1,rfl⟩
 obtain⟨C,E⟩:=y;rw[E]at z;have q:(h.setIfInBounds r (.mapIter (Tc m) f (i.push e.born) b))[m]?=Tc (.map o b):=by rw[zb2 F];exact A
 have s:(h.setIfInBounds r (.mapIter (Tc m) f (i.push e.born) b))[r]?=Tc (.mapIter (Tc m) f (i.push e.born) b):=by simp[Y]
 refine⟨_,C,_,z,t e.key e.val (by grind) (λhm=>?_) _ ⟨o,b,f,i.push e.born,b,s,q,D,I,N,N,G,λx u=>?_⟩ ⟨o,b,f,i,e,s,q,n.1,G,rfl,rfl⟩ (by simp) (λj hj=>by grind) ?_⟩;grind;rw[YS,<-J x u];simp only[Array.contains_eq_mem,Array.mem_push,zA];constructor;rintro(h|h);exact .inr h;exact .inl (by rw[Rl G u n.1 h]);rintro(h|h);exact .inr (by rw[U7 U u n.1 h]);exact .inl h;unfold leftN;rw[s,q,h1,A];refine filter_lt (e:=e) (λx u=>?_) ?_ ?_ _ n.1;simp_all;simp;grind
theorem D9{k v:Value}(H:G9 h r m k v)(o:K (.tuple #[k,v]) h):xd P (zde (.pointer (Tc ⟨r,0,Td⟩))) h K:=by obtain⟨n,c,b,f,e,h1,i,p,l,rfl,rfl⟩:=H;intro B d;exact⟨_,d,h,run_entry_at (P:=P) (mk B d h) r m b f n c e h1 i p l,o⟩
theorem EI(k:P.underlying t=Tc (.map kt et)){l:List (Value×Value)}(H:MapW h m l):QExec P (zb5 #[t] ty #[.map (Tc m)]) h (.int .i64 (l.length:Int)):=by
 obtain⟨f,c,h1,e,_⟩:=H;intro B d;have i:=QExec.underlying (h:=h) k B d;have n:=Jp (P:=P) h1 B d;have b:l.length=f.size:=by rw[<-e];simp
 simp[zb5,i,n,goInt,b]
end
end Go.X
end
section
namespace Go.X
open Go Go.X Go.Proofs Go.Lib
section
theorem mapVal:MapT Tp 137 9 25 (.agg #[.int .i64 0,.string ⟨#[]⟩,.slice Td 0 0,.slice Td 0 0]):=⟨by kernel_rfl,by kernel_rfl,⟨Tryz.t25,by kernel_rfl,by kernel_rfl⟩⟩
theorem Gr(k:Bt):∀(ks:List Bt) (us:List Value) (i:Nat),ks.length=us.length->(idxFromS ks k i=-1/\fh (ks.zip us) k=Td)\/∃j u,idxFromS ks k i=((i+j:Nat):Int)/\us[j]?=Tc u/\fh (ks.zip us) k=Tc u
 |[],[],_,_=>.inl ⟨rfl,rfl⟩
 |z::ks,u::us,i,h=>by unfold idxFromS;rw[zbe,fh];by_cases b:z=k;grind;rw[za b,za b];rcases Gr k ks us (i+1) (by simpa using h)with h1|⟨j,w,h1,c,e⟩;grind;exact .inr ⟨j+1,w,by omega,by simpa using c,e⟩
 |[],_::_,_,h=>by simp at h
 |_::_,[],_,h=>by simp at h
theorem VE{l:List (Bt×Value)}{k:Bt}(h:k∉l.map (·.1)):fh l k=Td:=by
 induction l with
 |nil=>rfl
 |cons p l b=>simp only[zae,YS,not_or]at h;rw[fh,za (λe=>h.1 e.symm),b h.2]
theorem SK{α β:Type}{xs:List α}{ys:List β}{k:Nat}(b:k<xs.length){u:β}(c:ys.length=k):(xs.take (k+1)).zip (ys++[u])=(xs.take k).zip ys++[(xs[k],u)]:=by rw[YP b,List.zip_append (by simp;omega)];rfl
set_option maxHeartbeats 1000000 in
theorem u7{v:Tr}(P:v.keys.Nodup)(hl:v.keys.length=v.items.length)(hi:v.items.length<=1000000000000){h:zc}{M:Fr}{u:Value}(ag:AgM M h)(L:RdV M .tree v u){K:Value->zc->Prop} (hK:∀(h':zc) (m:Nat) (us:List Value),Keep h.size h h'->h.size<=m->us.length=v.items.length->(∀i (h1:i<v.items.length) (l:i<us.length),RdV M .tree v.items[i] us[i])->MapW h' m (eR (v.keys.zip us))->K (.map (Tc m)) h'):
  XC Tp 108 #[u] h K:=by
 obtain⟨sk,si,rfl,z,C⟩:=ye L;obtain⟨lk,_,_⟩:=rowLen z;obtain⟨li,_,_⟩:=rowLen C;apply Vr v.kind v.text sk si;intro h1;obtain⟨D,Z,b1⟩:=jo (g:=h1) rfl;clear_value h1;refine⟨sk,b1.cellAdd (by rfl),?_⟩;intro b;have y:Keep h1.size h1 b:=Keep.push _ _ (YM _);have G:MapW b h1.size []:=MapW.new _;have z3:b.size=h1.size+1:=ZI _;clear_value b;have b3:=b1.ofKeep y;have H:Keep h.size h b:=D.trans y (by omega);refine⟨sk,b3.cellAdd (by rfl),λx g=>∃(k:Nat) (us:List Value),x=(k:Int)/\k<=v.items.length/\us.length=k/\g.size=b.size/\(∀j,j≠h1.size->g[j]?=b[j]?)/\(∀i (h1:i<v.items.length) (l:i<us.length),RdV M .tree v.items[i] us[i])/\MapW g h1.size (eR ((v.keys.take k).zip us)),λx _=>v.items.length-x.toNat,⟨0,[],rfl,ZN _,rfl,rfl,λ_ _=>rfl,λi _ l=>by simp at l,by simpa[eR]using G⟩,?_⟩;rintro x g ⟨k,us,rfl,Y,n,V,s,hr,I⟩;have E:Keep h.size h g:=⟨by omega,λj q=>by rw[s j (by omega)];exact H.get j q⟩;have agg:=ag.keep E;refine⟨λw=>?_,λw=>?_⟩;have f:k<v.keys.length:=by rw[lk]at w;simp at w;omega
 have p:k<v.items.length:=by omega
 refine jt agg z f rfl rfl ?_;have J:Blk g h.size (jm v.kind v.text sk si).toArray:=b3.keep (s _ (by omega));obtain⟨a,A,B,U,t,F,Q⟩:=Xt agg C p;refine⟨si,J.cellAdd (by rfl),a,⟨U,by omega,by omega⟩,v.items[k].kind,v.items[k].text,A,B,?_,?_⟩;rw[YO];exact t;refine NN mapVal I v.keys[k] _ λg' o N r=>?_;rw[qd p (by omega)];refine⟨⟨k+1,us++[.agg #[.int .i64 v.items[k].kind,.string v.items[k].text,aK A,aK B]],rfl,by omega,by simp;omega,by omega,λj q=>(r j q).trans (s j q),λi h1 l=>?_,?_⟩,by grind⟩;rw[List.getElem_append];split;grind;rename_i b;have:i=k:=by simp at l;omega
 subst this;simp only[n,Nat.sub_self,List.getElem_cons_zero];exact zj F Q;rw[SK f n];have c:fh ((v.keys.take k).zip us) v.keys[k]=Td:=VE λS=>by
  rw[List.map_fst_zip (by simp;omega)]at S;have O:=P;have e:v.keys=v.keys.take k++v.keys[k]::v.keys.drop (k+1):=by rw[<-ZM f,zax]
  grind
 rw[wN c]at o;exact o;grind
end
end Go.X
end
section
namespace Go.X
section
theorem UO(gl:Fr)(a0:Tr)(b1:Tr)(R:Bool->Prop) (H:PC Tp gl 65 [Arg.mk .tree (Tr.mk a0.kind a0.text a0.keys a0.items)] [.bool] (λa:Bool=>∃b:Bool->Prop,(a=Ta->PC Tp gl 65 [Arg.mk .tree (Tr.mk b1.kind b1.text b1.keys b1.items)] [.bool] b)/\∀c:Bool,(a=Ta->b c)->∃d:Bool->Prop,((bif a then c else Tb)=Ta->PC Tp gl 265 [Arg.mk .tree (Tr.mk a0.kind a0.text a0.keys a0.items),Arg.mk .tree (Tr.mk b1.kind b1.text b1.keys b1.items)] [.bool] d)/\∀e:Bool,((bif a then c else Tb)=Ta->d e)->R (bif (bif a then c else Tb)then e else Tb))):
  PC Tp gl 198 [Arg.mk .tree a0,Arg.mk .tree b1] [.bool] R:=
 PF ⟨[],[],[],[]⟩ [.tmp 4] 16 Tryz.func198 H
theorem KX(gl:Fr)(f:Tr)(R:Bool->Prop) (H:PC Tp gl 92 [Arg.mk .tree (Tr.mk f.kind f.text f.keys f.items)] [.int .i64] (λa:Int=>∃b:Int->Prop,(decide (a<=4096)=Ta->PC Tp gl 93 [Arg.mk .tree (Tr.mk f.kind f.text f.keys f.items)] [.int .i64] b)/\∀c:Int,(decide (a<=4096)=Ta->b c)->∃d:Bool->Prop,((bif (decide (a<=4096))then(decide (c<=32))else Tb)=Ta->PC Tp gl 94 [Arg.mk .tree (Tr.mk f.kind f.text f.keys f.items),Arg.mk .bool Tb] [.bool] d)/\∀e:Bool,((bif (decide (a<=4096))then(decide (c<=32))else Tb)=Ta->d e)->R (bif (bif (decide (a<=4096))then(decide (c<=32))else Tb)then e else Tb))):
  PC Tp gl 50 [Arg.mk .tree f] [.bool] R:=
 PF ⟨[],[],[],[]⟩ [.tmp 2] 15 Tryz.func50 H
theorem Xv(gl:Fr)(f:Tr)(e:Bt)(R:Int->Prop) (H:∃(a:Int->Prop) (b:Int->Nat),a 0/\∀c:Int,a c->((decide (c<f.keys.length)=Ta->∃d,(0<=c/\f.keys[c.toNat]?=Tc d)/\((d.toList==e.toList)=Ta->R c)/\((d.toList==e.toList)=Tb->(a (YJ .i64 (c+1))/\b (YJ .i64 (c+1))<b c)))/\(decide (c<f.keys.length)=Tb->R (-1)))):
  PC Tp gl 328 [Arg.mk .tree f,Arg.mk .str e] [.int .i64] R:=
 PF ⟨[],[],[(2,⟨[(5,.one (.dat (.int .i64)))],[],[2],[100320]⟩)],[]⟩ [.tmp 4] 21 Tryz.func328 H
end
end Go.X
end
section
namespace Go.X
open Go Go.Lib
section
mutual
def gw:Tr->Nat | .mk _ _ ks xs=>1+ks.length+fT xs
def fT:List Tr->Nat | []=>0|x::l=>gw x+fT l
end
theorem NZ(v:Tr):gw v=1+v.keys.length+fT v.items:=by cases v;rw[gw]
theorem Hb:∀a b:List Tr,fT (a++b)=fT a+fT b
 |[],b=>by simp[fT]
 |x::l,b=>by rw[zaq,fT,fT,Hb l b];omega
theorem U8{l:List Tr}{k:Nat}(b:k<l.length):fT (l.take (k+1))=fT (l.take k)+gw l[k]:=by rw[YP b,Hb];simp[fT]
mutual
theorem s9:∀v:Tr,bK v<=gw v
 |.mk k s ks xs=>by rw[bK,gw];have:=GF xs;omega
theorem GF:∀l:List Tr,Yr l<=fT l
 |[]=>by simp[Yr,fT]
 |x::l=>by rw[Yr,fT];have:=s9 x;have:=GF l;omega
end
mutual
def jn:Tr->Prop | .mk _ s ks xs=>(s.size<=2048/\∀k∈ks,k.size<=1024)/\kO xs
def kO:List Tr->Prop | []=>True|x::l=>jn x/\kO l
end
theorem SI(v:Tr):jn v↔(v.text.size<=2048/\∀k∈v.keys,k.size<=1024)/\kO v.items:=by cases v;rw[jn]
theorem BN:∀{l:List Tr},kO l↔∀x∈l,jn x
 |[]=>by simp[kO]
 |x::l=>by rw[kO,BN];simp
mutual
theorem AI:∀(v:Tr),gw v<=1000000->jn v->ge 1048576 v
 |.mk k s ks xs,h,g=>by rw[gw]at h;rw[jn]at g;rw[ge];exact⟨⟨by omega,by omega,λk b=>by grind⟩,BM xs (by omega) g.2⟩
theorem BM:∀(l:List Tr),fT l<=1000000->kO l->gM 1048576 l
 |[],_,_=>by rw[gM];trivial
 |x::l,h,g=>by rw[fT]at h;rw[kO]at g;rw[gM];exact⟨AI x (by omega) g.1,BM l (by omega) g.2⟩
end
theorem Sm.few{v:Tr}(h:gw v<=1000000)(g:jn v):Sm v:=⟨by have:=s9 v;omega,AI v h g⟩
end
section
variable {α:Type}
structure IsCmp {α:Type} (c:α->α->Int):Prop where
 rng:∀a b,c a b=-1\/c a b=0\/c a b=1
 eq0:∀a b,c a b=0↔a=b
 swap:∀a b,c b a=-c a b
 tr:∀a b d,c a b<=0->c b d<=0->c a d<=0
def fm{α:Type}(c:α->α->Int):List α->List α->Int
 |[],[]=>0
 |[],_::_=>-1
 |_::_,[]=>1
 |a::l,b::m=>if c a b=0 then fm c l m else c a b
theorem DN{c:α->α->Int}(H:IsCmp c):IsCmp (fm c) where
 rng:=by
  intro a;induction a with
  |nil=>intro b;cases b <;> simp[fm]
  |cons x a ih=>
   intro b;cases b with
   |nil=>simp[fm]
   |cons y b=>rw[fm];by_cases h:c x y=0;simp_all;rw[za h];exact H.rng x y
 eq0:=by
  intro a;induction a with
  |nil=>intro b;cases b <;> simp[fm]
  |cons x a ih=>
   intro b;cases b with
   |nil=>simp[fm]
   |cons y b=>rw[fm,za4,<-H.eq0 x y];grind
 swap:=by
  intro a;induction a with
  |nil=>intro b;cases b <;> simp[fm]
  |cons x a ih=>
   intro b;cases b with
   |nil=>simp[fm]
   |cons y b=>rw[fm,fm,H.swap x y];grind
 tr:=by
  intro a;induction a with
  |nil=>intro b d h1 h2;cases d <;> simp[fm]
  |cons x a ih=>
   intro b d h1 h2;cases b with
   |nil=>simp[fm]at h1
   |cons y b=>
    cases d with
    |nil=>simp[fm]at h2
    |cons z d=>rw[fm]at h1 h2 ⊢;by_cases hxy:c x y=0;have:=(H.eq0 x y).1 hxy;grind;rw[za hxy]at h1;by_cases hyz:c y z=0;have:=(H.eq0 y z).1 hyz;simp_all;rw[za hyz]at h2;have h3:=H.tr x y z h1 h2;by_cases hxz:c x z=0;have:=(H.eq0 x z).1 hxz;subst this;have:=H.swap x y;omega;omega
theorem QC{c:α->α->Int}(H:IsCmp c)(p x y:List α):fm c (p++x) (p++y)=fm c x y:=by
 induction p with
 |nil=>rfl
 |cons a p b=>rw[zaq,zaq,fm,zb ((H.eq0 a a).2 rfl),b]
def ig(a b:UInt8):Int:=if a.toNat<b.toNat then -1 else if a.toNat=b.toNat then 0 else 1
theorem cmpU_is:IsCmp ig where
 rng:=λa b=>by unfold ig;omega
 eq0:=λa b=>by unfold ig;rw[<-zb8];omega
 swap:=λa b=>by unfold ig;omega
 tr:=λa b d=>by unfold ig;omega
def fk:Bs->Bs->Int:=fm ig
theorem cmpS_is:IsCmp fk:=DN cmpU_is
theorem Ed:∀a b:Bs,zbi a b=decide (fk a b=-1)
 |[],[]=>by simp[zbi,fk,fm]
 |[],_::_=>by simp[zbi,fk,fm]
 |_::_,[]=>by simp[zbi,fk,fm]
 |a::l,b::m=>by
  have c:=Ed l m;unfold fk at c ⊢;rw[fm,zbi,c];by_cases h:a<b;have:ig a b=-1:=by unfold ig;rw[zb (UInt8.lt_iff_toNat_lt.1 h)]
  simp[h,this];by_cases f:a=b;subst f;simp[(cmpU_is.eq0 a a).2 rfl,h];have:ig a b=1:=by unfold ig;rw[za (λe=>h (UInt8.lt_iff_toNat_lt.2 e)),za (λe=>f (zb8.1 e))]
  grind
def cmpL:List Bs->List Bs->Int:=fm fk
theorem cmpL_is:IsCmp cmpL:=DN cmpS_is
theorem N0{a b:List Bs}{k:Nat}(h:a.take k=b.take k):cmpL a b=cmpL (a.drop k) (b.drop k):=by have:=QC cmpS_is (a.take k) (a.drop k) (b.drop k);rw[zax,h,zax]at this;exact this
end
section
def vo(l:Bs):Prop:=∀c∈l,c.toNat<128
theorem Hh(cs:Bs):∀l:Bs,containsAny l cs=l.any λc=>cs.contains c
 |[]=>by simp[containsAny,indexAny]
 |c::l=>by have e:=Hh cs l;have b:=indexAny_ge cs l;rw[List.any_cons,<-e];unfold containsAny;rw[indexAny];grind
end
section
variable {v:Tr}
theorem oO(x:Bt):∀(l:List Bt) (i:Nat),(idxFromS l x i=-1/\x∉l)\/∃k:Nat,idxFromS l x i=((i+k:Nat):Int)/\k<l.length/\l[k]?=Tc x
 |[],i=>.inl ⟨rfl,by simp⟩
 |z::l,i=>by unfold idxFromS;by_cases h:z=x;rw[zb h];exact .inr ⟨0,rfl,by simp,by simp[h]⟩;rw[za h];rcases oO x l (i+1)with⟨h1,b⟩|⟨k,h1,b,c⟩;grind;exact .inr ⟨k+1,by omega,by simp;omega,by simpa using c⟩
theorem ql{q:Tr->Bool}{v x:Tr}(h:Q4 q v=Ta)(b:x∈v.items):Q4 q x=Ta:=by rw[Yj,ZE,wo,ZJ]at h;exact h.2 x b
theorem qm{q:Tr->Bool}(h:Q4 q v=Ta):q v=Ta:=by rw[Yj,ZE]at h;exact h.1
end
end Go.X
end
section
namespace Go.X
open Go Go.RowKit
section
theorem LM{n:Nat}{c:Nat->List Nat}:((zak n).flatMap c).Nodup↔(∀i,i<n->(c i).Nodup)/\∀i j,i<j->j<n->∀x∈c i,∀y∈c j,x≠y:=by unfold List.Nodup;rw[List.pairwise_flatMap,List.pairwise_iff_getElem];constructor;rintro⟨h1,f⟩;refine⟨λi hi=>h1 i (by simpa using hi),λi j b e=>?_⟩;have:=f i j (by simp;omega) (by simpa using e) b;simpa using this;rintro⟨h1,f⟩;refine⟨λi hi=>h1 i (by simpa using hi),λi j hi e b=>?_⟩;simp at hi e;simpa using f i j b e
end
end Go.X
end
section
namespace Go.X
open Go Go.Lib
section
def zT:Tr:=.mk 0 ⟨#[]⟩ [] []
end
section
theorem P5{c:UInt8}(h:qy c=Ta):48<=c.toNat/\c.toNat<=57:=by simpa[qy]using h
theorem rR{x:Bt}{l:List Bt}{k:Nat}(h:idxOfS l x=(k:Int)):l[k]?=Tc x:=by rcases oO x l 0 with⟨h1,_⟩|⟨j,h1,b,c⟩;unfold idxOfS at h;omega;unfold idxOfS at h;grind
end
end Go.X
end
section
namespace Go.X
open Go Go.RowKit
section
variable {h:zc} {v:Tr} {sk si:Sl} {bk bb:List Nat} {b n i k:Nat} {cs:Array Value} {cw:List Value}
structure OTp (h:zc) (v:Tr) (sk si:Sl) (bk bb:List Nat) (b:Nat) (cs:Array Value) (bf:Nat->List Nat):Prop where
 keys:OKeys h v.keys bk sk
 hn:si.len=v.items.length/\v.items.length<=140737488355328/\v.items.length<=si.cap
 hz:(v.items=[]/\bb=[]/\si.cap=0)\/(bb=[b]/\si.a=Tc ⟨b,0,Td⟩/\Blk h b cs/\si.cap*4<=cs.size)
 hi:∀i (hx:i<v.items.length),OT h v.items[i] (bf i) (cut cs (i*4) 4)
 nk:bk.Nodup
 d1:∀c∈bk,c∉bb
 d2:∀c∈bk,∀i,i<v.items.length->c∉bf i
 d3:∀c∈bb,∀i,i<v.items.length->c∉bf i
 d4:∀i j,i<v.items.length->j<v.items.length->i≠j->∀c∈bf i,c∉bf j
def Qt(v:Tr)(sk si:Sl):List Value:=[.int .i64 v.kind,.string v.text,aK sk,aK si]
theorem OTp.ot{m:Nat->List Nat}(H:OTp h v sk si bk bb b cs m):OT h v (bk++(bb++(zak v.items.length).flatMap m)) (Qt v sk si):=by obtain⟨k,s,ks,xs⟩:=v;refine OT.mk (b:=b) (cs:=cs) H.keys H.hn H.hz H.hi ?_;rw[List.nodup_append];refine⟨H.nk,?_,λx f y c e=>?_⟩;rw[List.nodup_append];refine⟨?_,LM.2 ⟨λi hi=>(H.hi i hi).nodup,λi j l n x f y c e=>?_⟩,λx f y c e=>?_⟩;rcases H.hz with⟨_,e,_⟩|⟨e,_⟩;simp_all;rw[e];simp;subst e;exact H.d4 i j (Nat.lt_trans l n) n (by omega) x f c;subst e;obtain⟨i,hi,c⟩:=zbf.1 c;exact H.d3 x f i (by simpa using hi) c;subst e;rcases ZG.1 c with c|c;exact H.d1 x f c;obtain⟨i,hi,c⟩:=zbf.1 c;exact H.d2 x f i (by simpa using hi) c
theorem Na{b:Nat->List Nat}{n c:Nat}:c∈bk++(bb++(zak n).flatMap b)↔c∈bk\/c∈bb\/∃i,i<n/\c∈b i:=by simp
theorem uY(h:i+4<=n):cut cs i 4=((cut cs 0 n).drop i).take 4:=by unfold cut;rw[za5,List.drop_take,List.take_take,zcz (by omega)]
theorem Nn{α:Type}{xs:List α}{w:α}(b:k<=xs.length)(h:i<(xs.take k++w::xs.drop k).length):
  (i<k/\∃h':i<xs.length,(xs.take k++w::xs.drop k)[i]=xs[i])\/(i=k/\(xs.take k++w::xs.drop k)[i]=w)\/(k<i/\∃h':i-1<xs.length,(xs.take k++w::xs.drop k)[i]=xs[i-1]):=by
 grind
theorem Oq{c cw:List Value}(h:c.length=n*4)(b:cw.length=4)(f:k<=n):
  (∀i,i<k->((c.take (k*4)++cw++c.drop (k*4)).drop (i*4)).take 4=(c.drop (i*4)).take 4)/\((c.take (k*4)++cw++c.drop (k*4)).drop (k*4)).take 4=cw/\∀i,k<i->((c.take (k*4)++cw++c.drop (k*4)).drop (i*4)).take 4=(c.drop ((i-1)*4)).take 4:=by
 have e:(c.take (k*4)).length=k*4:=by rw[za0];omega
 refine⟨λi hi=>?_,?_,λi hi=>?_⟩;apply zap;intro j;rw[ZQ,ZQ];grind;simp_all;rw[List.drop_append,zac (by grind),zba,ZC,e,b,zbt];congr 2;omega
theorem OTp.ins{h h':zc}{q:Nat->List Nat}(H:OTp h v sk si bk bb b cs q)(G:k<=v.items.length){w:Tr}{bw:List Nat}(Z:OT h' w bw cw) (J:∀i,i<v.items.length->∀c∈q i,h'[c]?=h[c]?) {p:Sl} {s:Nat} {cs':Array Value} (e1:p.a=Tc ⟨s,0,Td⟩) (Q:Blk h' s cs') (e3:p.len=v.items.length+1) (e4:v.items.length+1<=p.cap) (L:p.cap*4<=cs'.size) (e6:v.items.length+1<=140737488355328) (P:cut cs' 0 ((v.items.length+1)*4)=(cut cs 0 (v.items.length*4)).take (k*4)++cw++(cut cs 0 (v.items.length*4)).drop (k*4)) (ab:∀i,i<v.items.length->s∉q i) (B:s∉bw) (I:∀c∈bw,∀i,i<v.items.length->c∉q i) {x:List Bt} {z:Sl} {o:List Nat} (ok:OKeys h' x o z) (nk:o.Nodup) (O:s∉o) (M:∀c∈o,∀i,i<v.items.length->c∉q i) (aa:∀c∈o,c∉bw):
  OTp h' (.mk v.kind v.text x (v.items.take k++w::v.items.drop k)) z p o [s] s cs' (λi=>if i<k then q i else if i=k then bw else q (i-1)):=by
 have l:(v.items.take k++w::v.items.drop k).length=v.items.length+1:=by simp;omega
 have E:∀i (C:i<v.items.length),(cut cs 0 (v.items.length*4)).length=v.items.length*4:=by intro i C;rcases H.hz with⟨h0,_⟩|⟨_,_,_,Y⟩;simp_all;unfold cut;simp;have:=H.hn.2.2;omega
 have A:(cut cs 0 (v.items.length*4)).length=v.items.length*4:=by
  by_cases h0:0<v.items.length;exact E 0 h0;have:v.items.length=0:=by omega
  rw[this];unfold cut;simp
 have F:cw.length=4:=Z.len;obtain⟨c1,c2,V⟩:=Oq A F G;have y:∀i,i<v.items.length+1->∀c,c∈(if i<k then q i else if i=k then bw else q (i-1))->(∃j,j<v.items.length/\c∈q j)\/c∈bw:=by intro i hi c m;split at m;grind;split at m;grind;exact .inl ⟨i-1,by omega,m⟩
 refine⟨ok,⟨by simp_all,by simp_all,by simp_all⟩,.inr ⟨rfl,e1,Q,L⟩,λi C=>?_,nk,λc m f=>?_,λc m i hi f=>?_,λc m i hi f=>?_,λi j hi D N c m f=>?_⟩;have t:i<(v.items.take k++w::v.items.drop k).length:=C;have S:i<v.items.length+1:=by rw[<-l];exact t
 rw[uY (n:=(v.items.length+1)*4) (by omega),P];show OT h' (v.items.take k++w::v.items.drop k)[i] _ _;rcases Nn G t with⟨hi,u,e⟩|⟨hi,e⟩|⟨hi,u,e⟩;rw[e,zb hi,c1 i hi,<-uY (by omega)];exact(H.hi i u).frame (J i u);simp_all;rw[e,za (by omega),za (by omega),V i hi,<-uY (by omega)];exact(H.hi (i-1) u).frame (J (i-1) u);simp_all;have r:i<v.items.length+1:=by rw[<-l];exact hi
 rcases y i r c f with⟨j,D,f⟩|f;simp_all;grind;have r:i<v.items.length+1:=by rw[<-l];exact hi
 simp at m;subst m;rcases y i r c f with⟨j,D,f⟩|f;grind;exact B f
 ·have r:i<v.items.length+1:=by rw[<-l];exact hi
  have U:j<v.items.length+1:=by rw[<-l];exact D
  try simp only at m f
  split at m;split at f;grind [d4];split at f;grind;exact H.d4 i (j-1) (by omega) (by omega) (by omega) c m f;split at m;split at f;grind;split at f;omega;exact I c m (j-1) (by omega) f;split at f;exact H.d4 (i-1) j (by omega) (by omega) (by omega) c m f;split at f;exact I c f (i-1) (by omega) m;exact H.d4 (i-1) (j-1) (by omega) (by omega) (by omega) c m f
end
end Go.X
end
section
namespace Go.X
open Go Go.Lib
section
mutual
def zr:Tr->Tr->Bool
 |.mk k s ks xs,b=>decide (k=b.kind)&&(decide (s=b.text)&&(decide (xs.length=b.items.length)&&(if k=6 then kz ks xs b else kP xs b.items)))
def kP:List Tr->List Tr->Bool
 |[],[]=>Ta
 |x::l,y::m=>zr x y&&kP l m
 |_,_=>Tb
def kz:List Bt->List Tr->Tr->Bool
 |_,[],_=>Ta
 |[],_::_,_=>Tb
 |k::ks,x::xs,b=>(match b.items[(idxOfS b.keys k).toNat]? with
  |some y=>decide (0<=idxOfS b.keys k)&&zr x y
  |none=>Tb)&&kz ks xs b
end
theorem Yl{v:Tr}(h:zn v=Ta)(b:v.kind=6):v.keys.length=v.items.length:=by unfold zn at h;simp_all
end
section
theorem tH{v:Tr}(h:Zp v=Ta):Q4 zn v=Ta:=by unfold Zp at h;simp_all
end
section
def gR(b:List Bt)(ys:List Tr)(q:Tr->Tr->Bool)(k:Bt)(x:Tr):Bool:=match ys[(idxOfS b k).toNat]? with
 |some y=>decide (0<=idxOfS b k)&&q x y
 |none=>Tb
theorem zW(b:Tr):∀(ks:List Bt) (xs:List Tr),ks.length=xs.length->kz ks xs b=(ks.zip xs).all λp=>gR b.keys b.items zr p.1 p.2
 |[],[],_=>by simp[kz]
 |k::ks,x::xs,h=>by rw[kz,zW b ks xs (by simpa using h)];rfl
 |[],_::_,h=>by simp at h
 |_::_,[],h=>by simp at h
theorem uo:∀(xs ys:List Tr),xs.length=ys.length->kP xs ys=(xs.zip ys).all λp=>zr p.1 p.2
 |[],[],_=>by simp[kP]
 |x::xs,y::ys,h=>by rw[kP,uo xs ys (by simpa using h)];rfl
 |[],_::_,h=>by simp at h
 |_::_,[],h=>by simp at h
theorem mW(a b:Tr):zr a b=(decide (a.kind=b.kind)&&(decide (a.text=b.text)&&(decide (a.items.length=b.items.length)&&(if a.kind=6 then kz a.keys a.items b else kP a.items b.items)))):=by cases a;rw[zr]
theorem Pv{ks:List Bt}{k:Bt}{j:Nat}(h:idxOfS ks k=(j:Int)):j<ks.length:=by rcases oO k ks 0 with⟨h1,_⟩|⟨i,h1,b,_⟩;unfold idxOfS at h;omega;unfold idxOfS at h;omega
end
end Go.X
end
section
namespace Go.X
open Go Go.X Go.Proofs Go.Lib
section
variable {gl M:Fr} {F:FuncId} {xs ys:List Tr} {h:zc}
theorem TY(hF:zx Tp F=Ta){q:Tr->Tr->Bool}(hp:∀x∈xs,∀y∈ys,PC Tp gl F [Arg.mk .tree x,Arg.mk .tree y] [.bool] (λr=>r=q x y)){s1 s2:Sl}(hM:Fr.le gl M)(ag:AgM M h) (r1:Rd M (.row .tree) xs [aK s1]) (r2:Rd M (.row .tree) ys [aK s2]):
  PX Tp 324 #[aK s1,aK s2,.func (.func F) #[] #[]] h M [.bool] (λr=>r=(decide (xs.length=ys.length)&&(xs.zip ys).all λp=>q p.1 p.2)):=by
 obtain⟨l1,n1,_⟩:=rowLen r1;obtain⟨l2,n2,_⟩:=rowLen r2;apply PX.of;apply yd s1 s2 F #[] #[];refine⟨λP=>⟨M,_,Later.refl ag,Yu.2 (rdBool _),?_⟩,λP=>?_⟩;grind;have ar:xs.length=ys.length:=by rw[l1,l2]at P;simp at P;omega
 refine⟨λi g=>∃(k:Nat) (M':Fr),i=(k:Int)/\k<=xs.length/\Later h M g M'/\((xs.zip ys).take k).all (λp=>q p.1 p.2)=Ta,λi _=>xs.length-i.toNat,⟨0,M,rfl,ZN _,Later.refl ag,by simp⟩,?_⟩;rintro i g ⟨k,M',rfl,hk,L,ai⟩;refine⟨λs=>?_,λs=>?_⟩;have e:k<xs.length:=by rw[l1]at s;simp at s;omega
 have B:k<ys.length:=by omega
 obtain⟨a,A,o,ea,Q,t1,t2⟩:=Xt L.ag (r1.mono L.le) e;refine⟨a,⟨ea,by omega,by omega⟩,xs[k].kind,xs[k].text,A,o,by rw[YO];exact Q,?_⟩;intro u;obtain⟨ae,ak,ab⟩:=jo (g:=u) rfl;clear_value u;refine rO ab rfl _ _ _ _ λah V ax O=>?_;have G:Keep g.size g ah:=⟨by omega,λj S=>by rw[O j (by omega)];exact ae.get j S⟩;have l:=L.ag.keep G;obtain⟨a2,I,J,U,n,t3,t4⟩:=Xt l (r2.mono L.le) B;refine⟨a2,⟨U,by omega,by omega⟩,ys[k].kind,ys[k].text,I,J,by rw[YO];exact n,?_⟩;intro C;obtain⟨H,an,Z⟩:=jo (g:=C) rfl;clear_value C;refine rO Z rfl _ _ _ _ λc aa ap E=>?_;have m:Blk c g.size (jm xs[k].kind xs[k].text A o).toArray:=(V.ofKeep H).keep (E _ (by omega));have af:Keep g.size g c:=⟨by omega,λj S=>by rw[E j (by omega),H.get j (by omega)];exact G.get j S⟩;have b:Later h M c M':=L.trans (Later.same L.ag af);refine⟨xs[k].kind,xs[k].text,A,o,m.ld (cs:=jm xs[k].kind xs[k].text A o),ys[k].kind,ys[k].text,I,J,aa.ld (cs:=jm ys[k].kind ys[k].text I J),hF,?_⟩;have f:=(hp xs[k] (YW e) ys[k] (YW B)).px (h:=c) (M:=M') (vs:=[.agg #[.int .i64 xs[k].kind,.string xs[k].text,aK A,aK o],.agg #[.int .i64 ys[k].kind,.string ys[k].text,aK I,aK J]]) (hM.trans b.le) b.ag (zm (zj t1 t2) (zm (zj t3 t4) zz));refine f.go λw au z r D t hr=>?_;have hr:r=q xs[k] ys[k]:=hr;subst hr;have aj:(xs.zip ys).take (k+1)=(xs.zip ys).take k++[(xs[k],ys[k])]:=by rw[YP (by simp;omega)];simp
 refine⟨q xs[k] ys[k],eP t,λhf=>⟨z,_,b.trans D,Yu.2 (rdBool _),?_⟩,λht=>?_⟩;have N:q xs[k] ys[k]=Tb:=by simpa using hf
 have:(xs.zip ys).all (λp=>q p.1 p.2)=Tb:=by rw[zcj];exact⟨(xs[k],ys[k]),zbr.2 ⟨k,by simp;omega,by simp⟩,by simp[N]⟩
 simp_all;have am:q xs[k] ys[k]=Ta:=by simpa using ht
 rw[qd e (by omega)];refine⟨⟨k+1,z,rfl,e,b.trans D,?_⟩,by grind⟩;simp_all;have Y:k=xs.length:=by rw[l1]at s;simp at s;omega
 subst Y;refine⟨M',_,L,Yu.2 (rdBool _),?_⟩;simp_all[zag]
theorem UD{l:List Bt}(h:l.Nodup){i j:Nat}(hi:i<l.length)(b:j<l.length)(e:l[i]=l[j]):i=j:=by unfold List.Nodup at h;rw[List.pairwise_iff_getElem]at h;grind
theorem JD(ks:List Bt)(us:List Value)(h:ks.length=us.length):(eR (ks.zip us)).map (·.1)=ks.map ZD:=by
 unfold eR;rw[za8];have:(ks.zip us).map (λp=>ZD p.1)=(ks.zip us).unzip.1.map ZD:=by simp
 show(ks.zip us).map (λp=>ZD p.1)=_;rw[this,List.unzip_zip h]
theorem ID{ks:List Bt}(h:ks.Nodup):(ks.map ZD).Nodup:=by grind
set_option maxHeartbeats 2000000 in
theorem SR(hF:zx Tp F=Ta){q:Tr->Tr->Bool}{f m:List Bt}{t s:List Value}(aH:f.Nodup)(la:f.length=xs.length)(a8:m.length=ys.length)(aY:t.length=xs.length)(a1:s.length=ys.length)(aQ:xs.length<=1000000000000/\ys.length<=1000000000000) (hp:∀x∈xs,∀y∈ys,PC Tp gl F [Arg.mk .tree x,Arg.mk .tree y] [.bool] (λr=>r=q x y)) {z m2:Nat} (hM:Fr.le gl M) (ag:AgM M h) (w1:MapW h z (eR (f.zip t))) (w2:MapW h m2 (eR (m.zip s))) (ra:∀i (h1:i<xs.length) (h2:i<t.length),RdV M .tree xs[i] t[i]) (rb:∀i (h1:i<ys.length) (h2:i<s.length),RdV M .tree ys[i] s[i]):
  PX Tp 325 #[.map (Tc z),.map (Tc m2),.func (.func F) #[] #[]] h M [.bool] (λr=>r=(decide (xs.length=ys.length)&&(f.zip xs).all λp=>gR m ys q p.1 p.2)):=by
 apply PX.of;apply qb (Tc z) (Tc m2) F #[] #[];have L1:(eR (f.zip t)).length=xs.length:=by unfold eR;simp;omega
 have B:(eR (m.zip s)).length=ys.length:=by unfold eR;simp;omega
 have I:=EI (P:=Tp) (ty:=3) mapVal.map w1;have H:=EI (P:=Tp) (ty:=3) mapVal.map w2;rw[L1]at I;rw[B]at H;refine⟨xs.length,I,ys.length,H,λhx=>⟨M,_,Later.refl ag,Yu.2 (rdBool _),?_⟩,λhx=>?_⟩;grind;have a7:xs.length=ys.length:=by simp at hx;omega
 have aO:=w1.lt;have ae:=w2.lt;have aN:((eR (f.zip t)).map (·.1)).Nodup:=by rw[JD _ _ (by omega)];exact ID aH
 refine EF mapVal.map w1 λh4 z4 k4 aM=>⟨Tc ⟨h.size,0,Td⟩,rfl,?_⟩;refine⟨λg=>∃dn M',MapIt g h.size z (eR (f.zip t)) dn/\Later h M g M'/\h.size<g.size/\∀i (h1:i<f.length) (h2:i<xs.length),ZD f[i]∈dn->gR m ys q f[i] xs[i]=Ta,λg=>leftN g h.size z,⟨[],M,aM,Later.same ag k4,by omega,λi _ _ hm=>by cases hm⟩,?_⟩;rintro g ⟨dn,M',it,L,zg,aB⟩;have kg:=L.keep;refine D7 it aN (by omega) (λY=>.inl ⟨rfl,(λhc=>by cases hc),λ_=>⟨M',_,L,Yu.2 (rdBool _),?_⟩⟩) λk u ak hk E aJ au z1 f1 rn=>.inr ⟨k,u,rfl,λ_=>?_,λhc=>by cases hc⟩;have aS:((f.zip xs).all λp=>gR m ys q p.1 p.2)=Ta:=by rw[ZJ];intro p N;obtain⟨i,hi,e⟩:=zbx N;rw[List.length_zip,Nat.lt_min]at hi;have:=aB i hi.1 hi.2 (Y (.string f[i],t[i]) (by unfold eR;refine za6.2 ⟨(f[i],t[i]),zbr.2 ⟨i,by simp;omega,by simp⟩,rfl⟩));rw[<-e];simpa using this
 simp_all
 ·obtain⟨i,aV,ay,ek,eu⟩:∃i,∃(h1:i<f.length) (h2:i<t.length),k=.string f[i]/\u=t[i]:=by unfold eR at ak;obtain⟨p,N,e⟩:=za6.1 ak;obtain⟨i,hi,e2⟩:=zbx N;grind
  subst ek;subst eu;have U:i<xs.length:=by omega
  have af:Keep h.size h E:=⟨by omega,λj O=>by rw[f1 j (by omega)];exact kg.get j O⟩;have am:AgM M' E:=λb c e=>by obtain⟨T,mm,e2⟩:=L.ag b c e;by_cases hb:b=h.size;subst hb;obtain⟨_,_,_,_,_,e3,_⟩:=it;simp_all;simp_all
  refine D9 au ⟨_,_,rfl,?_⟩;intro aj;obtain⟨aG,aU,aF⟩:=jo (g:=aj) rfl;clear_value aj;obtain⟨ck,ci,eu,t1,t2⟩:=ye (ra i U ay);rw[eu];refine rO aF rfl _ _ _ _ λah aE aT az=>?_;have J:Keep E.size E ah:=⟨by omega,λj O=>by rw[az j (by omega)];exact aG.get j O⟩;have aP:=am.keep J;have aA:MapW ah m2 (eR (m.zip s)):=w2.keep ((J.get _ (by omega)).trans (af.get _ ae));have n:=Wk mapVal aA.at f[i] Ta;simp only[if_true]at n;obtain⟨y,G,D,hget,t3,t4,hm1⟩:∃(y:Tr) (G D:Sl),gQ (m.zip s) f[i] (.agg #[.int .i64 0,.string ⟨#[]⟩,.slice Td 0 0,.slice Td 0 0])=.agg #[.int .i64 y.kind,.string y.text,aK G,aK D]/\RdV M .tree y (.agg #[.int .i64 y.kind,.string y.text,aK G,aK D]) /\
    ((fh (m.zip s) f[i]).isSome=Ta->y∈ys)/\gR m ys q f[i] xs[i]=((fh (m.zip s) f[i]).isSome&&q xs[i] y):=by
   rcases Gr f[i] m s 0 (by omega)with⟨E,C⟩|⟨j,w,E,C,g3⟩;refine⟨zT,⟨Td,0,0⟩,⟨Td,0,0⟩,by unfold gQ;rw[C];rfl,?_,?_,?_⟩;refine zj (v:=zT) ?_ ?_;exact⟨_,rfl,Td,0,rfl,⟨by simp[zT],by simp[zT]⟩,.inl rfl⟩;exact⟨_,rfl,Td,0,rfl,⟨by simp[zT],by simp[zT]⟩,.inl rfl⟩;simp_all;rw[C];unfold gR idxOfS;grind;obtain⟨O,ej⟩:=ZH.1 C;have ap:j<ys.length:=by omega
   have hr:=rb j ap O;rw[ej]at hr;obtain⟨G,D,ew,t3,t4⟩:=ye hr;refine⟨ys[j],G,D,by unfold gQ;grind,by simp_all,λ_=>YW ap,?_⟩;rw[g3];unfold gR idxOfS;simp_all
  rw[hget]at n;refine⟨y.kind,y.text,G,D,(fh (m.zip s) f[i]).isSome,n,?_⟩;intro an;obtain⟨ab,a6,aI⟩:=jo (g:=an) rfl;clear_value an;refine rO aI rfl _ _ _ _ λl aC aZ Z=>?_;have aa:Blk l E.size (jm xs[i].kind xs[i].text ck ci).toArray:=(aE.ofKeep ab).keep (Z _ (by omega));have o:Keep E.size E l:=⟨by omega,λj O=>by rw[Z j (by omega),ab.get j (by omega)];exact J.get j O⟩;have ar:Keep h.size h l:=af.trans o (by omega);have A:Later h M l M':=⟨ar,L.le,L.old,am.keep o⟩;have V:MapIt l h.size z (eR (f.zip t)) (.string f[i]::dn):=aJ.keep (o.get _ (by omega)) (o.get _ (by omega));have S:leftN l h.size z<leftN g h.size z:=by rw[leftN.keep (o.get h.size (by omega)) (o.get z (by omega))];exact rn
  refine⟨xs[i].kind,xs[i].text,ck,ci,λ_=>aa.ld (cs:=jm xs[i].kind xs[i].text ck ci),y.kind,y.text,G,D,λ_=>aC.ld (cs:=jm y.kind y.text G D),?_⟩;have aL:gR m ys q f[i] xs[i]=Tb->((f.zip xs).all λp=>gR m ys q p.1 p.2)=Tb:=λhf=>by rw[zcj];exact⟨(f[i],xs[i]),zbr.2 ⟨i,by simp;omega,by simp⟩,by simp[hf]⟩
  refine⟨λw C=>∃b M2,w=.bool b/\Later l M' C M2/\((fh (m.zip s) f[i]).isSome=Ta->b=q xs[i] y),λhs=>⟨hF,?_⟩,λhs=>⟨Ta,Ta,M',rfl,Later.refl A.ag,λhc=>by simp_all⟩,λ_ w C ⟨b,_,e,_⟩=>⟨b,e⟩,?_⟩;have ax:(fh (m.zip s) f[i]).isSome=Ta:=by simpa using hs
  have Q:=(hp xs[i] (YW U) y (t4 ax)).px (h:=l) (M:=M') (vs:=[.agg #[.int .i64 xs[i].kind,.string xs[i].text,aK ck,aK ci],.agg #[.int .i64 y.kind,.string y.text,aK G,aK D]]) (hM.trans A.le) A.ag (zm (RdV.mono L.le (zj t1 t2)) (zm (RdV.mono L.le t3) zz));exact Q.go λw C M2 r B ai hr=>⟨r,eP ai,r,M2,rfl,B,λ_=>hr⟩;rintro b C ⟨b',M2,e,B,hb⟩;cases e;refine⟨λhf=>⟨M2,_,A.trans B,Yu.2 (rdBool _),?_⟩,λht=>⟨⟨_,M2,V.keep (B.keep.get _ (by omega)) (B.keep.get _ (by omega)),A.trans B,by have:=B.keep.size;omega,λi2 h1 h2 hm=>?_⟩,?_⟩⟩;grind;rcases YS.1 hm with e|hm;grind [UD];grind;show leftN C h.size z<leftN g h.size z;rw[leftN.keep (B.keep.get h.size (by omega)) (B.keep.get z (by omega))];exact S
end
end Go.X
end
section
namespace Go.X
section
theorem PU(gl:Fr)(a0:Tr)(b1:Tr)(R:Bool->Prop) (H:PC Tp gl 139 [Arg.mk .tree (Tr.mk a0.kind a0.text a0.keys a0.items)] [.bool] (λa:Bool=>PC Tp gl 139 [Arg.mk .tree (Tr.mk b1.kind b1.text b1.keys b1.items)] [.bool] (λb:Bool=>∃c:Bool->Prop,((bif a then b else Tb)=Ta->PC Tp gl 270 [Arg.mk .tree (Tr.mk a0.kind a0.text a0.keys a0.items),Arg.mk .tree (Tr.mk b1.kind b1.text b1.keys b1.items)] [.bool] c)/\∀d:Bool,((bif a then b else Tb)=Ta->c d)->R (bif (bif a then b else Tb)then d else Tb)))):
  PC Tp gl 207 [Arg.mk .tree a0,Arg.mk .tree b1] [.bool] R:=
 PF ⟨[],[],[],[]⟩ [.tmp 4] 20 Tryz.func207 H
theorem VA(gl:Fr)(a0:Tr)(b1:Tr)(R:Bool->Prop) (H:((bif (bif (a0.kind != b1.kind)then Ta else(!(a0.text.toList==b1.text.toList)))then Ta else((a0.items.length:Int) != (b1.items.length:Int)))=Ta->R Tb)/\((bif (bif (a0.kind != b1.kind)then Ta else(!(a0.text.toList==b1.text.toList)))then Ta else((a0.items.length:Int) != (b1.items.length:Int)))=Tb->∃(a:Int->Prop) (b:Int->Nat),a 0/\∀c:Int,a c->((decide (c<a0.items.length)=Ta->∀d:Int->Prop,(∀e:Int,((decide (e<0)=Ta->R Tb)/\(decide (e<0)=Tb->∃f,(0<=c/\a0.items[c.toNat]?=Tc f)/\∃g,(0<=e/\b1.items[e.toNat]?=Tc g)/\PC Tp gl 270 [Arg.mk .tree (Tr.mk f.kind f.text f.keys f.items),Arg.mk .tree (Tr.mk g.kind g.text g.keys g.items)] [.bool] (λi:Bool=>((!i)=Ta->R Tb)/\((!i)=Tb->(a (YJ .i64 (c+1))/\b (YJ .i64 (c+1))<b c)))))->d e)->((a0.kind==6)=Ta->∃j,(0<=c/\a0.keys[c.toNat]?=Tc j)/\PC Tp gl 328 [Arg.mk .tree (Tr.mk b1.kind b1.text b1.keys b1.items),Arg.mk .str j] [.int .i64] (λk:Int=>d k))/\((a0.kind==6)=Tb->d c))/\(decide (c<a0.items.length)=Tb->R Ta)))):
  PC Tp gl 270 [Arg.mk .tree a0,Arg.mk .tree b1] [.bool] R:=
 PF ⟨[(8,6),(11,10)],[],[(4,⟨[(5,.one (.dat (.int .i64)))],[],[2,3],[100320]⟩)],[(9,⟨[(6,.one (.dat (.int .i64)))],[],[],[100384]⟩)]⟩ [.tmp 4] 62 Tryz.func270 H
end
section
theorem Px(s0:Bt)(h:zc)(R:Value->zc->Prop) (H:let b:=h.push (.cells #[.string (⟨#[]⟩:Bt),.slice Td 0 0] 114);XC Tp 145 #[.string s0] b (λc d=>∃e f g,c=.tuple #[aK e,iV f,iV g]/\((g != 0)=Ta->XRunU Tp (YN 114 (.pointer (Tc ⟨h.size,0,Td⟩)) (.agg #[.string (⟨#[]⟩:Bt),.slice Td 0 0])) d (λi=>∃j k,zd i ⟨h.size,0,Td⟩ 0 [.string j,aK k]/\R (.tuple #[.agg #[.string j,aK k],iV f,iV g]) i))/\((g != 0)=Tb->let l:=d.push (.cells #[.string s0,.slice Td 0 0,iV 0,iV 0,.slice Td 0 0,iV 0,iV 0] 169);∃(m:Int->zc->Prop) (n:Int->zc->Nat),m 0 l/\∀o:Int,∀p:zc,m o p->((decide (o<e.len)=Ta->∃q,(e.a=Tc q/\0<=o/\o<e.len)/\∃r s t,zd p (q.add (o.toNat*3)) 0 [iV r,iV s,iV t]/\let u:=p.push (.cells #[iV 0,iV 0,iV 0] 171);XRunU Tp (YN 171 (.pointer (Tc ⟨p.size,0,Td⟩)) (.agg #[iV r,iV s,iV t])) u (λv=>∃w,ze v (YK ⟨p.size,0,Td⟩ 0)=Tc (iV w)/\((w != 1)=Ta->∃x:Addr,Tc ⟨d.size,0,Td⟩=Tc x/\∃y,ze v (YK x 1)=Tc (aK y)/\∃z A B,zd v ⟨p.size,0,Td⟩ 0 [iV z,iV A,iV B]/\let C:=v.push (.cells #[iV z,iV A,iV B] 171);(C)[((YK x 1):Addr).block]?=(v)[((YK x 1):Addr).block]?/\xd Tp (YY #[162,162] 162 #[aK y,.slice (Tc ⟨v.size,0,Td⟩) 1 1]) C (λD E=>∃F,D=aK F/\∃G:Addr,Tc ⟨d.size,0,Td⟩=Tc G/\XRunU Tp (YN 162 (.pointer (Tc (YK G 1))) (aK F)) E (λI=>(m (YJ .i64 (o+1)) I/\n (YJ .i64 (o+1)) I<n o p))))/\((w != 1)=Tb->(m (YJ .i64 (o+1)) v/\n (YJ .i64 (o+1)) v<n o p))))/\(decide (o<e.len)=Tb->XC Tp 146 #[.pointer (Tc ⟨d.size,0,Td⟩),iV 1,.agg #[iV 0,iV 0]] p (λJ L=>∃M,J=.bool M/\∀N:Bool->zc->Prop,(∀O:Bool,∀P:zc,(((!O)=Ta->∃Q:Addr,Tc ⟨d.size,0,Td⟩=Tc Q/\∃S,ze P (YK Q 5)=Tc (iV S)/\∃T:Addr,Tc ⟨d.size,0,Td⟩=Tc T/\∃U,ze P (YK T 6)=Tc (iV U)/\(P)[((YK T 6):Addr).block]?=(P)[((YK T 6):Addr).block]?/\(P)[((YK Q 5):Addr).block]?=(P)[((YK Q 5):Addr).block]?/\XRunU Tp (YN 114 (.pointer (Tc ⟨h.size,0,Td⟩)) (.agg #[.string (⟨#[]⟩:Bt),.slice Td 0 0])) P (λV=>(V)[((YK T 6):Addr).block]?=(P)[((YK T 6):Addr).block]?/\(V)[((YK Q 5):Addr).block]?=(P)[((YK Q 5):Addr).block]?/\(V)[((YK T 6):Addr).block]?=(P)[((YK T 6):Addr).block]?/\∃W X,zd V ⟨h.size,0,Td⟩ 0 [.string W,aK X]/\R (.tuple #[.agg #[.string W,aK X],iV S,iV U]) V))/\((!O)=Tb->∃Y:Addr,Tc ⟨d.size,0,Td⟩=Tc Y/\∃Z,ze P (YK Y 4)=Tc (aK Z)/\XRunU Tp (YN 114 (.pointer (Tc ⟨h.size,0,Td⟩)) (.agg #[.string s0,aK Z])) P (λaa=>∃ab ac,zd aa ⟨h.size,0,Td⟩ 0 [.string ab,aK ac]/\R (.tuple #[.agg #[.string ab,aK ac],iV (s0.size:Int),iV 0]) aa)))->N O P)->∃ad,(M=Ta->Tc ⟨d.size,0,Td⟩=Tc ad)/\∃ae,(M=Ta->ze L (YK ad 1)=Tc (aK ae))/\((bif M then(decide ((ae.len:Int)>0))else Tb)=Ta->XC Tp 147 #[.pointer (Tc ⟨d.size,0,Td⟩),iV 2] L (λaf ag=>∃ah,af=.bool ah/\N ah ag))/\((bif M then(decide ((ae.len:Int)>0))else Tb)=Tb->N M L))))))):
  XC Tp 88 #[.string s0] h R:=
 XF ⟨[(9,8000),(15,8000)],[(6,[(28,.one (.int .i64))])],[(14,[(11,.one (.bool))])]⟩ [.cell 2 114,.tmp 3,.tmp 4] 79 Tryz.func88 H
theorem Rf(b:Bt)(c:Sl)(k1:Int)(be:Int)(h:zc)(R:Value->zc->Prop) (H:let d:=h.push (.cells #[.string b,aK c] 114);let e:=d.push (.cells tC 25);∃f,ze e (YK ⟨h.size,0,Td⟩ 1)=Tc (aK f)/\∃g,(f.a=Tc g/\0<=k1/\k1<f.len)/\∃i j k l m n o,zd e (g.add (k1.toNat*7)) 0 [iV i,iV j,iV k,iV l,iV m,aK n,aK o]/\let p:=e.push (.cells #[iV 0,iV 0,iV 0,iV 0,iV 0,.slice Td 0 0,.slice Td 0 0] 176);XRunU Tp (YN 176 (.pointer (Tc ⟨e.size,0,Td⟩)) (.agg #[iV i,iV j,iV k,iV l,iV m,aK n,aK o])) p (λq=>∀r:Addr->zc->Prop,(∀s:Addr,∀t:zc,(∃u,ze t (YK ⟨e.size,0,Td⟩ 5)=Tc (aK u)/\∃(v:Int->zc->Prop) (w:Int->zc->Nat),v 0 t/\∀x:Int,∀y:zc,v x y->((decide (x<u.len)=Ta->∃z,ze y (YK ⟨e.size,0,Td⟩ 5)=Tc (aK z)/\∃A,(z.a=Tc A/\0<=x/\x<z.len)/\∃B,ze y (A.add (x.toNat*1))=Tc (iV B)/\∃C,((!(decide (B<0)))=Ta->ze y (YK ⟨h.size,0,Td⟩ 1)=Tc (aK C))/\((bif (bif (decide (B<0))then Ta else(decide (B>=C.len)))then Ta else(decide (be>32)))=Ta->∃D E F G,zd y s 0 (tL D E F G)/\XRunU Tp (YN 25 (.pointer (Tc ⟨d.size,0,Td⟩)) (tA D E F G)) y (λI=>∃J L M N,zd I ⟨d.size,0,Td⟩ 0 (tL J L M N)/\R (tA J L M N) I))/\((bif (bif (decide (B<0))then Ta else(decide (B>=C.len)))then Ta else(decide (be>32)))=Tb->∀O:zc->Prop,(∀P:zc,(∃Q,ze P (YK s 3)=Tc (aK Q)/\∃S T,zd P ⟨h.size,0,Td⟩ 0 [.string S,aK T]/\XC Tp 89 #[.agg #[.string S,aK T],iV B,iV (YJ .i64 (be+1))] P (λU V=>∃W X Y Z,U=tA W X Y Z/\(V)[((YK s 3):Addr).block]?=(P)[((YK s 3):Addr).block]?/\let aa:=V.push (.cells #[iV W,.string X,aK Y,aK Z] 25);(aa)[((YK s 3):Addr).block]?=(P)[((YK s 3):Addr).block]?/\xd Tp (YY #[23,23] 23 #[aK Q,.slice (Tc ⟨V.size,0,Td⟩) 1 1]) aa (λab ac=>∃ae,ab=aK ae/\XRunU Tp (YN 23 (.pointer (Tc (YK s 3))) (aK ae)) ac (λaf=>(v (YJ .i64 (x+1)) af/\w (YJ .i64 (x+1)) af<w x y)))))->O P)->∃ag,ze y (YK ⟨e.size,0,Td⟩ 0)=Tc (iV ag)/\((ag==6)=Ta->∃ah,ze y (YK s 2)=Tc (aK ah)/\∃ai aj,zd y ⟨h.size,0,Td⟩ 0 [.string ai,aK aj]/\XC Tp 150 #[.agg #[.string ai,aK aj],iV B] y (λak al=>∃am,ak=.string am/\(al)[((YK s 2):Addr).block]?=(y)[((YK s 2):Addr).block]?/\let an:=al.push (.cells #[.string am] 9);(an)[((YK s 2):Addr).block]?=(y)[((YK s 2):Addr).block]?/\xd Tp (YY #[22,22] 22 #[aK ah,.slice (Tc ⟨al.size,0,Td⟩) 1 1]) an (λao ap=>∃aq,ao=aK aq/\XRunU Tp (YN 22 (.pointer (Tc (YK s 2))) (aK aq)) ap (λar=>O ar))))/\((ag==6)=Tb->O y)))/\(decide (x<u.len)=Tb->∃au av aw ax,zd y s 0 (tL au av aw ax)/\XRunU Tp (YN 25 (.pointer (Tc ⟨d.size,0,Td⟩)) (tA au av aw ax)) y (λay=>∃az aA aB aC,zd ay ⟨d.size,0,Td⟩ 0 (tL az aA aB aC)/\R (tA az aA aB aC) ay))))->r s t)->∃aD,ze q (YK ⟨e.size,0,Td⟩ 0)=Tc (iV aD)/\∃aE,ze q (YK ⟨e.size,0,Td⟩ 0)=Tc (iV aE)/\∃aF aG,zd q ⟨h.size,0,Td⟩ 0 [.string aF,aK aG]/\∃aH aI,zd q (YK ⟨e.size,0,Td⟩ 1) 0 [iV aH,iV aI]/\let aJ:Addr->Bt->zc->Prop:=λ(aL:Addr) aM (aN:zc)=>(XRunU Tp (YN 25 (.pointer (Tc aL)) (.agg #[iV aD,.string aM,.slice Td 0 0,.slice Td 0 0])) aN (λaO=>r aL aO));let aP:Addr->Bt->zc->Prop:=λ(aQ:Addr) aS (aT:zc)=>(aJ aQ aS aT);let aU:Addr->Bt->zc->Prop:=λ(aV:Addr) aW (aX:zc)=>(XC Tp 148 #[iV aE,.string aW] aX (λaY aZ=>∃a0,aY=.string a0/\(aZ)[((YK ⟨e.size,0,Td⟩ 0):Addr).block]?=(q)[((YK ⟨e.size,0,Td⟩ 0):Addr).block]?/\aP aV a0 aZ));(XC Tp 149 #[.agg #[.string aF,aK aG],.agg #[iV aH,iV aI]] q (λa1 a2=>∃a3,a1=.string a3/\(a2)[((YK ⟨e.size,0,Td⟩ 0):Addr).block]?=(q)[((YK ⟨e.size,0,Td⟩ 0):Addr).block]?/\(a2)[((YK ⟨e.size,0,Td⟩ 0):Addr).block]?=(q)[((YK ⟨e.size,0,Td⟩ 0):Addr).block]?/\(XC Tp 148 #[iV aE,.string a3] a2 (λa4 a5=>∃a6,a4=.string a6/\(a5)[((YK ⟨e.size,0,Td⟩ 0):Addr).block]?=(q)[((YK ⟨e.size,0,Td⟩ 0):Addr).block]?/\(let a7:=a5.push (.cells tC 25);aJ ⟨a5.size,0,Td⟩ a6 a7)/\(let a8:=a5.push (.cells tC 25);(a8)[((YK ⟨e.size,0,Td⟩ 0):Addr).block]?=(q)[((YK ⟨e.size,0,Td⟩ 0):Addr).block]?/\aP ⟨a5.size,0,Td⟩ a6 a8)))/\(let a9:=a2.push (.cells tC 25);(a9)[((YK ⟨e.size,0,Td⟩ 0):Addr).block]?=(q)[((YK ⟨e.size,0,Td⟩ 0):Addr).block]?/\(a9)[((YK ⟨e.size,0,Td⟩ 0):Addr).block]?=(q)[((YK ⟨e.size,0,Td⟩ 0):Addr).block]?/\aU ⟨a2.size,0,Td⟩ a3 a9)))/\(let ba:=q.push (.cells tC 25);(ba)[((YK ⟨e.size,0,Td⟩ 1):Addr).block]?=(q)[((YK ⟨e.size,0,Td⟩ 1):Addr).block]?/\(ba)[(⟨h.size,0,Td⟩:Addr).block]?=(q)[(⟨h.size,0,Td⟩:Addr).block]?/\(ba)[((YK ⟨e.size,0,Td⟩ 0):Addr).block]?=(q)[((YK ⟨e.size,0,Td⟩ 0):Addr).block]?/\(ba)[((YK ⟨e.size,0,Td⟩ 0):Addr).block]?=(q)[((YK ⟨e.size,0,Td⟩ 0):Addr).block]?/\XC Tp 149 #[.agg #[.string aF,aK aG],.agg #[iV aH,iV aI]] ba (λbb bc=>∃bd,bb=.string bd/\(bc)[((YK ⟨e.size,0,Td⟩ 0):Addr).block]?=(q)[((YK ⟨e.size,0,Td⟩ 0):Addr).block]?/\(bc)[((YK ⟨e.size,0,Td⟩ 0):Addr).block]?=(q)[((YK ⟨e.size,0,Td⟩ 0):Addr).block]?/\aU ⟨q.size,0,Td⟩ bd bc)))):
  XC Tp 89 #[.agg #[.string b,.slice c.a c.len c.cap],.int .i64 k1,.int .i64 be] h R:=
 XF ⟨[(11,8000),(10,8000),(2,8000)],[(4,[(29,.one (.int .i64))])],[(3,[(8,.one (.ad))]),(11,[])]⟩ [.cell 6 25] 74 Tryz.func89 H
theorem Qu(p0:Option Addr)(aC:Int)(b:Int)(c:Int)(h:zc)(R:Value->zc->Prop) (H:let d:=h.push (.cells #[.pointer p0] 165);let e:=d.push (.cells #[iV b,iV c] 167);∃f:Option Addr,ze e ⟨h.size,0,Td⟩=Tc (.pointer f)/\XC Tp 211 #[.pointer f] e (λg i=>∃j,g=iV j/\XC Tp 210 #[iV j] i (λk l=>∃m,k=iV m/\((m==0)=Ta->∃n:Option Addr,ze l ⟨h.size,0,Td⟩=Tc (.pointer n)/\XC Tp 147 #[.pointer n,iV 2] l (λo p=>∃q,o=.bool q/\R (.bool q) p))/\((m==0)=Tb->(decide (aC>32)=Ta->∃r:Option Addr,ze l ⟨h.size,0,Td⟩=Tc (.pointer r)/\XC Tp 147 #[.pointer r,iV 5] l (λs t=>∃u,s=.bool u/\R (.bool u) t))/\(decide (aC>32)=Tb->∃v:Option Addr,ze l ⟨h.size,0,Td⟩=Tc (.pointer v)/\∃w,v=Tc w/\∃x,ze l (YK w 4)=Tc (aK x)/\(((x.len:Int)==4096)=Ta->∃y:Option Addr,ze l ⟨h.size,0,Td⟩=Tc (.pointer y)/\XC Tp 147 #[.pointer y,iV 6] l (λz A=>∃B,z=.bool B/\R (.bool B) A))/\(((x.len:Int)==4096)=Tb->∃C:Option Addr,ze l ⟨h.size,0,Td⟩=Tc (.pointer C)/\∃D,C=Tc D/\∃E,ze l (YK D 4)=Tc (aK E)/\∃F:Option Addr,ze l ⟨h.size,0,Td⟩=Tc (.pointer F)/\∃G:Option Addr,ze l ⟨h.size,0,Td⟩=Tc (.pointer G)/\∃I,G=Tc I/\∃J,ze l (YK I 4)=Tc (aK J)/\∃L:Option Addr,ze l ⟨h.size,0,Td⟩=Tc (.pointer L)/\∃M,L=Tc M/\∃N,ze l (YK M 1)=Tc (aK N)/\∃O,(N.a=Tc O/\0<=(0:Int)/\(0:Int)<(N.len:Int))/\∃P Q,zd l (YK (O.add ((0:Int).toNat*3)) 1) 0 [iV P,iV Q]/\∃S T,zd l ⟨d.size,0,Td⟩ 0 [iV S,iV T]/\(l)[((YK I 4):Addr).block]?=(l)[((YK I 4):Addr).block]?/\(l)[(⟨h.size,0,Td⟩:Addr).block]?=(l)[(⟨h.size,0,Td⟩:Addr).block]?/\(l)[(⟨h.size,0,Td⟩:Addr).block]?=(l)[(⟨h.size,0,Td⟩:Addr).block]?/\let U:=l.push (.cells #[iV m,iV P,iV Q,iV S,iV T,.slice Td 0 0,.slice Td 0 0] 176);(U)[((YK I 4):Addr).block]?=(l)[((YK I 4):Addr).block]?/\(U)[(⟨h.size,0,Td⟩:Addr).block]?=(l)[(⟨h.size,0,Td⟩:Addr).block]?/\(U)[(⟨h.size,0,Td⟩:Addr).block]?=(l)[(⟨h.size,0,Td⟩:Addr).block]?/\xd Tp (YY #[112,112] 112 #[aK J,.slice (Tc ⟨l.size,0,Td⟩) 1 1]) U (λV W=>∃X,V=aK X/\∃Y,F=Tc Y/\(W)[(⟨h.size,0,Td⟩:Addr).block]?=(l)[(⟨h.size,0,Td⟩:Addr).block]?/\XRunU Tp (YN 112 (.pointer (Tc (YK Y 4))) (aK X)) W (λZ=>∃aa:Option Addr,ze Z ⟨h.size,0,Td⟩=Tc (.pointer aa)/\XC Tp 212 #[.pointer aa] Z (λab ac=>ab=.tuple #[]/\∀ad:Bool->zc->Prop,(∀ae:Bool,∀af:zc,(∃ag:Option Addr,ze af ⟨h.size,0,Td⟩=Tc (.pointer ag)/\∃ah,ag=Tc ah/\∃ai,ze af (YK ah 4)=Tc (aK ai)/\∃aj:Option Addr,ze af ⟨h.size,0,Td⟩=Tc (.pointer aj)/\∃ak,aj=Tc ak/\∃al,ze af (YK (YK ak 2) 1)=Tc (iV al)/\∃am,(ai.a=Tc am/\0<=(E.len:Int)/\(E.len:Int)<(ai.len:Int))/\XRunU Tp (YN 3 (.pointer (Tc (YK (YK (am.add ((E.len:Int).toNat*7)) 1) 1))) (iV al)) af (λan=>R (.bool ae) an))->ad ae af)->((m==5)=Ta->∃ao:Option Addr,ze ac ⟨h.size,0,Td⟩=Tc (.pointer ao)/\∃ap:Option Addr,ze ac ⟨h.size,0,Td⟩=Tc (.pointer ap)/\XC Tp 213 #[.pointer ao,iV (E.len:Int),iV aC,iV 5,.func (.func 214) #[.pointer ap] #[]] ac (λaq ar=>∃au,aq=.bool au/\ad au ar))/\((m==5)=Tb->((m==6)=Ta->let av:=ac.push (.map #[] 0);let aw:=av.push (.cells #[.map Td] 105);XRunU Tp (YN 105 (.pointer (Tc ⟨av.size,0,Td⟩)) (.map (Tc ac.size))) aw (λax=>∃ay:Option Addr,ze ax ⟨h.size,0,Td⟩=Tc (.pointer ay)/\XC Tp 213 #[.pointer ay,iV (E.len:Int),iV aC,iV 3,.func (.func 215) #[] #[.pointer (Tc ⟨h.size,0,Td⟩),.pointer (Tc ⟨av.size,0,Td⟩)]] ax (λaz aA=>∃aB,az=.bool aB/\ad aB aA)))/\((m==6)=Tb->ad Ta ac))))))))))):
  XC Tp 146 #[.pointer p0,.int .i64 aC,.agg #[.int .i64 b,.int .i64 c]] h R:=
 XF ⟨[(9,8000),(18,8000)],[],[(18,[(9,.one (.bool))])]⟩ [.tmp 6] 90 Tryz.func146 H
theorem VF(k:Option Addr)(i:Int)(h:zc)(R:Value->zc->Prop) (H:XC Tp 217 #[.pointer k] h (λa b=>∃c,a=iV c/\∃d,k=Tc d/\XRunU Tp (YN 3 (.pointer (Tc (YK d 5))) (iV c)) b (λe=>∃f,k=Tc f/\XRunU Tp (YN 30 (.pointer (Tc (YK f 6))) (iV i)) e (λg=>R (.bool Tb) g)))):
  XC Tp 147 #[.pointer k,.int .i64 i] h R:=
 XF ⟨[],[],[]⟩ [.tmp 4] 14 Tryz.func147 H
theorem Qy(b0:Option Addr)(p:Int)(h:zc)(R:Value->zc->Prop) (H:XC Tp 116 #[.pointer b0] h (λb c=>b=.tuple #[]/\∃d,b0=Tc d/\∃e,ze c (YK d 1)=Tc (aK e)/\∃f,b0=Tc f/\∃g,ze c (YK f 1)=Tc (aK g)/\XC Tp 309 #[aK g,.int .i32 p] c (λi j=>∃k,i=aK k/\∃l,b0=Tc l/\XRunU Tp (YN 86 (.pointer (Tc (YK l 1))) (aK k)) j (λm=>∃n,b0=Tc n/\∃o,ze m (YK n 1)=Tc (aK o)/\R (.tuple #[iV (YJ .i64 ((o.len:Int)-(e.len:Int))),.nilIface]) m)))):
  XC Tp 252 #[.pointer b0,.int .i32 p] h R:=
 XF ⟨[],[],[]⟩ [.tmp 4,.tmp 5] 30 Tryz.func252 H
theorem Vy(b:Bt)(h:zc)(R:Value->zc->Prop) (H:let a:=h.push (.cells #[.string b] 9);R (.func (.func 273) #[] #[.pointer (Tc ⟨h.size,0,Td⟩)]) a):
  XC Tp 209 #[.string b] h R:=
 XF ⟨[],[],[]⟩ [.tmp 2] 4 Tryz.func209 H
theorem Pb(i:Option Addr)(h:zc)(R:Value->zc->Prop) (H:∃b,i=Tc b/\∃c,ze h (YK b 1)=Tc (aK c)/\(((c.len:Int)==0)=Ta->R (iV 0) h)/\(((c.len:Int)==0)=Tb->∃d,i=Tc d/\∃e,ze h (YK d 1)=Tc (aK e)/\∃f,(e.a=Tc f/\0<=(0:Int)/\(0:Int)<(e.len:Int))/\∃g,ze h (YK (f.add ((0:Int).toNat*3)) 0)=Tc (iV g)/\R (iV g) h)):
  XC Tp 211 #[.pointer i] h R:=
 XF ⟨[],[],[]⟩ [.tmp 2] 16 Tryz.func211 H
theorem UM(n:Option Addr)(h:zc)(R:Value->zc->Prop) (H:∃b,n=Tc b/\∃c,ze h (YK b 1)=Tc (aK c)/\∃d,(c.a=Tc d/\0<=(0:Int)/\(0:Int)<(c.len:Int))/\∃e f,zd h (YK (d.add ((0:Int).toNat*3)) 1) 0 [iV e,iV f]/\∃g,n=Tc g/\∃i,ze h (YK g 1)=Tc (aK i)/\((Td:Option Value)=Td\/∃v,(Td:Option Value)=Tc v)/\(0<=(1:Int)/\(1:Int)<=(i.len:Int)/\(i.len:Int)<=(i.cap:Int)/\(i.cap:Int)<=(i.cap:Int))/\∃j,n=Tc j/\XRunU Tp (YN 167 (.pointer (Tc (YK j 2))) (.agg #[iV e,iV f])) h (λk=>∃l,n=Tc l/\XRunU Tp (YN 162 (.pointer (Tc (YK l 1))) (.slice (fF i.a 3 ((1:Int).toNat) ((i.cap:Int).toNat)) ((i.len:Int).toNat-(1:Int).toNat) ((i.cap:Int).toNat-(1:Int).toNat))) k (λm=>R (.tuple #[]) m))):
  XC Tp 212 #[.pointer n] h R:=
 XF ⟨[(0,8000)],[],[]⟩ [] 20 Tryz.func212 H
theorem Pi(p0:Option Addr)(n1:Int)(aa:Int)(Y:Int)(Z:FuncId)(ae:Array Value)(ab:Array Value)(h:zc)(R:Value->zc->Prop) (H:XC Tp 275 #[.pointer p0,iV Y] h (λb c=>∃d,b=.bool d/\(d=Ta->R (.bool Ta) c)/\(d=Tb->∃(e:zc->Prop) (f:zc->Nat),e c/\∀g:zc,e g->(∃i,p0=Tc i/\∃j,ze g (YK (YK i 2) 1)=Tc (iV j)/\∃k,p0=Tc k/\∃l,ze g (YK k 4)=Tc (aK l)/\zx Tp Z=Ta/\XC Tp Z (ae++#[iV (YJ .i64 (aa+1))]++ab) g (λm n=>∃o,m=.bool o/\((!o)=Ta->R (.bool Tb) n)/\((!o)=Tb->∃p,p0=Tc p/\∃q,ze n (YK p 4)=Tc (aK q)/\∃r,(q.a=Tc r/\0<=n1/\n1<q.len)/\∃s,Tc (r.add (n1.toNat*7))=Tc s/\∃t,ze n (YK s 5)=Tc (aK t)/\let u:=n.push (.cells #[iV (l.len:Int)] 3);xd Tp (YY #[80,80] 80 #[aK t,.slice (Tc ⟨n.size,0,Td⟩) 1 1]) u (λv w=>∃x,v=aK x/\∃y,Tc (r.add (n1.toNat*7))=Tc y/\XRunU Tp (YN 80 (.pointer (Tc (YK y 5))) (aK x)) w (λz=>∃A,Tc (r.add (n1.toNat*7))=Tc A/\∃B,ze z (YK A 6)=Tc (aK B)/\XC Tp 217 #[.pointer p0] z (λC D=>∃E,C=iV E/\(D)[((YK A 6):Addr).block]?=(z)[((YK A 6):Addr).block]?/\(D)[((YK A 6):Addr).block]?=(z)[((YK A 6):Addr).block]?/\let F:=D.push (.cells #[iV j,iV E] 167);(F)[((YK A 6):Addr).block]?=(z)[((YK A 6):Addr).block]?/\xd Tp (YY #[174,174] 174 #[aK B,.slice (Tc ⟨D.size,0,Td⟩) 1 1]) F (λG I=>∃J,G=aK J/\∃L,Tc (r.add (n1.toNat*7))=Tc L/\XRunU Tp (YN 174 (.pointer (Tc (YK L 6))) (aK J)) I (λM=>XC Tp 275 #[.pointer p0,iV Y] M (λN O=>∃P,N=.bool P/\(P=Ta->R (.bool Ta) O)/\(P=Tb->XC Tp 275 #[.pointer p0,iV 6] O (λQ S=>∃T,Q=.bool T/\((!T)=Ta->XC Tp 147 #[.pointer p0,iV 2] S (λU V=>∃W,U=.bool W/\R (.bool W) V))/\((!T)=Tb->(e S/\f S<f g)))))))))))))))):
  XC Tp 213 #[.pointer p0,.int .i64 n1,.int .i64 aa,.int .i64 Y,.func (.func Z) ae ab] h R:=
 XF ⟨[(8,8000)],[(3,[])],[]⟩ [.tmp 10] 71 Tryz.func213 H
theorem MO(f:Option Addr)(e:Int)(h:zc)(R:Value->zc->Prop) (H:XC Tp 146 #[.pointer f,iV e,.agg #[iV 0,iV 0]] h (λa b=>∃c,a=.bool c/\R (.bool c) b)):
  XC Tp 214 #[.pointer f,.int .i64 e] h R:=
 XF ⟨[],[],[]⟩ [.tmp 4] 9 Tryz.func214 H
theorem X5(f:Int)(c1:Addr)(c2:Addr)(h:zc)(R:Value->zc->Prop) (H:∃a:Option Addr,ze h c1=Tc (.pointer a)/\∃b:Option Nat,ze h c2=Tc (.map b)/\XC Tp 216 #[.pointer a,iV f,.map b] h (λc d=>∃e,c=.bool e/\R (.bool e) d)):
  XC Tp 215 #[.int .i64 f,.pointer (Tc c1),.pointer (Tc c2)] h R:=
 XF ⟨[],[],[]⟩ [.tmp 4] 9 Tryz.func215 H
theorem VY(Y:Option Addr)(U:Int)(V:Option Nat)(h:zc)(R:Value->zc->Prop) (H:XC Tp 211 #[.pointer Y] h (λb c=>∃d,b=iV d/\((d != 8)=Ta->XC Tp 147 #[.pointer Y,iV 2] c (λe f=>∃g,e=.bool g/\R (.bool g) f))/\((d != 8)=Tb->∃i,Y=Tc i/\∃j,ze c (YK i 1)=Tc (aK j)/\∃k,(j.a=Tc k/\0<=(0:Int)/\(0:Int)<(j.len:Int))/\∃l m,zd c (YK (k.add ((0:Int).toNat*3)) 1) 0 [iV l,iV m]/\let n:=c.push (.cells #[iV 0,iV 0] 167);XRunU Tp (YN 167 (.pointer (Tc ⟨c.size,0,Td⟩)) (.agg #[iV l,iV m])) n (λo=>∃p,Y=Tc p/\∃q,ze o (YK p 0)=Tc (.string q)/\∃r,ze o (YK ⟨c.size,0,Td⟩ 0)=Tc (iV r)/\∃s,ze o (YK ⟨c.size,0,Td⟩ 1)=Tc (iV s)/\(0<=r/\r<=s/\s<=q.size)/\XC Tp 126 #[.string (q.extract r.toNat s.toNat)] o (λt u=>∃v w x,t=.tuple #[.string v,iV w,iV x]/\∃y,QExec Tp (zcm 105 (.map V) (.string v) Tb) u (.bool y)/\(y=Ta->XC Tp 147 #[.pointer Y,iV 7] u (λz A=>∃B,z=.bool B/\R (.bool B) A))/\(y=Tb->XRunU Tp (zbz 105 (.map V) (.string v) (.bool Ta)) u (λC=>XC Tp 212 #[.pointer Y] C (λD E=>D=.tuple #[]/\XC Tp 275 #[.pointer Y,iV 7] E (λF G=>∃I,F=.bool I/\((!I)=Ta->XC Tp 147 #[.pointer Y,iV 2] G (λJ L=>∃M,J=.bool M/\R (.bool M) L))/\((!I)=Tb->∃N O,zd G ⟨c.size,0,Td⟩ 0 [iV N,iV O]/\XC Tp 146 #[.pointer Y,iV U,.agg #[iV N,iV O]] G (λP Q=>∃S,P=.bool S/\R (.bool S) Q))))))))))):
  XC Tp 216 #[.pointer Y,.int .i64 U,.map V] h R:=
 XF ⟨[(4,8000)],[],[]⟩ [.tmp 6] 55 Tryz.func216 H
theorem Rp(k:Option Addr)(h:zc)(R:Value->zc->Prop) (H:∃b,k=Tc b/\∃c,ze h (YK b 1)=Tc (aK c)/\(((c.len:Int)==0)=Ta->∃d,k=Tc d/\∃e,ze h (YK d 0)=Tc (.string e)/\R (iV (e.size:Int)) h)/\(((c.len:Int)==0)=Tb->∃f,k=Tc f/\∃g,ze h (YK f 1)=Tc (aK g)/\∃i,(g.a=Tc i/\0<=(0:Int)/\(0:Int)<(g.len:Int))/\∃j,ze h (YK (YK (i.add ((0:Int).toNat*3)) 1) 0)=Tc (iV j)/\R (iV j) h)):
  XC Tp 217 #[.pointer k] h R:=
 XF ⟨[],[],[]⟩ [.tmp 2] 22 Tryz.func217 H
theorem Ly(s0:Bt)(bz:Int)(h:zc)(R:Value->zc->Prop) (H:let a:=h.push (.cells #[iV bz] 3);let b:=a.push (.cells #[iV 0,iV 0,iV 0] 171);∃c,ze b ⟨h.size,0,Td⟩=Tc (iV c)/\(0<=c/\c<=s0.size/\(s0.size:Int)<=(s0.size:Int))/\(0<=(0:Int)/\(0:Int)<((s0.extract c.toNat (s0.size:Int).toNat).size:Int))/\XC Tp 194 #[.string (⟨#[123,125,91,93,44,58]⟩:Bt),.int .u8 (zf (s0.extract c.toNat (s0.size:Int).toNat) (0:Int).toNat)] b (λd e=>∃f,d=iV f/\(decide (f>=0)=Ta->∃g,ze e ⟨h.size,0,Td⟩=Tc (iV g)/\zx Tp 331=Ta/\XC Tp 331 #[iV (YJ .i64 (2+f)),iV (YJ .i64 (g+1)),.pointer (Tc ⟨h.size,0,Td⟩)] e (λi j=>∃k l m n,i=.tuple #[.agg #[iV k,iV l,iV m],iV n]/\XRunU Tp (YN 171 (.pointer (Tc ⟨a.size,0,Td⟩)) (.agg #[iV k,iV l,iV m])) j (λo=>∃p q r,zd o ⟨a.size,0,Td⟩ 0 [iV p,iV q,iV r]/\R (.tuple #[.agg #[iV p,iV q,iV r],iV n]) o)))/\(decide (f>=0)=Tb->XC Tp 194 #[.string (⟨#[32,9,10,13]⟩:Bt),.int .u8 (zf (s0.extract c.toNat (s0.size:Int).toNat) (0:Int).toNat)] e (λs t=>∃u,s=iV u/\(decide (u>=0)=Ta->∃v,ze t ⟨h.size,0,Td⟩=Tc (iV v)/\XC Tp 334 #[.string (⟨#[32,9,10,13]⟩:Bt)] t (λw x=>∃y:Value,w=y/\(x)[(⟨h.size,0,Td⟩:Addr).block]?=(t)[(⟨h.size,0,Td⟩:Addr).block]?/\XC Tp 333 #[.string (s0.extract c.toNat (s0.size:Int).toNat),y] x (λz A=>∃B,z=iV B/\(A)[(⟨h.size,0,Td⟩:Addr).block]?=(t)[(⟨h.size,0,Td⟩:Addr).block]?/\zx Tp 331=Ta/\XC Tp 331 #[iV 1,iV (YJ .i64 (v+B)),.pointer (Tc ⟨h.size,0,Td⟩)] A (λC D=>∃E F G I,C=.tuple #[.agg #[iV E,iV F,iV G],iV I]/\XRunU Tp (YN 171 (.pointer (Tc ⟨a.size,0,Td⟩)) (.agg #[iV E,iV F,iV G])) D (λJ=>∃L M N,zd J ⟨a.size,0,Td⟩ 0 [iV L,iV M,iV N]/\R (.tuple #[.agg #[iV L,iV M,iV N],iV I]) J)))))/\(decide (u>=0)=Tb->(((zf (s0.extract c.toNat (s0.size:Int).toNat) (0:Int).toNat:Int)==34)=Ta->∃O,ze t ⟨h.size,0,Td⟩=Tc (iV O)/\XC Tp 192 #[.string s0,iV O] t (λP Q=>∃S T,P=.tuple #[iV S,iV T]/\((T != 0)=Ta->zx Tp 332=Ta/\XC Tp 332 #[iV S,iV T] Q (λU V=>∃W X Y Z,U=.tuple #[.agg #[iV W,iV X,iV Y],iV Z]/\XRunU Tp (YN 171 (.pointer (Tc ⟨a.size,0,Td⟩)) (.agg #[iV W,iV X,iV Y])) V (λaa=>∃ab ac ad,zd aa ⟨a.size,0,Td⟩ 0 [iV ab,iV ac,iV ad]/\R (.tuple #[.agg #[iV ab,iV ac,iV ad],iV Z]) aa)))/\((T != 0)=Tb->zx Tp 331=Ta/\XC Tp 331 #[iV 8,iV S,.pointer (Tc ⟨h.size,0,Td⟩)] Q (λae af=>∃ag ah ai aj,ae=.tuple #[.agg #[iV ag,iV ah,iV ai],iV aj]/\XRunU Tp (YN 171 (.pointer (Tc ⟨a.size,0,Td⟩)) (.agg #[iV ag,iV ah,iV ai])) af (λak=>∃al am an,zd ak ⟨a.size,0,Td⟩ 0 [iV al,iV am,iV an]/\R (.tuple #[.agg #[iV al,iV am,iV an],iV aj]) ak)))))/\(((zf (s0.extract c.toNat (s0.size:Int).toNat) (0:Int).toNat:Int)==34)=Tb->((bif ((zf (s0.extract c.toNat (s0.size:Int).toNat) (0:Int).toNat:Int)==45)then Ta else(bif (decide ((zf (s0.extract c.toNat (s0.size:Int).toNat) (0:Int).toNat:Int)>=48))then(decide ((zf (s0.extract c.toNat (s0.size:Int).toNat) (0:Int).toNat:Int)<=57))else Tb))=Ta->∃ao,ze t ⟨h.size,0,Td⟩=Tc (iV ao)/\XC Tp 334 #[.string (⟨#[45,43,46,48,49,50,51,52,53,54,55,56,57,101,69]⟩:Bt)] t (λap aq=>∃ar:Value,ap=ar/\(aq)[(⟨h.size,0,Td⟩:Addr).block]?=(t)[(⟨h.size,0,Td⟩:Addr).block]?/\XC Tp 333 #[.string (s0.extract c.toNat (s0.size:Int).toNat),ar] aq (λau av=>∃aw,au=iV aw/\(av)[(⟨h.size,0,Td⟩:Addr).block]?=(t)[(⟨h.size,0,Td⟩:Addr).block]?/\∃ax,ze av ⟨h.size,0,Td⟩=Tc (iV ax)/\(0<=ax/\ax<=(YJ .i64 (ao+aw))/\(YJ .i64 (ao+aw))<=(s0.size:Int))/\XC Tp 107 #[.string (s0.extract ax.toNat (YJ .i64 (ao+aw)).toNat)] av (λay az=>∃aA aB aC aD,ay=.tuple #[.agg #[.bool aA,.string aB,iV aC],iV aD]/\let aE:=az.push (.cells #[.bool Tb,.string (⟨#[]⟩:Bt),iV 0] 78);XRunU Tp (YN 78 (.pointer (Tc ⟨az.size,0,Td⟩)) (.agg #[.bool aA,.string aB,iV aC])) aE (λaF=>((aD != 0)=Ta->∃aG,ze aF ⟨h.size,0,Td⟩=Tc (iV aG)/\zx Tp 332=Ta/\XC Tp 332 #[iV aG,iV aD] aF (λaH aI=>∃aJ aL aM aN,aH=.tuple #[.agg #[iV aJ,iV aL,iV aM],iV aN]/\XRunU Tp (YN 171 (.pointer (Tc ⟨a.size,0,Td⟩)) (.agg #[iV aJ,iV aL,iV aM])) aI (λaO=>∃aP aQ aS,zd aO ⟨a.size,0,Td⟩ 0 [iV aP,iV aQ,iV aS]/\R (.tuple #[.agg #[iV aP,iV aQ,iV aS],iV aN]) aO)))/\((aD != 0)=Tb->zx Tp 331=Ta/\XC Tp 331 #[iV 9,iV (YJ .i64 (ao+aw)),.pointer (Tc ⟨h.size,0,Td⟩)] aF (λaT aU=>∃aV aW aX aY,aT=.tuple #[.agg #[iV aV,iV aW,iV aX],iV aY]/\XRunU Tp (YN 171 (.pointer (Tc ⟨a.size,0,Td⟩)) (.agg #[iV aV,iV aW,iV aX])) aU (λaZ=>∃a0 a1 a2,zd aZ ⟨a.size,0,Td⟩ 0 [iV a0,iV a1,iV a2]/\R (.tuple #[.agg #[iV a0,iV a1,iV a2],iV aY]) aZ))))))))/\((bif ((zf (s0.extract c.toNat (s0.size:Int).toNat) (0:Int).toNat:Int)==45)then Ta else(bif (decide ((zf (s0.extract c.toNat (s0.size:Int).toNat) (0:Int).toNat:Int)>=48))then(decide ((zf (s0.extract c.toNat (s0.size:Int).toNat) (0:Int).toNat:Int)<=57))else Tb))=Tb->XC Tp 333 #[.string (s0.extract c.toNat (s0.size:Int).toNat),.func (.func 335) #[] #[]] t (λa3 a4=>∃a5,a3=iV a5/\(0<=(0:Int)/\(0:Int)<=a5/\a5<=((s0.extract c.toNat (s0.size:Int).toNat).size:Int))/\XC Tp 336 #[.string ((s0.extract c.toNat (s0.size:Int).toNat).extract (0:Int).toNat a5.toNat)] a4 (λa6 a7=>∃a8,a6=iV a8/\((a8 != 0)=Ta->∃a9,ze a7 ⟨h.size,0,Td⟩=Tc (iV a9)/\zx Tp 331=Ta/\XC Tp 331 #[iV a8,iV (YJ .i64 (a9+a5)),.pointer (Tc ⟨h.size,0,Td⟩)] a7 (λba bb=>∃bc bd be bf,ba=.tuple #[.agg #[iV bc,iV bd,iV be],iV bf]/\XRunU Tp (YN 171 (.pointer (Tc ⟨a.size,0,Td⟩)) (.agg #[iV bc,iV bd,iV be])) bb (λbg=>∃bh bi bj,zd bg ⟨a.size,0,Td⟩ 0 [iV bh,iV bi,iV bj]/\R (.tuple #[.agg #[iV bh,iV bi,iV bj],iV bf]) bg)))/\((a8 != 0)=Tb->∃bk,ze a7 ⟨h.size,0,Td⟩=Tc (iV bk)/\zx Tp 332=Ta/\XC Tp 332 #[iV bk,iV 2] a7 (λbl bm=>∃bn bo bp bq,bl=.tuple #[.agg #[iV bn,iV bo,iV bp],iV bq]/\XRunU Tp (YN 171 (.pointer (Tc ⟨a.size,0,Td⟩)) (.agg #[iV bn,iV bo,iV bp])) bm (λbr=>∃bs bt bu,zd br ⟨a.size,0,Td⟩ 0 [iV bs,iV bt,iV bu]/\R (.tuple #[.agg #[iV bs,iV bt,iV bu],iV bq]) br)))))))))))):
  XC Tp 274 #[.string s0,.int .i64 bz] h R:=
 XF ⟨[(9,8000),(16,8000)],[],[]⟩ [.cell 4 171,.tmp 5] 130 Tryz.func274 H
theorem II(i:Option Addr)(f:Int)(h:zc)(R:Value->zc->Prop) (H:XC Tp 211 #[.pointer i] h (λa b=>∃c,a=iV c/\((c != f)=Ta->R (.bool Tb) b)/\((c != f)=Tb->XC Tp 212 #[.pointer i] b (λd e=>d=.tuple #[]/\R (.bool Ta) e)))):
  XC Tp 275 #[.pointer i,.int .i64 f] h R:=
 XF ⟨[],[],[]⟩ [.tmp 4] 11 Tryz.func275 H
theorem Uj(s:Bt)(r:Int)(h:zc)(R:Value->zc->Prop) (H:((!(decide (r>=s.size)))=Ta->(0<=r/\r<s.size))/\((bif (decide (r>=s.size))then Ta else((zf s r.toNat:Int) != 34))=Ta->R (.tuple #[.string (⟨#[]⟩:Bt),iV r,iV 2]) h)/\((bif (decide (r>=s.size))then Ta else((zf s r.toNat:Int) != 34))=Tb->let a:=h.push (.cells #[.pointer Td,.slice Td 0 0] 88);∃(b:Int->zc->Prop) (c:Int->zc->Nat),b (YJ .i64 (r+1)) a/\∀d:Int,∀e:zc,b d e->((decide (d<s.size)=Ta->(0<=d/\d<s.size)/\(((zf s d.toNat:Int)==34)=Ta->XC Tp 72 #[.pointer (Tc ⟨h.size,0,Td⟩)] e (λf g=>∃i,f=.string i/\R (.tuple #[.string i,iV (YJ .i64 (d+1)),iV 0]) g))/\(((zf s d.toNat:Int)==34)=Tb->(0<=d/\d<=s.size/\(s.size:Int)<=(s.size:Int))/\XC Tp 263 #[.string (s.extract d.toNat (s.size:Int).toNat)] e (λj k=>∃l m,j=.tuple #[.int .i32 l,iV m]/\((m==0)=Ta->R (.tuple #[.string (⟨#[]⟩:Bt),iV d,iV 2]) k)/\((m==0)=Tb->XC Tp 252 #[.pointer (Tc ⟨h.size,0,Td⟩),.int .i32 l] k (λn o=>∃p,∃q:Value,n=.tuple #[iV p,q]/\(b (YJ .i64 (d+m)) o/\c (YJ .i64 (d+m)) o<c d e))))))/\(decide (d<s.size)=Tb->R (.tuple #[.string (⟨#[]⟩:Bt),iV (s.size:Int),iV 2]) e)))):
  XC Tp 195 #[.string s,.int .i64 r] h R:=
 XF ⟨[],[(5,[(1,.one (.int .i64))])],[]⟩ [.tmp 4,.tmp 5,.tmp 6] 51 Tryz.func195 H
theorem MX(i:Int)(k:Int)(c2:Addr)(h:zc)(R:Value->zc->Prop) (H:let a:=h.push (.cells #[iV 0,iV 0,iV 0] 171);∃b,ze a c2=Tc (iV b)/\XRunU Tp (YN 171 (.pointer (Tc ⟨h.size,0,Td⟩)) (.agg #[iV i,iV b,iV k])) a (λc=>∃d e f,zd c ⟨h.size,0,Td⟩ 0 [iV d,iV e,iV f]/\R (.tuple #[.agg #[iV d,iV e,iV f],iV 0]) c)):
  XC Tp 331 #[.int .i64 i,.int .i64 k,.pointer (Tc c2)] h R:=
 XF ⟨[],[],[]⟩ [.cell 5 171,.tmp 6] 12 Tryz.func331 H
theorem Tx(m:Bt)(i:FuncId)(l:Array Value)(k:Array Value)(h:zc)(R:Value->zc->Prop) (H:∃(a:Int->zc->Prop) (b:Int->zc->Nat),a 0 h/\∀c:Int,∀d:zc,a c d->((decide (c<m.size)=Ta->(0<=c/\c<m.size)/\zx Tp i=Ta/\XC Tp i (l++#[.int .u8 (zf m c.toNat)]++k) d (λe f=>∃g,e=.bool g/\((!g)=Ta->R (iV c) f)/\((!g)=Tb->(a (YJ .i64 (c+1)) f/\b (YJ .i64 (c+1)) f<b c d))))/\(decide (c<m.size)=Tb->R (iV (m.size:Int)) d))):
  XC Tp 333 #[.string m,.func (.func i) l k] h R:=
 XF ⟨[],[(2,[(8,.one (.int .i64))])],[]⟩ [.tmp 4] 21 Tryz.func333 H
theorem SQ(b:Bt)(h:zc)(R:Value->zc->Prop) (H:let a:=h.push (.cells #[.string b] 9);R (.func (.func 374) #[] #[.pointer (Tc ⟨h.size,0,Td⟩)]) a):
  XC Tp 334 #[.string b] h R:=
 XF ⟨[],[],[]⟩ [.tmp 2] 4 Tryz.func334 H
theorem Ny(e:Int)(c1:Addr)(h:zc)(R:Value->zc->Prop) (H:∃a,ze h c1=Tc (.string a)/\XC Tp 194 #[.string a,.int .u8 e] h (λb c=>∃d,b=iV d/\R (.bool (decide (d>=0))) c)):
  XC Tp 374 #[.int .u8 e,.pointer (Tc c1)] h R:=
 XF ⟨[],[],[]⟩ [.tmp 3] 8 Tryz.func374 H
theorem Qp(s0:Bt)(aM:Int)(aL:Int)(h:zc)(R:Value->zc->Prop) (H:((s0.toList==(⟨#[]⟩:Bt).toList)=Ta->R (.tuple #[.int .u64 0,.iface 306 (iV 2)]) h)/\((s0.toList==(⟨#[]⟩:Bt).toList)=Tb->∀b:Bt->Int->zc->Prop,(∀c:Bt,∀d:Int,∀e:zc,(∀f:Int->zc->Prop,(∀g:Int,∀i:zc,(∀j:Int->zc->Prop,(∀k:Int,∀l:zc,(0<=(YJ .u64 g)/\xd Tp (convert 9 86 (.string c)) l (λm n=>∃o,m=aK o/\∃(p:Bool->Int->Int->zc->Prop) (q:Bool->Int->Int->zc->Nat),p Tb 0 0 n/\∀r:Bool,∀s t:Int,∀u:zc,p r s t u->((decide (t<o.len)=Ta->∃v,(o.a=Tc v/\0<=t/\t<o.len)/\∃w,ze u (v.add (t.toNat*1))=Tc (.int .u8 w)/\∀x:Bool->Int->zc->Prop,(∀y:Bool,∀z:Int,∀A:zc,((decide (z>=(YJ .u8 d))=Ta->R (.tuple #[.int .u64 0,.iface 306 (iV 2)]) A)/\(decide (z>=(YJ .u8 d))=Tb->(decide (s>=k)=Ta->R (.tuple #[.int .u64 (YJ .u64 ((YJ .u64 (1*2 ^ (min (YJ .u64 g).toNat 64)))-1)),.iface 306 (iV 1)]) A)/\(decide (s>=k)=Tb->((bif (decide ((YJ .u64 ((YJ .u64 (s*(YJ .u64 d)))+(YJ .u64 z)):Int)<(YJ .u64 (s*(YJ .u64 d)))))then Ta else(decide ((YJ .u64 ((YJ .u64 (s*(YJ .u64 d)))+(YJ .u64 z)):Int)>(YJ .u64 ((YJ .u64 (1*2 ^ (min (YJ .u64 g).toNat 64)))-1)))))=Ta->R (.tuple #[.int .u64 (YJ .u64 ((YJ .u64 (1*2 ^ (min (YJ .u64 g).toNat 64)))-1)),.iface 306 (iV 1)]) A)/\((bif (decide ((YJ .u64 ((YJ .u64 (s*(YJ .u64 d)))+(YJ .u64 z)):Int)<(YJ .u64 (s*(YJ .u64 d)))))then Ta else(decide ((YJ .u64 ((YJ .u64 (s*(YJ .u64 d)))+(YJ .u64 z)):Int)>(YJ .u64 ((YJ .u64 (1*2 ^ (min (YJ .u64 g).toNat 64)))-1)))))=Tb->(p y (YJ .u64 ((YJ .u64 (s*(YJ .u64 d)))+(YJ .u64 z))) (YJ .i64 (t+1)) A/\q y (YJ .u64 ((YJ .u64 (s*(YJ .u64 d)))+(YJ .u64 z))) (YJ .i64 (t+1)) A<q r s t u)))))->x y z A)->((bif (w==95)then(aM==0)else Tb)=Ta->(p Ta s (YJ .i64 (t+1)) u/\q Ta s (YJ .i64 (t+1)) u<q r s t u))/\((bif (w==95)then(aM==0)else Tb)=Tb->((bif (decide ((48:Int)<=w))then(decide (w<=57))else Tb)=Ta->x r (YJ .u8 (w-48)) u)/\((bif (decide ((48:Int)<=w))then(decide (w<=57))else Tb)=Tb->XC Tp 375 #[.int .u8 w] u (λB C=>∃D,B=.int .u8 D/\∃E:Value->zc->Prop,(decide ((97:Int)<=D)=Ta->XC Tp 375 #[.int .u8 w] C (λF G=>∃I,F=.int .u8 I/\E (.int .u8 I) G))/\(decide ((97:Int)<=D)=Tb->∃J,E (.int .u8 J) C)/\(decide ((97:Int)<=D)=Ta->∀L M,E L M->∃N,L=.int .u8 N)/\∀O:Int,∀P,E (.int .u8 O) P->((bif (decide ((97:Int)<=D))then(decide (O<=122))else Tb)=Ta->XC Tp 375 #[.int .u8 w] P (λQ S=>∃T,Q=.int .u8 T/\x r (YJ .u8 ((YJ .u8 (T-97))+10)) S))/\((bif (decide ((97:Int)<=D))then(decide (O<=122))else Tb)=Tb->R (.tuple #[.int .u64 0,.iface 306 (iV 2)]) P)))))/\(decide (t<o.len)=Tb->∃U:Value->zc->Prop,(r=Ta->XC Tp 376 #[.string s0] u (λV W=>∃X,V=.bool X/\U (.bool X) W))/\(r=Tb->∃Y,U (.bool Y) u)/\(r=Ta->∀Z aa,U Z aa->∃ab,Z=.bool ab)/\∀ac:Bool,∀ad,U (.bool ac) ad->((bif r then(!ac)else Tb)=Ta->R (.tuple #[.int .u64 0,.iface 306 (iV 2)]) ad)/\((bif r then(!ac)else Tb)=Tb->R (.tuple #[.int .u64 s,.nilIface]) ad)))))->j k l)->((d==10)=Ta->j 1844674407370955162 i)/\((d==10)=Tb->((d==16)=Ta->j 1152921504606846976 i)/\((d==16)=Tb->IntKind.u64=IntKind.u64/\(YJ .u64 d)≠0/\j (YJ .u64 ((YJ .u64 ((18446744073709551615:Int).tdiv (YJ .u64 d)))+1)) i)))->f g i)->((aL==0)=Ta->f 64 e)/\((aL==0)=Tb->((bif (decide (aL<0))then Ta else(decide (aL>64)))=Ta->R (.tuple #[.int .u64 0,.iface 306 (iV 4)]) e)/\((bif (decide (aL<0))then Ta else(decide (aL>64)))=Tb->f aL e)))->b c d e)->((bif (decide ((2:Int)<=aM))then(decide (aM<=36))else Tb)=Ta->b s0 aM h)/\((bif (decide ((2:Int)<=aM))then(decide (aM<=36))else Tb)=Tb->((aM==0)=Ta->(0<=(0:Int)/\(0:Int)<(s0.size:Int))/\(((zf s0 (0:Int).toNat:Int)==48)=Ta->(decide ((s0.size:Int)>=3)=Ta->(0<=(1:Int)/\(1:Int)<(s0.size:Int)))/\∃ae:Value->zc->Prop,(decide ((s0.size:Int)>=3)=Ta->XC Tp 375 #[.int .u8 (zf s0 (1:Int).toNat)] h (λaf ag=>∃ah,af=.int .u8 ah/\ae (.int .u8 ah) ag))/\(decide ((s0.size:Int)>=3)=Tb->∃ai,ae (.int .u8 ai) h)/\(decide ((s0.size:Int)>=3)=Ta->∀aj ak,ae aj ak->∃al,aj=.int .u8 al)/\∀am:Int,∀an,ae (.int .u8 am) an->((bif (decide ((s0.size:Int)>=3))then(am==98)else Tb)=Ta->(0<=(2:Int)/\(2:Int)<=(s0.size:Int)/\(s0.size:Int)<=(s0.size:Int))/\b (s0.extract (2:Int).toNat (s0.size:Int).toNat) 2 an)/\((bif (decide ((s0.size:Int)>=3))then(am==98)else Tb)=Tb->(decide ((s0.size:Int)>=3)=Ta->(0<=(1:Int)/\(1:Int)<(s0.size:Int)))/\∃ao:Value->zc->Prop,(decide ((s0.size:Int)>=3)=Ta->XC Tp 375 #[.int .u8 (zf s0 (1:Int).toNat)] an (λap aq=>∃ar,ap=.int .u8 ar/\ao (.int .u8 ar) aq))/\(decide ((s0.size:Int)>=3)=Tb->∃au,ao (.int .u8 au) an)/\(decide ((s0.size:Int)>=3)=Ta->∀av aw,ao av aw->∃ax,av=.int .u8 ax)/\∀ay:Int,∀az,ao (.int .u8 ay) az->((bif (decide ((s0.size:Int)>=3))then(ay==111)else Tb)=Ta->(0<=(2:Int)/\(2:Int)<=(s0.size:Int)/\(s0.size:Int)<=(s0.size:Int))/\b (s0.extract (2:Int).toNat (s0.size:Int).toNat) 8 az)/\((bif (decide ((s0.size:Int)>=3))then(ay==111)else Tb)=Tb->(decide ((s0.size:Int)>=3)=Ta->(0<=(1:Int)/\(1:Int)<(s0.size:Int)))/\∃aA:Value->zc->Prop,(decide ((s0.size:Int)>=3)=Ta->XC Tp 375 #[.int .u8 (zf s0 (1:Int).toNat)] az (λaB aC=>∃aD,aB=.int .u8 aD/\aA (.int .u8 aD) aC))/\(decide ((s0.size:Int)>=3)=Tb->∃aE,aA (.int .u8 aE) az)/\(decide ((s0.size:Int)>=3)=Ta->∀aF aG,aA aF aG->∃aH,aF=.int .u8 aH)/\∀aI:Int,∀aJ,aA (.int .u8 aI) aJ->((bif (decide ((s0.size:Int)>=3))then(aI==120)else Tb)=Ta->(0<=(2:Int)/\(2:Int)<=(s0.size:Int)/\(s0.size:Int)<=(s0.size:Int))/\b (s0.extract (2:Int).toNat (s0.size:Int).toNat) 16 aJ)/\((bif (decide ((s0.size:Int)>=3))then(aI==120)else Tb)=Tb->(0<=(1:Int)/\(1:Int)<=(s0.size:Int)/\(s0.size:Int)<=(s0.size:Int))/\b (s0.extract (1:Int).toNat (s0.size:Int).toNat) 8 aJ))))/\(((zf s0 (0:Int).toNat:Int)==48)=Tb->b s0 10 h))/\((aM==0)=Tb->R (.tuple #[.int .u64 0,.iface 306 (iV 3)]) h)))):
  XC Tp 342 #[.string s0,.int .i64 aM,.int .i64 aL] h R:=
 XF ⟨[],[(36,[(12,.one (.bool)),(13,.one (.int .u64)),(101,.one (.int .i64))])],[(21,[(0,.one (.str)),(1,.one (.int .i64))]),(25,[(2,.one (.int .i64))]),(32,[(10,.one (.int .u64))]),(46,[(12,.one (.bool)),(16,.one (.int .u8))])]⟩ [.tmp 6,.tmp 7] 172 Tryz.func342 H
theorem TW(l:Bt)(k:Int)(i:Int)(h:zc)(R:Value->zc->Prop) (H:XC Tp 342 #[.string l,iV k,iV i] h (λa b=>∃c,∃d:Value,a=.tuple #[.int .u64 c,d]/\kC d=Ta/\((!kF d)=Ta->XC Tp 286 #[.string (⟨#[80,97,114,115,101,85,105,110,116]⟩:Bt),.string l,iV k,iV i,d] b (λe f=>∃g:Value,e=g/\R (.tuple #[.int .u64 c,g]) f))/\((!kF d)=Tb->R (.tuple #[.int .u64 c,.nilIface]) b))):
  XC Tp 386 #[.string l,.int .i64 k,.int .i64 i] h R:=
 XF ⟨[],[],[]⟩ [.tmp 6,.tmp 7] 26 Tryz.func386 H
end
section
variable {gl:Fr}
theorem E3{gl:Fr}(v:Tr)(l d:Int)(z:0<=l/\l<=1000)(w:0<=d/\d<=61){R:Int->Prop}(h:∀r,-1000000000000000<=r->r<=l->(0<=r->r+gw v<=l)->R r):PC Tp gl 80 [Arg.mk .tree v,Arg.mk (.int .i64) l,Arg.mk (.int .i64) d] [.int .i64] R:=by
 refine PC.bd λe=>?_;have x:v.keys.length<=140737488355328/\v.items.length<=140737488355328:=e ⟨.tree,v⟩ (by simp);apply T7;refine⟨λm=>h _ (by omega) (by omega) (by omega),λm=>?_⟩;have u:d<=60:=by simp at m;omega
 rw[cR (n:=l-1) (by omega),cR (by omega)];refine⟨λc i=>∃k:Nat,i=k/\k<=v.items.length/\-1000000000000000<=c/\c<=l/\(0<=c->c+(1+v.keys.length+fT (v.items.take k))<=l),λc i=>v.items.length-i.toNat,⟨0,rfl,by omega,by omega,by omega,λ_=>by simp[fT];omega⟩,?_⟩;rintro c i ⟨k,rfl,y,h1,q,t⟩;refine⟨λf=>?_,λf=>h c h1 q λh0=>?_⟩;have b:k<v.items.length/\0<=c:=by simp at f;omega
 refine⟨v.items[k],⟨by omega,jl b.1⟩,?_⟩;rw[qu,cR (by omega)];have o:=q9 (YW b.1);refine E3 v.items[k] c (d+1) ⟨b.2,by omega⟩ (by omega) λr s A p=>?_;rw[qd b.1 (by omega)];refine⟨⟨k+1,rfl,by omega,s,by omega,λh0=>?_⟩,by grind⟩;have:=p h0;have:=t b.2;rw[U8 b.1];omega;grind [NZ]
termination_by bK v
theorem HS{gl:Fr}(v:Tr){R:Bool->Prop}(h:∀b,(b=Ta->jn v)->R b):PC Tp gl 81 [Arg.mk .tree v] [.bool] R:=by
 refine PC.bd λo=>?_;have t:v.keys.length<=140737488355328/\v.items.length<=140737488355328:=o ⟨.tree,v⟩ (by simp);apply QE;refine⟨λq=>h _ (λe=>by cases e),λq=>?_⟩;have m:v.text.size<=2048:=by simp at q;omega
 refine⟨λi=>∃k:Nat,i=k/\k<=v.keys.length/\∀x∈v.keys.take k,x.size<=1024,λi=>v.keys.length-i.toNat,⟨0,rfl,by omega,by simp⟩,?_⟩;rintro i ⟨k,rfl,w,h1⟩;refine⟨λn=>?_,λn=>?_⟩;have f:k<v.keys.length:=by simp at n;omega
 refine⟨v.keys[k],⟨by omega,kM f⟩,λ_=>h _ (λe=>by cases e),λr=>?_⟩;have u:v.keys[k].size<=1024:=by simp at r;omega
 rw[qd f (by omega)];refine⟨⟨k+1,rfl,by omega,?_⟩,by grind⟩;rw[YP f];grind;have f:k=v.keys.length:=by simp at n;omega
 subst f;rw[ZO]at h1;refine⟨λi=>∃k:Nat,i=k/\k<=v.items.length/\∀x∈v.items.take k,jn x,λi=>v.items.length-i.toNat,⟨0,rfl,by omega,by simp⟩,?_⟩;rintro i ⟨k,rfl,w,p⟩;refine⟨λl=>?_,λl=>h _ λ_=>?_⟩;have c:k<v.items.length:=by simp at l;omega
 refine⟨v.items[k],⟨by omega,jl c⟩,?_⟩;rw[qu];have s:=q9 (YW c);refine HS v.items[k] λb t=>⟨λ_=>h _ (λe=>by cases e),λr=>?_⟩;rw[qd c (by omega)];refine⟨⟨k+1,rfl,by omega,?_⟩,by grind⟩;rw[YP c];grind;have c:k=v.items.length:=by simp at l;omega
 subst c;rw[ZO]at p;exact(SI v).2 ⟨⟨m,h1⟩,BN.2 p⟩
termination_by bK v
theorem A6{v:Tr}{m:Int}(f:0<=m/\m<=1000){R:Bool->Prop}(h:∀b,(b=Ta->gw v<=m/\Sm v)->R b):PC Tp gl 39 [Arg.mk .tree v,Arg.mk (.int .i64) m] [.bool] R:=by
 apply T8;rw[qu];refine E3 v m 0 f (by omega) λr h1 i k=>⟨λb=>b=Ta->jn v,λ_=>HS v λb c=>c,λb c=>h _ λe=>?_⟩;cases hr:decide (r>=0)with
 |false=>simp_all
 |true=>rw[hr,zF]at e;grind [Sm.few]
theorem Uh(b:GL gl){n:Int}(h1:-1000000<=n)(c:n<=1000000){R:Tr->Prop}(h:R (.mk 3 (bl (Qr (zo (Lib.itoa n)).1)) [] [])):PC Tp gl 30 [Arg.mk (.int .i64) n] [.tree] R:=by apply QA;refine VC b.pow (by omega) (by omega) ?_;exact v6 b.pow (jc _ (by have:=Go.X.itoa_len n;omega)) h
theorem uK{gl:Fr}(a b:Tr){R:Bool->Prop}(h:∀r,(r=Ta↔a=b)->R r):PC Tp gl 24 [Arg.mk .tree a,Arg.mk .tree b] [.bool] R:=by
 refine PC.bd λw=>?_;have G:a.keys.length<=140737488355328/\a.items.length<=140737488355328:=w ⟨.tree,a⟩ (by simp);apply R0;have z:∀s t:Bt,(s.toList==t.toList)=decide (s=t):=λs t=>by rw[xj,xj,ZR,beq_iff_eq,zA];exact oy
 simp only[z];refine⟨λp=>h _ ⟨λe=>(by cases e),λe=>?_⟩,λp=>?_⟩;simp_all;have m:a.kind=b.kind/\a.text=b.text/\a.keys.length=b.keys.length/\a.items.length=b.items.length:=by simp at p;obtain⟨⟨⟨h1,y⟩,F⟩,H⟩:=p;exact⟨h1,y,by omega,by omega⟩
 obtain⟨I,J,D,E⟩:=m;refine⟨λi=>∃k:Nat,i=k/\k<=a.keys.length/\a.keys.take k=b.keys.take k,λi=>a.keys.length-i.toNat,⟨0,rfl,by omega,by simp⟩,?_⟩;rintro i ⟨k,rfl,C,h1⟩;refine⟨λu=>?_,λu=>?_⟩;have c:k<a.keys.length:=by simp at u;omega
 have n:k<b.keys.length:=by omega
 refine⟨a.keys[k],⟨by omega,kM c⟩,b.keys[k],⟨by omega,kM n⟩,λl=>h _ ⟨λe=>(by cases e),λe=>?_⟩,λl=>?_⟩;simp_all;have q:a.keys[k]=b.keys[k]:=by simpa using l
 rw[qd c (by omega)];refine⟨⟨k+1,rfl,by omega,?_⟩,by grind⟩;grind [YP];have c:k=a.keys.length:=by simp at u;omega
 subst c;rw[ZO,D,ZO]at h1;refine⟨λi=>∃k:Nat,i=k/\k<=a.items.length/\a.items.take k=b.items.take k,λi=>a.items.length-i.toNat,⟨0,rfl,by omega,by simp⟩,?_⟩;rintro i ⟨k,rfl,C,y⟩;refine⟨λx=>?_,λx=>h _ ⟨λ_=>?_,λ_=>rfl⟩⟩;have f:k<a.items.length:=by simp at x;omega
 have o:k<b.items.length:=by omega
 refine⟨a.items[k],⟨by omega,jl f⟩,b.items[k],⟨by omega,jl o⟩,?_⟩;rw[qu,qu];have A:=q9 (YW f);refine uK a.items[k] b.items[k] λr B=>⟨λl=>h _ ⟨λe=>(by cases e),λe=>?_⟩,λl=>?_⟩;simp_all;have q:a.items[k]=b.items[k]:=B.1 (by simpa using l);rw[qd f (by omega)];grind [YO,YP];grind
termination_by bK a
end
section
variable {a b:List Bt} {k:Nat} {gl:Fr}
theorem r8(s t:Bt):zbi s.toList t.toList=decide (fk (lb s) (lb t)=-1):=by rw[xj,xj,Ed]
theorem EY(s t:Bt):(s.toList==t.toList)=decide (fk (lb s) (lb t)=0):=by rw[xj,xj,ZR,beq_iff_eq,zA,cmpS_is.eq0]
def i4(a b:List Bt):Int:=cmpL (a.map lb) (b.map lb)
theorem AK(h:a.take k=b.take k):i4 a b=i4 (a.drop k) (b.drop k):=by unfold i4;rw[N0 (k:=k),List.map_drop,List.map_drop];rw[<-List.map_take,<-List.map_take,h]
theorem Ud(x y:Bt)(a b:List Bt):i4 (x::a) (y::b)=if fk (lb x) (lb y)=0 then i4 a b else fk (lb x) (lb y):=rfl
theorem NF(h : a.take k = b.take k)(hk : k = a.length \/ k = b.length): i4 a b = if a.length < b.length then -1 else if b.length < a.length then 1 else 0 := by
  have hl := congrArg zam h;simp only [za0] at hl;rw [AK h];rcases hk with rfl | rfl;rw [zbm];cases hd : b.drop a.length with
  | nil => have := List.drop_eq_nil_iff.1 hd; (rw [za (by omega), za (by omega)]; rfl)
  | cons y t => have : a.length < b.length := by
                  rcases zad a.length b.length with q | q;exact q;rw [zac q] at hd; cases hd
                rw [zb this]; rfl
  rw [zbm];cases hd : a.drop b.length with
  | nil => have := List.drop_eq_nil_iff.1 hd; (rw [za (by omega), za (by omega)]; rfl)
  | cons y t => have : b.length < a.length := by
                  rcases zad b.length a.length with q | q;exact q;rw [zac q] at hd; cases hd
                rw [za (by omega), zb this]; rfl
theorem VU(h:a.take k=b.take k)(e:k<a.length)(f:k<b.length)(c:fk (lb a[k]) (lb b[k])≠0):i4 a b=fk (lb a[k]) (lb b[k]):=by rw[AK h,ZM e,ZM f,Ud,za c]
theorem JV(h:a.take k=b.take k)(c:k<a.length)(f:k<b.length)(e:fk (lb a[k]) (lb b[k])=0):a.take (k+1)=b.take (k+1):=by rw[YP c,YP f,h,oy.1 ((cmpS_is.eq0 _ _).1 e)]
theorem KU(u:a.length<=1000000){R:Int->Prop}(h:R (i4 a b)):PC Tp gl 54 [Arg.mk (.row .str) a,Arg.mk (.row .str) b] [.int .i64] R:=by
 apply NK;refine⟨λi=>∃k:Nat,i=k/\k<=a.length/\k<=b.length/\a.take k=b.take k,λi=>a.length-i.toNat,⟨0,rfl,by omega,by omega,by simp⟩,?_⟩;rintro i ⟨k,rfl,x,t,n⟩;refine⟨λm=>?_,λm=>?_⟩;have c:k<a.length/\k<b.length:=by simp at m;omega
 have q:=kM c.1;have r:=kM c.2;have p:=VU n c.1 c.2;have w:=cmpS_is.rng (lb a[k]) (lb b[k]);refine⟨a[k],⟨by omega,q⟩,b[k],⟨by omega,r⟩,λl=>?_,λl=>⟨a[k],⟨by omega,q⟩,b[k],⟨by omega,r⟩,λe=>?_,λe=>?_⟩⟩;rw[r8]at l;have f:fk (lb a[k]) (lb b[k])=-1:=by simpa using l
 rw[p (by omega),f]at h;exact h;rw[r8,EY]at e;have f:fk (lb a[k]) (lb b[k])=1:=by simp at e;omega
 rw[p (by omega),f]at h;exact h;rw[r8]at l;rw[r8,EY]at e;have f:fk (lb a[k]) (lb b[k])=0:=by simp at l e;omega
 have o:=qd c.1 (by omega);rw[o];exact⟨⟨k+1,rfl,by omega,by omega,JV n c.1 c.2 f⟩,by have:=c.1;simp only[YO];omega⟩;have c:k=a.length\/k=b.length:=by simp at m;by_cases l:k<a.length;right;have:=m l;omega;left;omega
 rw[NF n c]at h;refine⟨λl=>?_,λl=>⟨λe=>?_,λe=>?_⟩⟩;have:a.length<b.length:=by simp at l;omega
 rw[zb this]at h;exact h;have:b.length<a.length:=by simp at e;omega
 rw[za (by omega),zb this]at h;exact h;have h1:¬a.length<b.length:=by simp at l;omega
 have s:¬b.length<a.length:=by simp at e;omega
 rw[za h1,za s]at h;exact h
theorem Mw(a b:List Bt):i4 a b=0↔a=b:=by unfold i4;rw[cmpL_is.eq0];constructor;intro h;have:=congrArg (List.map bl) h;rw[za8,za8]at this;have e:(bl ∘ lb)=(id:Bt->Bt):=funext λx=>gv x;rw[e,List.map_id,List.map_id]at this;exact this;rintro rfl;rfl
theorem oc(c:a.length<=1000000){R:Bool->Prop}(h:∀r,(r=Ta↔a=b)->R r):PC Tp gl 21 [Arg.mk (.row .str) a,Arg.mk (.row .str) b] [.bool] R:=by apply JO;refine KU c (h _ ?_);rw[<-Mw];simp
end
end Go.X
end
section
namespace Go.X
open Go Go.Proofs Go.Shelf Go.RowKit
section
def CW:Go.Shelf.Ren:=⟨fun|169=>72|n=>n,fun|70=>85|9=>9|0=>0|72=>88|37=>86|127=>149|3=>3|5=>5|n=>n,fun|n=>n⟩
theorem TH:Go.Proofs.Lays.n169 Tp CW:=by constructor <;> intros <;> kernel_rfl
theorem Of:Builder.Extra Tp CW:={
 sizeBuilder:=by kernel_rfl
 liesBuilder:=by kernel_rfl
 t5:=Tryz.underlying5
 a5:=Tryz.isAgg5
 z5:=Tryz.sizeOf5
 v5:=Tryz.zeroValue5
 infoByte:=by kernel_rfl
 cellsByte:=by kernel_rfl
 sizeByte:=by kernel_rfl
 neB5:=by decide }
theorem Rn(B b:Nat)(l:List UInt8)(w:World)(h:Lib.IsBuilder 88 5 B b (Lib.byteCells l) w)(c:B<=w.heap.size): Calls Tp 72 #[.pointer (Tc ⟨b,0,Td⟩)] w λe w'=>e=.returned (.string ⟨l.toArray⟩)/\Below B w w':=Any.Builder_String_any TH Of B b l w h c
def Sr:Go.Shelf.Ren:=⟨fun|153=>359|152=>351|226=>383|227=>241|228=>293|137=>194|119=>381|224=>312|225=>311|217=>262|266=>316|n=>n,fun|9=>9|3=>3|4=>4|5=>5|21=>21|117=>237|116=>236|0=>0|46=>244|124=>240|n=>n,fun|n=>n⟩
theorem Lj:Go.Proofs.Lays.n153 Tp Sr:=by constructor <;> intros <;> kernel_rfl
open Go.RowKit Go.Lib in
theorem Xc(h:∀w,(zeroValue 236).run Tp w=.ok (.agg (zar 256 (.bool Tb))) w)(s c:Bt)(w:World)(l:2<=c.size)(k:8<s.size)(m:s.size<4294967281)(i:c.size<4294967281)(f:∀(j:Nat) b,c.data.toList[j]?=Tc b->b.toNat<128): Calls Tp 359 #[.string s,.string c] w λe w'=>e=.returned (.int .i64 (Lib.indexAny s.data.toList c.data.toList))/\w'=((w.alloc (.cells (Lib.setCells c.data.toList) 236)).alloc (.cells (Lib.setCells c.data.toList) 236)):=Any.strings_IndexAny_long Lj h (by kernel_rfl) s c w l k m i f
end
end Go.X
end
section
namespace Go.X
open Go Go.X Go.Proofs Go.RowKit
section
variable {h h':zc} {b:Nat} {l:Bs} {cs:Array Value} {s:Sl} {K:Value -> zc -> Prop}
def Bld(h:zc)(b:Nat)(l:Bs):Prop:=∃(p:Option Addr) (s:Sl),h[b]?=Tc (.cells #[.pointer p,aK s] 88 (0,0))/\(p=Td\/p=Tc ⟨b,0,Td⟩)/\Owns h (b+1) 5 1 s (Lib.byteCells l)
theorem Bld.lt(H:Bld h b l):b<h.size:=by obtain⟨p,s,e,_⟩:=H;grind
theorem Bld.keep(H:Bld h b l)(k:Keep h.size h h'):Bld h' b l:=by have c:=H.lt;obtain⟨p,s,e,f,i⟩:=H;exact⟨p,s,by rw[k.get b c];exact e,f,i.keepN k⟩
theorem Bld.new(h:zc):Bld (h.push (.cells #[.pointer Td,.slice Td 0 0] 88)) h.size []:= ⟨Td,⟨Td,0,0⟩,xq _ _,.inl rfl,Owns.nil _ _ _ _⟩
theorem Hp:(ZW.info? 88).map (·.size)=Tc 2:=by kernel_rfl
theorem WS:liesAt Tp ZW.depth 88 (2 / ZW.cellsOf 88) 0 88 1=Ta:=by kernel_rfl
theorem AH:ZW.underlying 85=Tc (.pointer 88):=by kernel_rfl
theorem GH:ZW.underlying 196=Tc .unsafePointer:=by kernel_rfl
set_option maxHeartbeats 1000000 in
set_option maxRecDepth 100000 in
theorem YA(b:Nat)(w:World)(h0:w.cell? ⟨b,0,Td⟩=Tc (.pointer (Tc ⟨b,0,Td⟩))):
  Calls Tp 116 #[.pointer (Tc ⟨b,0,Td⟩)] w λe w'=>e=.returned (.tuple #[])/\w'=w:=by
 obtain⟨j,c,_⟩:=zbu.1 Hp;have mixed:=Tryz.mixed
 go_enter Tryz.func116,Tryz.ntmps116
 go_wp2
 rw[Lib.run_neq_ptr_same w _ AH c]
 go_wp2
 go_end0
 simp
set_option maxHeartbeats 1000000 in
set_option maxRecDepth 100000 in
theorem OH(b:Nat)(w:World)(h0:w.cell? ⟨b,0,Td⟩=Tc (.pointer Td))(c:w.shape? b=Tc (88,2))(h:w.frozen? ⟨b,0,Td⟩=Tb):
  Calls Tp 116 #[.pointer (Tc ⟨b,0,Td⟩)] w λe w'=>e=.returned (.tuple #[])/\w'=w.setCell ⟨b,0,Td⟩ (.pointer (Tc ⟨b,0,Td⟩)):=by
 obtain⟨j,f,i⟩:=zbu.1 Hp;have mixed:=Tryz.mixed
 go_enter Tryz.func116,Tryz.ntmps116
 go_wp2
 rw[Lib.run_to_unsafe w ⟨b,0,Td⟩ AH GH f (by omega) c (Nat.zero_lt_succ 1)];simp only[Result.andThen];rw[Oper.upon_value]
 go_wp2
 rw[run_callFunc_extern Tryz.func188 (by kernel_rfl) (by kernel_rfl) (by kernel_rfl) (e:=Extern.AbiNoEscape.same) (by kernel_rfl)];rw[Lib.run_noEscape];simp only[Result.andThen];rw[Oper.upon_value]
 go_wp2
 rw[Lib.run_from_unsafe w ⟨b,0,Td⟩ GH AH f c WS];simp only[Result.andThen];rw[Oper.upon_value]
 go_wp2
 go_end0
 simp
theorem Kz{b o:Nat}{T:TypeId}(e:h[b]?=Tc (.cells cs T (0,0)))(v:Value)(B:World)(d:Nat):(mk B d h).setCell ⟨b,o,Td⟩ v=mk B d (h.setIfInBounds b (.cells (cs.setIfInBounds o v) T (0,0))):=by unfold World.setCell mk;simp only;congr 1;grind
theorem Keep.ne(e:h'.size=h.size)(c:∀i,i≠b->h'[i]?=h[i]?):Keep b h h':=⟨by omega,λi hi=>c i (by omega)⟩
def Itk(h h':zc):Prop:=∀(i:Nat) (s:Bt) (p:Nat),h[i]?=Tc (.stringIter s p)->h'[i]?=Tc (.stringIter s p)
theorem Itk.trans{a b c:zc}(x:Itk a b)(y:Itk b c):Itk a c:=λi s p e=>y i s p (x i s p e)
theorem Itk.keep(k:Keep h.size h h'):Itk h h':=λi s p e=>by have hi:i<h.size:=(YV.1 e).1;rw[k.get i hi];exact e
theorem Itk.ne{T:TypeId}{m:Nat×Nat}(e:h[b]?=Tc (.cells cs T m))(f:∀i,i≠b->h'[i]?=h[i]?):Itk h h':=λi s p c=>by grind
theorem Itk.own{base:Nat}{e:TypeId}{sz:Nat}{xs:List Value}(H:Owns h base e sz s xs)(f:∀i,i<h.size->(∀p,s.a=Tc p->i≠p.block)->h'[i]?=h[i]?):Itk h h':=λi t p k=>by have hi:i<h.size:=(YV.1 k).1;rw[f i hi λq n m=>?_];exact k;rcases H.2 with⟨l,_⟩|⟨g,cap,b,l,_,c,_⟩;simp_all;have c:h[g]?=Tc (.cells b e (0,0)):=c;simp_all
theorem JK(H:Bld h b l)(k:∀h',Bld h' b l->Keep b h h'->h'.size=h.size->Itk h h'->K (.tuple #[]) h'):XC Tp 116 #[.pointer (Tc ⟨b,0,Td⟩)] h K:=by
 have o:=H.lt;obtain⟨p,s,e,m,f⟩:=H;have c:∀B d,(mk B d h).cell? ⟨b,0,Td⟩=Tc (.pointer p):=λB d=>by have:(mk B d h).heap[b]?=Tc (.cells #[.pointer p,aK s] 88 (0,0)):=e;simp[World.cell?,this]
 rcases m with rfl|rfl;refine XC.of_calls λB d=>(OH b (mk B d h) (c B d) ?_ ?_).mono ?_
 have:(mk B d h).heap[b]?=Tc (.cells #[.pointer Td,aK s] 88 (0,0)):=e;simp[World.shape?,this];exact HP ⟨_,e⟩ B d;rintro e' w' ⟨rfl,rfl⟩;rw[Kz e];refine⟨_,rfl,rfl,rfl,rfl,?_⟩;show K _ (h.setIfInBounds b _);refine k _ ⟨_,s,?_,.inr rfl,?_⟩ ?_ (by simp) (Itk.ne e λi hi=>zb2 (Ne.symm hi));simp_all;refine f.keep λq n=>?_;have:=f.base_le q n;grind;exact Keep.setBlk _ (YM _);refine XC.of_calls λB d=>(YA b (mk B d h) (c B d)).mono ?_;rintro e' w' ⟨rfl,rfl⟩;exact⟨_,rfl,rfl,rfl,rfl,k _ ⟨_,s,e,.inr rfl,f⟩ (Keep.refl _ _) rfl (Itk.keep (Keep.refl _ _))⟩
theorem elemU8:ElemT Tp 86 5 (.int .u8 0) 1 1:=⟨by kernel_rfl,⟨Tryz.t5,by kernel_rfl,by kernel_rfl,by kernel_rfl,by kernel_rfl⟩,rfl,by omega⟩
theorem KJ:ZW.underlying 9=Tc .string:=by kernel_rfl
theorem KL:qj Tp 86=Ta:=by kernel_rfl
theorem Ue:yb Tp 86=1:=by kernel_rfl
theorem Vj{p:Option Addr}{s u:Sl}(e:h[b]?=Tc (.cells #[.pointer p,aK u] 88 (0,0)))(m:p=Td\/p=Tc ⟨b,0,Td⟩)(i:Owns h (b+1) 5 1 s (Lib.byteCells l)){K:zc->Prop}
  (t:∀h',Bld h' b l->Keep b h h'->h'.size=h.size->Itk h h'->K h'):XRunU Tp (YN 86 (.pointer (Tc ⟨b,1,Td⟩)) (.slice s.a s.len s.cap)) h K:=by
 intro B d;obtain⟨h',r,k,f,c⟩:=Wp (P:=Tp) KL Ue e (o:=1) (v:=aK s) rfl (by simp) (by simp[aK,Value.cells,Value.oneCell']) B d;refine⟨d,h',r,t h' ⟨p,s,?_,m,?_⟩ (Keep.ne f c) f (Itk.ne e c)⟩;rw[k];rfl;refine i.keep λq n=>?_;have:=i.base_le q n;grind
theorem UU(H:Bld h b l)(o:∀h',Keep b h h'->K (.string (bl l)) h'):XC Tp 72 #[.pointer (Tc ⟨b,0,Td⟩)] h K:=by
 have k:=H.lt;obtain⟨p,s,e,n,i⟩:=H;refine XC.of_calls λB d=>(Rn b b l (mk B d h) ?_ (Nat.le_of_lt k)).mono ?_;have m:Lib.BuilderAt 88 5 b b (.pointer p) (Lib.byteCells l) (mk B d h):=by
  refine⟨YM _,aK s,e,?_,?_⟩;have h1:=i.1;rw[zb1]at h1;rw[h1];exact i.base (Nat.le_succ b);intro f;cases ha:s.a with
  |none=>rw[aK,ha]at f;cases f
  |some q=>
   have:=i.base_le q ha;rw[aK,ha]at f;have:q.block=b:=by simpa[Value.ownBlock]using f
   omega
 rcases n with rfl|rfl;exact .inl m;exact .inr m;rintro e' w' ⟨rfl,c⟩;exact⟨_,rfl,c.os,c.tape,c.output,o _ ⟨c.size,c.block⟩⟩
end
end Go.X
end
section
namespace Go.X
section
theorem Kk(gl:Fr)(b:Bt×List (Int×(Int×Int)×(Int×Int)×(List Int)×List (Int×Int)))(s1:Int×Int)(R:Bt->Prop) (H:((bif (bif (decide (s1.1<0))then Ta else(decide (s1.1>s1.2)))then Ta else(decide (s1.2>b.1.size)))=Ta->R (⟨#[]⟩:Bt))/\((bif (bif (decide (s1.1<0))then Ta else(decide (s1.1>s1.2)))then Ta else(decide (s1.2>b.1.size)))=Tb->(0<=s1.1/\s1.1<=s1.2/\s1.2<=b.1.size)/\R (b.1.extract s1.1.toNat s1.2.toNat))):
  PC Tp gl 149 [Arg.mk (.pair .str (.row (.pair (.int .i64) (.pair (.pair (.int .i64) (.int .i64)) (.pair (.pair (.int .i64) (.int .i64)) (.pair (.row (.int .i64)) (.row (.pair (.int .i64) (.int .i64))))))))) b,Arg.mk (.pair (.int .i64) (.int .i64)) s1] [.str] R:=
 PF ⟨[],[],[],[]⟩ [.tmp 4] 30 Tryz.func149 H
theorem JG(gl:Fr)(e:Int)(s1:Bt)(R:Bt->Prop) (H:((e==2)=Ta->R s1)/\((e==2)=Tb->((e==3)=Ta->PC Tp gl 107 [Arg.mk .str s1] [.pair .bool (.pair .str (.int .i64)),.int .i64] (λa:(Bool×Bt×Int)×Int=>PC Tp gl 63 [Arg.mk (.pair .bool (.pair .str (.int .i64))) (a.1.1,(a.1.2.1,a.1.2.2))] [.str] (λb:Bt=>R b)))/\((e==3)=Tb->((e==4)=Ta->PC Tp gl 126 [Arg.mk .str s1] [.str,.int .i64,.int .i64] (λc:Bt×Int×Int=>R c.1))/\((e==4)=Tb->R (⟨#[]⟩:Bt))))):
  PC Tp gl 148 [Arg.mk (.int .i64) e,Arg.mk .str s1] [.str] R:=
 PF ⟨[],[],[],[]⟩ [.tmp 4] 32 Tryz.func148 H
theorem Vb(gl:Fr)(c:Int)(R:Int->Prop) (H:((c==12)=Ta->R 1)/\((c==12)=Tb->∀a:Bool->Prop,(∀b:Bool,((b=Ta->R 2)/\(b=Tb->((c==9)=Ta->R 3)/\((c==9)=Tb->((c==8)=Ta->R 4)/\((c==8)=Tb->((c==4)=Ta->R 5)/\((c==4)=Tb->((c==2)=Ta->R 6)/\((c==2)=Tb->R 0))))))->a b)->((c==10)=Ta->a (c==10))/\((c==10)=Tb->a (c==11)))):
  PC Tp gl 210 [Arg.mk (.int .i64) c] [.int .i64] R:=
 PF ⟨[],[],[],[(6,⟨[(6,.one (.dat .bool))],[],[],[100384]⟩)]⟩ [.tmp 2] 17 Tryz.func210 H
theorem TN(gl:Fr)(b:Bt)(R:(Bt×Int×Int)->Prop) (H:PC Tp gl 195 [Arg.mk .str b,Arg.mk (.int .i64) 0] [.str,.int .i64,.int .i64] (λa:Bt×Int×Int=>((bif (a.2.2==0)then(decide (a.2.1<b.size))else Tb)=Ta->R ((⟨#[]⟩:Bt),a.2.1,2))/\((bif (a.2.2==0)then(decide (a.2.1<b.size))else Tb)=Tb->R (a.1,a.2.1,a.2.2)))):
  PC Tp gl 126 [Arg.mk .str b] [.str,.int .i64,.int .i64] R:=
 PF ⟨[],[],[],[]⟩ [.tmp 2,.tmp 3,.tmp 4] 26 Tryz.func126 H
theorem Lh(gl:Fr)(c:Int)(b:Int)(R:((Int×Int×Int)×Int)->Prop) (H:R ((0,(c,c)),b)):
  PC Tp gl 332 [Arg.mk (.int .i64) c,Arg.mk (.int .i64) b] [.pair (.int .i64) (.pair (.int .i64) (.int .i64)),.int .i64] R:=
 PF ⟨[],[],[],[]⟩ [.cell 4 171,.tmp 5] 11 Tryz.func332 H
theorem YB(gl:Fr)(c:Bt)(b:Int)(R:(Int×Int)->Prop) (H:((bif (decide (b<0))then Ta else(decide (b>c.size)))=Ta->R (0,2))/\((bif (decide (b<0))then Ta else(decide (b>c.size)))=Tb->PC Tp gl 195 [Arg.mk .str c,Arg.mk (.int .i64) b] [.str,.int .i64,.int .i64] (λa:Bt×Int×Int=>R (a.2.1,a.2.2)))):
  PC Tp gl 192 [Arg.mk .str c,Arg.mk (.int .i64) b] [.int .i64,.int .i64] R:=
 PF ⟨[],[],[],[]⟩ [.tmp 4,.tmp 5] 26 Tryz.func192 H
theorem ND(gl:Fr)(b:Int)(R:Bool->Prop) (H:R (bif (decide (b>=97))then(decide (b<=122))else Tb)):
  PC Tp gl 335 [Arg.mk (.int .u8) b] [.bool] R:=
 PF ⟨[],[],[],[]⟩ [.tmp 2] 9 Tryz.func335 H
theorem Ls(gl:Fr)(b:Bt)(R:Int->Prop) (H:((b.toList==(⟨#[116,114,117,101]⟩:Bt).toList)=Ta->R 10)/\((b.toList==(⟨#[116,114,117,101]⟩:Bt).toList)=Tb->((b.toList==(⟨#[102,97,108,115,101]⟩:Bt).toList)=Ta->R 11)/\((b.toList==(⟨#[102,97,108,115,101]⟩:Bt).toList)=Tb->((b.toList==(⟨#[110,117,108,108]⟩:Bt).toList)=Ta->R 12)/\((b.toList==(⟨#[110,117,108,108]⟩:Bt).toList)=Tb->R 0)))):
  PC Tp gl 336 [Arg.mk .str b] [.int .i64] R:=
 PF ⟨[],[],[],[]⟩ [.tmp 2] 10 Tryz.func336 H
theorem Ij(gl:Fr)(c:Bt)(R:(Int×Int)->Prop) (H:(0<=(0:Int)/\(0:Int)<(c.size:Int))/\(((zf c (0:Int).toNat:Int)==92)=Ta->PC Tp gl 317 [Arg.mk .str c] [.int .i32,.int .i64] (λa:Int×Int=>R (a.1,a.2)))/\(((zf c (0:Int).toNat:Int)==92)=Tb->PC Tp gl 233 [Arg.mk .str c] [.int .i32,.int .i64] (λb:Int×Int=>((bif (decide (b.1<32))then Ta else(bif (b.1==65533)then(b.2==1)else Tb))=Ta->R (0,0))/\((bif (decide (b.1<32))then Ta else(bif (b.1==65533)then(b.2==1)else Tb))=Tb->R (b.1,b.2))))):
  PC Tp gl 263 [Arg.mk .str c] [.int .i32,.int .i64] R:=
 PF ⟨[],[],[],[]⟩ [.tmp 2,.tmp 3] 30 Tryz.func263 H
theorem UT(gl:Fr)(c:Bt)(R:(Int×Int)->Prop) (H:(decide ((c.size:Int)<2)=Ta->R (0,0))/\(decide ((c.size:Int)<2)=Tb->(0<=(1:Int)/\(1:Int)<(c.size:Int))/\PC Tp gl 364 [Arg.mk (.int .u8) (zf c (1:Int).toNat)] [.int .i32,.bool] (λa:Int×Bool=>(a.2=Ta->R (a.1,2))/\(a.2=Tb->(0<=(1:Int)/\(1:Int)<(c.size:Int))/\(((zf c (1:Int).toNat:Int)==117)=Ta->PC Tp gl 365 [Arg.mk .str c] [.int .i32,.int .i64] (λb:Int×Int=>R (b.1,b.2)))/\(((zf c (1:Int).toNat:Int)==117)=Tb->R (0,0)))))):
  PC Tp gl 317 [Arg.mk .str c] [.int .i32,.int .i64] R:=
 PF ⟨[],[],[],[]⟩ [.tmp 2,.tmp 3] 24 Tryz.func317 H
theorem Te(gl:Fr)(c:Int)(R:(Int×Bool)->Prop) (H:∀a:Bool->Prop,(∀b:Bool,((b=Ta->R (YJ .i32 c,Ta))/\(b=Tb->((c==98)=Ta->R (8,Ta))/\((c==98)=Tb->((c==102)=Ta->R (12,Ta))/\((c==102)=Tb->((c==110)=Ta->R (10,Ta))/\((c==110)=Tb->((c==114)=Ta->R (13,Ta))/\((c==114)=Tb->((c==116)=Ta->R (9,Ta))/\((c==116)=Tb->R (0,Tb))))))))->a b)->((c==34)=Ta->a (c==34))/\((c==34)=Tb->((c==92)=Ta->a (c==92))/\((c==92)=Tb->a (c==47)))):
  PC Tp gl 364 [Arg.mk (.int .u8) c] [.int .i32,.bool] R:=
 PF ⟨[],[],[],[(5,⟨[(5,.one (.dat .bool))],[],[],[100320]⟩)]⟩ [.tmp 2,.tmp 3] 21 Tryz.func364 H
theorem WJ(gl:Fr)(f:Bt)(R:(Int×Int)->Prop) (H:(0<=(2:Int)/\(2:Int)<=(f.size:Int)/\(f.size:Int)<=(f.size:Int))/\PC Tp gl 384 [Arg.mk .str (f.extract (2:Int).toNat (f.size:Int).toNat)] [.int .i32,.bool] (λa:Int×Bool=>∀b:Bool->Prop,(∀c:Bool,((c=Ta->R (0,0))/\(c=Tb->((bif (decide (a.1<55296))then Ta else(decide (a.1>=57344)))=Ta->R (a.1,6))/\((bif (decide (a.1<55296))then Ta else(decide (a.1>=57344)))=Tb->(0<=(6:Int)/\(6:Int)<=(f.size:Int)/\(f.size:Int)<=(f.size:Int))/\PC Tp gl 76 [Arg.mk .str (f.extract (6:Int).toNat (f.size:Int).toNat),Arg.mk .str (⟨#[92,117]⟩:Bt)] [.bool] (λd:Bool=>((!d)=Ta->R (0,0))/\((!d)=Tb->(0<=(8:Int)/\(8:Int)<=(f.size:Int)/\(f.size:Int)<=(f.size:Int))/\PC Tp gl 384 [Arg.mk .str (f.extract (8:Int).toNat (f.size:Int).toNat)] [.int .i32,.bool] (λe:Int×Bool=>((bif (bif (!e.2)then Ta else(decide (e.1<56320)))then Ta else(decide (e.1>=57344)))=Ta->R (0,0))/\((bif (bif (!e.2)then Ta else(decide (e.1<56320)))then Ta else(decide (e.1>=57344)))=Tb->R (YJ .i32 ((YJ .i32 ((YJ .i32 (65536+(YJ .i32 ((YJ .i32 (a.1-55296))*1024))))+e.1))-56320),12))))))))->b c)->((!a.2)=Ta->b (!a.2))/\((!a.2)=Tb->b (bif (decide (a.1>=56320))then(decide (a.1<57344))else Tb)))):
  PC Tp gl 365 [Arg.mk .str f] [.int .i32,.int .i64] R:=
 PF ⟨[],[],[],[(4,⟨[(13,.one (.dat .bool))],[],[],[100832]⟩)]⟩ [.tmp 2,.tmp 3] 58 Tryz.func365 H
theorem Uu(gl:Fr)(e:Bt)(R:(Int×Bool)->Prop) (H:((!(decide ((e.size:Int)<4)))=Ta->(0<=(0:Int)/\(0:Int)<=4/\(4:Int)<=(e.size:Int)))/\∃a:Bool->Prop,((!(decide ((e.size:Int)<4)))=Ta->PC Tp gl 307 [Arg.mk .str (e.extract (0:Int).toNat (4:Int).toNat),Arg.mk .str (⟨#[43,45,95]⟩:Bt)] [.bool] a)/\∀b:Bool,((!(decide ((e.size:Int)<4)))=Ta->a b)->((bif (decide ((e.size:Int)<4))then Ta else b)=Ta->R (0,Tb))/\((bif (decide ((e.size:Int)<4))then Ta else b)=Tb->(0<=(0:Int)/\(0:Int)<=4/\(4:Int)<=(e.size:Int))/\PC Tp gl 386 [Arg.mk .str (e.extract (0:Int).toNat (4:Int).toNat),Arg.mk (.int .i64) 16,Arg.mk (.int .i64) 32] [.int .u64,.err] (λc:Int×Bool=>R (YJ .i32 c.1,c.2)))):
  PC Tp gl 384 [Arg.mk .str e] [.int .i32,.bool] R:=
 PF ⟨[],[],[],[]⟩ [.tmp 2,.tmp 3] 24 Tryz.func384 H
end
end Go.X
end
section
namespace Go.X
open Go Go.Lib
section
variable {n r:Nat} {l:Bs}
def fK(c:UInt8):Option Nat:=
 if 48<=c.toNat/\c.toNat<=57 then Tc (c.toNat-48)
 else if 97<=c.toNat/\c.toNat<=102 then Tc (c.toNat-87)
 else if 65<=c.toNat/\c.toNat<=70 then Tc (c.toNat-55)
 else Td
theorem OI{c:UInt8}(h:fK c=Tc n):n<16:=by unfold fK at h;grind
def fM:Nat->Bs->Option Nat
 |n,[]=>Tc n
 |n,c::l=>match fK c with
  |some d=>fM (16*n+d) l
  |none=>Td
def gh(l:Bs):Option Nat:=if 4<=l.length then fM 0 (l.take 4)else Td
theorem u6:∀{l:Bs} {n m:Nat},fM n l=Tc m->m<(n+1)*16 ^ l.length
 |[],n,m,h=>by cases h;simp
 |c::l,n,m,h=>by
  unfold fM at h;cases e:fK c with
  |none=>grind
  |some d=>rw[e]at h;have h1:=u6 h;have f:=OI e;have b:(16*n+d+1)*16 ^ l.length<=(16*(n+1))*16 ^ l.length:=ZF _ (by omega);grind
theorem sS(h:gh l=Tc n):n<65536:=by unfold gh at h;split at h;have:=u6 h;simp_all;cases h
def lT(c:UInt8):Option Nat:=
 if c=34\/c=92\/c=47 then Tc c.toNat else if c=98 then Tc 8 else if c=102 then Tc 12 else if c=110 then Tc 10 else if c=114 then Tc 13 else if c=116 then Tc 9 else Td
def nJ(t:Bs):Option (Nat×Nat):=match gh t with
 |none=>Td
 |some n=>if 56320<=n/\n<57344 then Td else if n<55296\/57344<=n then Tc (n,6)else
  if(t.drop 4).take 2=[92,117]then match gh (t.drop 6)with
   |some m=>if 56320<=m/\m<57344 then Tc (65536+(n-55296)*1024+(m-56320),12)else Td
   |none=>Td
  else Td
def pz(l:Bs):Option (Nat×Nat):=match l with
 |_::c::t=>match lT c with
  |some r=>Tc (r,2)
  |none=>if c=117 then nJ t else Td
 |_=>Td
def iG(l:Bs):Option (Nat×Nat):=if l.head?=Tc 92 then pz l else if(dec l).1<32\/gd (dec l)=Ta then Td else Tc (dec l)
def kY:Nat->Bs->Bs×Nat×Bool
 |0,_=>([],0,Tb)
 |f+1,l=>if l=[]then([],0,Tb)else if l.head?=Tc 34 then([],1,Ta)else match iG l with
  |none=>([],0,Tb)
  |some (r,n)=>let q:=kY f (l.drop n);(encodeRune (r:Int)++q.1,n+q.2.1,q.2.2)
def ij(l:Bs):Bs×Nat×Bool:=kY l.length l
theorem Km{t:Bs}(h:nJ t=Tc (r,n)):(n=6\/n=12)/\n<=t.length+2/\r<=1114111:=by
 unfold nJ at h;cases e:gh t with
 |none=>grind
 |some m=>
  have c:=sS e;have f:4<=t.length:=by unfold gh at e;split at e;assumption;cases e
  rw[e]at h;dsimp only at h;split at h;cases h;split at h;grind;split at h;cases e2:gh (t.drop 6)with
  |none=>simp_all
  |some k=>
   have b:4<=(t.drop 6).length:=by unfold gh at e2;split at e2;assumption;cases e2
   grind
  cases h
theorem Sv{c:UInt8}(h:lT c=Tc r):r<=255:=by have:=c.toNat_lt;unfold lT at h;grind
theorem Nb(h:pz l=Tc (r,n)):2<=n/\n<=12/\n<=l.length/\r<=1114111:=by
 match l,h with
 |a::c::t,h=>
  unfold pz at h;dsimp only at h;cases e:lT c with
  |some k=>rw[e]at h;cases h;have:=Sv e;grind
  |none=>rw[e]at h;dsimp only at h;split at h;obtain⟨h1,f,b⟩:=Km h;grind;cases h
theorem T5(l:Bs):(dec l).1<=1114111:=by have h0:=(l.getD 0 0).toNat_lt;have h1:=(l.getD 1 0).toNat_lt;have c:=(l.getD 2 0).toNat_lt;have b:=(l.getD 3 0).toNat_lt;unfold dec decodeN;grind
theorem Xd(c:l≠[])(h:iG l=Tc (r,n)):1<=n/\n<=12/\n<=l.length/\r<=1114111:=by
 unfold iG at h;split at h;obtain⟨h1,b,e,f⟩:=Nb h;omega;split at h;cases h;have h:=ZS h;obtain⟨rfl,rfl⟩:r=(dec l).1/\n=(dec l).2:=by simp_all
 have h1:=Zm l;have b:=pr c;exact⟨h1.1,by omega,b,T5 l⟩
theorem Eu:∀(f:Nat) (l:Bs),l.length<=f->∀g,l.length<=g->kY f l=kY g l
 |0,l,h,g,_=>by have:l=[]:=zau.1 (by omega);subst this;cases g <;> simp[kY]
 |f+1,l,h,0,hg=>by have:l=[]:=zau.1 (by omega);subst this;simp[kY]
 |f+1,l,h,g+1,hg=>by
  unfold kY;by_cases h1:l=[];simp_all;rw[za h1,za h1];by_cases b:l.head?=Tc 34;simp_all;rw[za b,za b];cases e:iG l with
  |none=>rfl
  |some x=>obtain⟨r,n⟩:=x;obtain⟨c,_,i,_⟩:=Xd h1 e;have:=Eu f (l.drop n) (by grind) g (by grind);simp_all
theorem PH:ij []=([],0,Tb):=rfl
theorem A0(h:l≠[]):ij l=if l.head?=Tc 34 then([],1,Ta)else match iG l with
  |none=>([],0,Tb)
  |some (r,n)=>(encodeRune (r:Int)++(ij (l.drop n)).1,n+(ij (l.drop n)).2.1,(ij (l.drop n)).2.2):=by
 have i:=ZX.2 h;obtain⟨f,c⟩:∃f,l.length=f+1:=⟨l.length-1,by omega⟩;rw[ij,c,kY,za h];by_cases b:l.head?=Tc 34;simp_all;rw[za b,za b];cases e:iG l with
 |none=>rfl
 |some x=>obtain⟨r,n⟩:=x;obtain⟨k,_,m,_⟩:=Xd h e;dsimp only;rw[ij,Eu f (l.drop n) (by simp_all) (l.drop n).length (YM _)]
theorem Sc:∀(k:Nat) (l:Bs),l.length=k->(ij l).2.1<=l.length/\(ij l).1.length<=4*l.length:=by
 intro k;induction k using Nat.strongRecOn with
 |_ k b=>
  intro l i;by_cases h:l=[];subst h;exact⟨YM _,YM _⟩;have f:=ZX.2 h;rw[A0 h];split;grind;cases e:iG l with
  |none=>simp
  |some x=>
   obtain⟨r,n⟩:=x;obtain⟨m,_,p,_⟩:=Xd h e;have c:(l.drop n).length=l.length-n:=zab;have:=b (l.drop n).length (by omega) _ rfl;have o:(encodeRune (r:Int)).length<=4:=by have:=(encodeRuneZ_length (r:Int)).2;rw[encodeRune,ZA];exact this
   simp;omega
def j5(t:Bs)(a:Nat):Bs×Nat×Int:=
 if(t.drop a).head?=Tc 34 then(let q:=ij (t.drop (a+1));if q.2.2 then(q.1,a+1+q.2.1,0)else([],a+1+q.2.1,2))else([],a,2)
def fw(t:Bs):Bs×Nat×Int:=let r:=j5 t 0;if r.2.2=0/\r.2.1<t.length then([],r.2.1,2)else r
def OS(c:UInt8):Bs:=
 if c=34\/c=92 then [92,c]else if c=8 then [92,98]else if c=12 then [92,102]else if c=10 then [92,110]else if c=13 then [92,114]else if c=9 then [92,116]
 else if c.toNat<32 then [92,117,48,48,zas (48+c.toNat / 16),zas (if c.toNat % 16<10 then 48+c.toNat % 16 else 87+c.toNat % 16)]else [c]
def OF(l:Bs):Bs:=l.flatMap OS
def yL(l:Bs):Bs×Int:=if eW l then(34::OF l++[34],0)else([],2)
end
end Go.X
end
section
namespace Go.X
open Go Go.X Go.Proofs Go.RowKit
section
variable {h:zc} {b:Nat} {l:Bs} {r:Int} {K:Value -> zc -> Prop}
theorem VH(H:Bld h b l)(h0:0<=r)(h1:r<=1114111)(hl:l.length+4<=140737488355328)(N:∀h' n,Bld h' b (l++Lib.encodeRune r)->Keep b h h'->Itk h h'->K (.tuple #[.int .i64 n,.nilIface]) h'):
  XC Tp 252 #[.pointer (Tc ⟨b,0,Td⟩),.int .i32 r] h K:=by
 apply Qy;refine JK H λf C k2 z2 F=>⟨rfl,_,rfl,?_⟩;have t:=C.lt;obtain⟨p,s,e,U,w⟩:=C;have u:=w.1;rw[Lib.byteCells_length,zb1]at u;have c1:=Blk.cellAdd (o:=0) (k:=1) (v:=aK s) (cs:=#[.pointer p,aK s]) ⟨_,e⟩ rfl;refine⟨s,c1,_,rfl,s,c1,?_⟩;refine XC.of_calls λB d=>(W6 (b+1) (aK s) s.len (Lib.byteCells l) r (by omega) (by omega) (mk B d f) w (by omega) (show b+1<=f.size by omega)).mono ?_;rintro e' w' ⟨D,rfl,q,o,m⟩;obtain⟨s',rfl,Z⟩:∃s':Sl,D=aK s'/\s'.len=s.len+(Lib.runeCells r).length:=by rcases q.2 with⟨rfl,S⟩|⟨g,cap,V,rfl,_⟩;exact⟨⟨Td,0,0⟩,rfl,S.symm⟩;exact⟨⟨_,_,_⟩,rfl,rfl⟩
 have E:Owns w'.heap (b+1) 5 1 s' (Lib.byteCells (l++Lib.encodeRune r)):=by
  have e1:Lib.byteCells (l++Lib.encodeRune r)=Lib.byteCells l++Lib.runeCells r:=by rw[<-Lib.byteCells_encodeRune];unfold Lib.byteCells;rw[ZZ]
  rw[e1];rw[<-Z]at q;exact q
 have I:w'.heap[b]?=Tc (.cells #[.pointer p,aK s] 88 (0,0)):=by
  have x:=m.block b (by show b<(f.push o).size;grind) (by
   intro c;cases ha:s.a with
   |none=>rw[aK,ha]at c;cases c
   |some a=>have:=w.base_le a ha;rw[aK,ha]at c;simp only[Value.ownBlock,YL]at c;omega)
  rw[x];show(f.push o)[b]?=_;rw[Array.getElem?_push_lt t,<-e];simp[t]
 have J:Keep b h w'.heap:=by
  refine k2.trans ⟨?_,λi hi=>?_⟩ (YM _);have:=m.size;have h3:(f.push o).size<=w'.heap.size:=this;grind;have x:=m.block i (by show i<(f.push o).size;grind) (by
   intro c;cases ha:s.a with
   |none=>rw[aK,ha]at c;cases c
   |some a=>have:=w.base_le a ha;rw[aK,ha]at c;simp only[Value.ownBlock,YL]at c;omega)
  rw[x];show(f.push o)[i]?=_;grind
 have P:Itk f w'.heap:=Itk.own w λi hi y=>by
  have x:=m.block i (by show i<(f.push o).size;grind) (by
   intro c;cases ha:s.a with
   |none=>rw[aK,ha]at c;cases c
   |some a=>have:=y a ha;rw[aK,ha]at c;simp only[Value.ownBlock,YL]at c;exact this c)
  rw[x];show(f.push o)[i]?=_;grind
 refine⟨_,rfl,m.os,m.tape,m.output,s',rfl,_,rfl,?_⟩;refine Vj I U E λM A G z7 L=>?_;have O:=A;obtain⟨Q,z,Y,_,_⟩:=O;exact⟨_,rfl,z,Blk.cellAdd (o:=0) (k:=1) (v:=aK z) (cs:=#[.pointer Q,aK z]) ⟨_,Y⟩ rfl,N M _ A (J.trans G (YM _)) (F.trans (P.trans L))⟩
theorem I7(H:Bld h b l)(h0:0<=r)(h1:r<=1114111)(c:l.length+4<=140737488355328)(e:∀h' n,Bld h' b (l++Lib.encodeRune r)->Keep b h h'->K (.tuple #[.int .i64 n,.nilIface]) h'):
  XC Tp 252 #[.pointer (Tc ⟨b,0,Td⟩),.int .i32 r] h K:=
 VH H h0 h1 c λh' n a b _=>e h' n a b
def xD(c:Int):Option Nat:=let lo:=bits .or .u8 c 32
 if 97<=lo/\lo<=122 then(let d:=YJ .u8 ((YJ .u8 (lo-97))+10);if d>=16 then Td else Tc d.toNat)else Td
theorem Ph:(zak 256).all (λc=>decide (48<=c/\c<=57)||(xD (c:Int)==fK (zas c)))=Ta:=by kernel_rfl
theorem RR{c:UInt8}(h:¬(48<=c.toNat/\c.toNat<=57)):xD (c.toNat:Int)=fK c:=by have:=ZJ.1 Ph c.toNat (zbc.2 c.toNat_lt);rw[zbb,zA]at this;rcases this with h1|h1;omega;simp_all
theorem Pd:(zak 256).all (λc=>decide (0<=YJ .u8 ((YJ .u8 ((bits .or .u8 (c:Int) 32)-97))+10)))=Ta:=by kernel_rfl
theorem yt{c:Int}(b:K (.int .u8 (bits .or .u8 c 32)) h):XC Tp 375 #[.int .u8 c] h K:=by refine XC.of_calls λB d=>(J0 c (mk B d h)).mono ?_;rintro e w' ⟨rfl,rfl⟩;exact⟨_,rfl,rfl,rfl,rfl,b⟩
theorem AB:∀(a b:Bs) (n:Nat),fM n (a++b)=(fM n a).bind λm=>fM m b
 |[],b,n=>rfl
 |c::a,b,n=>by
  show(match fK c with|some d=>fM (16*n+d) (a++b)|none=>Td)=(match fK c with|some d=>fM (16*n+d) a|none=>Td).bind _;cases fK c with
  |none=>rfl
  |some d=>exact AB a b _
theorem OB(n:Nat)(c:UInt8):fM n [c]=(fK c).map λd=>16*n+d:=by show(match fK c with|some d=>fM (16*n+d) []|none=>Td)=_;cases fK c <;> rfl
theorem XB{s:Bs}(c:∀(x:Sl) h',Keep h.size h h'->x.len=s.length->x.a=Tc ⟨h.size,0,Td⟩->(∀j (b:j<s.length),ze h' ⟨h.size,j,Td⟩=Tc (.int .u8 (s[j].toNat:Int)))->K (aK x) h'):
  xd Tp (convert 9 86 (.string (bl s))) h K:=by
 intro B d;refine⟨_,_,_,Lib.run_convert_string_bytes (P:=Tp) (mk B d h) 9 86 5 (bl s) KJ elemU8.slice (by kernel_rfl),?_⟩;refine c ⟨Tc ⟨h.size,0,Td⟩,(bl s).size,_⟩ _ ⟨?_,λi hi=>?_⟩ (zh s) rfl λj b=>?_;show h.size<=(Lib.bytesWorld (mk B d h) 5 (bl s)).heap.size;rw[Lib.bytesWorld_size];exact Nat.le_succ _;exact Lib.bytesWorld_at_old (mk B d h) 5 (bl s) i hi;have:=Lib.bytesWorld_cell (mk B d h) 5 (bl s) j (by rw[zh];exact b);have e:(bl s).data.toList=s:=jg s;rw[e,zbv,YR b]at this;exact this
set_option maxHeartbeats 4000000 in
theorem PM(C:l.length=4)(h1:∀n h',fM 0 l=Tc n->Keep h.size h h'->K (.tuple #[.int .u64 (n:Int),.nilIface]) h') (Z:∀h',fM 0 l=Td->Keep h.size h h'->K (.tuple #[.int .u64 0,.iface 306 (.int .i64 2)]) h'):
  XC Tp 342 #[.string (bl l),.int .i64 16,.int .i64 32] h K:=by
 apply Qp;have he:((bl l:Bt).toList==((⟨#[]⟩:Bt):Bt).toList)=Tb:=by have:((bl l:Bt).toList==((⟨#[]⟩:Bt):Bt).toList)=decide (l=[]):=gu l [];rw[this,decide_eq_false_iff_not];intro e;rw[e]at C;simp at C
 refine⟨λe=>(by simp_all),λ_=>?_⟩;intro K4 Q;refine⟨λ_=>Q _ _ _ ?_,λe=>by simp at e⟩;intro K7 L;refine⟨λe=>by simp at e,λ_=>⟨λe=>by simp at e,λ_=>L _ _ ?_⟩⟩;intro aa B;refine⟨λe=>by simp at e,λ_=>⟨λ_=>B _ _ ?_,λe=>by simp at e⟩⟩;have A:(YJ .u64 32:Int)=32:=by decide
 refine⟨by rw[A];omega,?_⟩;refine XB λx h3 I xl xa xc=>⟨x,rfl,?_⟩;refine⟨λu n i g=>u=Tb/\g=h3/\∃(k m:Nat),k<=4/\i=(k:Int)/\n=(m:Int)/\fM 0 (l.take k)=Tc m,λu n i g=>4-i.toNat,⟨rfl,rfl,0,0,by omega,rfl,rfl,rfl⟩,?_⟩;rintro u n i g ⟨rfl,rfl,k,m,hk,rfl,rfl,D⟩;have ab:m<65536:=by
  have:=u6 D;have hp:(l.take k).length<=4:=by rw[za0];omega
  have:16 ^ (l.take k).length<=16 ^ 4:=Nat.pow_le_pow_right (by omega) hp;omega
 refine⟨λY=>?_,λY=>?_⟩;have y:k<4:=by rw[zA,xl,C]at Y;omega
 have t:k<l.length:=by omega
 refine⟨⟨h.size,0,Td⟩,⟨xa,by omega,by omega⟩,(l[k].toNat:Int),?_,?_⟩;rw[qo,YO,zb1,ZP];exact xc k t;generalize H:l[k]=c;have f:fM 0 (l.take (k+1))=(fK c).map λd=>16*m+d:=by rw[YP t,AB,D,H];exact OB m c
 have o:fK c=Td->fM 0 l=Td:=by intro e;rw[e]at f;rw[<-zax (k+1) l,AB,f];rfl
 have cl:=c.toNat_lt;intro J s;have fin:∀d:Int,0<=d->(d<16->fK c=Tc d.toNat)->(16<=d->fK c=Td)->J Tb d g:=by
  intro d V N E;apply s;have F:(YJ .u8 16:Int)=16:=by decide
  have q:(YJ .u64 16:Int)=16:=by decide
  rw[F,q,A];refine⟨λe=>Z _ (o (E (by simpa using e))) I,λe=>?_⟩;have r:d<16:=by simpa using e
  have hv:=N r;rw[hv]at f;have O:∀z:Int,0<=z->z<18446744073709551616->YJ .u64 z=z:=by
   intro z z0 z1;unfold YJ;have p:(2:Int) ^ zc6 .u64=18446744073709551616:=by decide
   have M:zdm .u64=Tb:=rfl;simp only[p,M,Bool.false_and,zaz,if_false];exact Int.emod_eq_of_lt z0 z1
  have p:YJ .u64 ((m:Int)*16)=(m:Int)*16:=O _ (by omega) (by omega);have M:YJ .u64 d=d:=O _ V (by omega);have e3:YJ .u64 ((m:Int)*16+d)=(m:Int)*16+d:=O _ (by omega) (by omega);have e4:(YJ .u64 ((YJ .u64 (1*2 ^ (min (32:Int).toNat 64)))-1):Int)=4294967295:=by decide
  rw[p,M,e3,e4];refine⟨λe=>?_,λ_=>⟨λe=>?_,λ_=>?_⟩⟩;rw[zA]at e;omega;simp only[Bool.cond_eq_ite,Bool.if_true_left,zbb,zA]at e;omega;rw[qd (n:=4) y (by omega)];refine⟨⟨rfl,rfl,k+1,16*m+d.toNat,by omega,rfl,by omega,f⟩,?_⟩;simp;omega
 have w:(bif ((c.toNat:Int)==95)then((16:Int)==0)else Tb)=Tb:=by cases((c.toNat:Int)==95) <;> rfl
 refine⟨λe=>(by rw[w]at e;cases e),λ_=>⟨λe=>?_,λe=>?_⟩⟩;have r:48<=c.toNat/\c.toNat<=57:=by simp only[Bool.cond_eq_ite,Bool.if_false_right,ZE,zA]at e;omega
 rw[sU (by omega) (by omega)];refine fin _ (by omega) (λ_=>?_) (λh9=>by omega);unfold fK;rw[zb r];congr 1;omega;have r:¬(48<=c.toNat/\c.toNat<=57):=by simp only[Bool.cond_eq_ite,Bool.if_false_right,zcr,decide_eq_false_iff_not,zA]at e;omega
 have b:=RR r;have U:=ZJ.1 Pd c.toNat (zbc.2 cl);rw[zA]at U;unfold xD at b;dsimp only at b;refine yt ?_;generalize S:bits .or .u8 (c.toNat:Int) 32=lo at b U ⊢;refine⟨lo,rfl,λv g'=>v=.int .u8 lo/\g'=g,λ_=>yt ?_,λ_=>⟨lo,rfl,rfl⟩,?_,?_⟩;simp;omega;simp;rintro x g' ⟨p,rfl⟩;injection p with _ p;subst p;refine⟨λG=>yt ?_,λG=>?_⟩;rw[S];refine⟨x,rfl,?_⟩;have P:97<=x/\x<=122:=by simp only[Bool.cond_eq_ite,Bool.if_false_right,ZE,zA]at G;omega
 rw[zb P]at b;refine fin _ U (λh9=>?_) (λh9=>?_);rw[za (by omega)]at b;exact b.symm;rw[zb (by omega)]at b;exact b.symm;have P:¬(97<=x/\x<=122):=by simp only[Bool.cond_eq_ite,Bool.if_false_right,zcr,decide_eq_false_iff_not,zA]at G;omega
 rw[za P]at b;exact Z _ (o b.symm) I;have y:k=4:=by rw[decide_eq_false_iff_not,xl,C]at Y;omega
 refine⟨λv g'=>g'=g,(λe=>by cases e),(λ_=>⟨Ta,rfl⟩),(λe=>by cases e),?_⟩;rintro x g' rfl;refine⟨λe=>(by cases e),λ_=>h1 _ _ ?_ I⟩;rw[zag (by omega)]at D;exact D
end
section
theorem Rs{z:UInt8}(h:128<=z.toNat):Lib.indexByte [95] z=-1:=by
 have:z≠95:=by rintro rfl;revert h;decide
 unfold Lib.indexByte;simp[Lib.indexByte,this.symm]
theorem Uc{z:UInt8}:Lib.indexByte [] z=-1:=by simp[Lib.indexByte]
def VR(r:Int)(e:Ending):Prop:=∃b,e=.returned (.bool b)/\(b=Ta->(0<=r/\r<55296)\/(57343<r/\r<=1114111))
set_option maxHeartbeats 4000000 in
set_option maxRecDepth 1000000 in
theorem Kc(r:Int)(w:World):Calls Tp 381 #[.int .i32 r] w λe w'=>VR r e/\w'=w:=by
 have mixed:=Tryz.mixed
 go_enter Tryz.func381,Tryz.ntmps381
 by_cases h1:0<=r <;> by_cases b:r<55296 <;> by_cases f:57343<r <;> by_cases c:r<=1114111 <;> (go_wp2;go_ret;exact⟨⟨_,rfl,λh=>by first|omega|cases h⟩,rfl⟩)
theorem SV(r:Int)(h:128<=r):(∃a z:UInt8,zdg r=⟨#[a,z]⟩/\128<=z.toNat)\/(∃a b z:UInt8,zdg r=⟨#[a,b,z]⟩/\128<=z.toNat)\/(∃a b c z:UInt8,zdg r=⟨#[a,b,c,z]⟩/\128<=z.toNat):=by
 have f:∀n:Nat,128<=(zas (128+n % 64)).toNat:=λn=>by have:(zas (128+n % 64)).toNat=(128+n % 64) % 256:=UInt8.toNat_ofNat;rw[this,Nat.mod_eq_of_lt (by omega)];omega
 have k:∃c:Nat,128<=c/\(if Utf8.valid r then r.toNat else Utf8.runeError)=c:=by refine⟨_,?_,rfl⟩;split;omega;decide
 obtain⟨c,l,e⟩:=k;unfold zdg;simp only[e];rw[za (by omega)];by_cases h1:c<2048;rw[zb h1];exact .inl ⟨_,_,rfl,f _⟩;rw[za h1];by_cases i:c<65536;rw[zb i];exact .inr (.inl ⟨_,_,_,rfl,f _⟩);rw[za i];exact .inr (.inr ⟨_,_,_,_,rfl,f _⟩)
def IR(e:Ending):Prop:=∃n,e=.returned (.int .i64 n)
set_option maxHeartbeats 4000000 in
set_option maxRecDepth 1000000 in
theorem OD(r:Int)(w:World)(h1:128<=r)(q:r≠65533):Calls Tp 351 #[.string ⟨#[43,45,95]⟩,.int .i32 r] w λe w'=>IR e/\Below w.heap.size w w':=by
 have mixed:=Tryz.mixed;have m:∀args w,(callFunc 194 args).run Tp w=.ok (.enter 194 args) w:=enters_of Tryz.func194 (by kernel_rfl) rfl;have n:∀args w,(callFunc 381 args).run Tp w=.ok (.enter 381 args) w:=enters_of Tryz.func381 (by kernel_rfl) rfl;have p:¬r<128:=by omega
 go_enter Tryz.func351,Tryz.ntmps351
 go_wp2_with (go_at_fn 381;refine(Kc _ _).mono ?_;rintro e w' ⟨⟨b,rfl,s⟩,o⟩;rw[o];cases b)
 go_ret
 exact⟨⟨_,rfl⟩,Below.refl _ _⟩
 ·rcases SV r h1 with⟨a,z,k,l⟩|⟨a,b,z,k,l⟩|⟨a,b,c,z,k,l⟩
  ·have f:=λ(w:World)=>run_convert_int_string (P:=Tp) w 21 9 .i32 r (by kernel_rfl) (by kernel_rfl);rw[k]at f;refine wp_scope_straight ?_
   go_wp2
   go_loop [9] (λv=>v=.int .i64 1) (λ_=>0)
   case atStart=>rfl
   case round=>
    subst hrel
    go_wp2
    refine wp_scope_straight ?_;have i:((45:Int) != (z.toNat:Int))=Ta:=bne_iff_ne.2 (by omega)
    go_wp2
    go_region
    simp only[show ∀h,((⟨#[43,45,95]⟩:Bt)[1]'h)=45 from λ_=>rfl,show ∀h,((⟨#[a,z]⟩:Bt)[1]'h)=z from λ_=>rfl,show((45:UInt8).toNat:Int)=45 from rfl,i];all_goals go_wp2
    all_goals go_region_with (go_at_call 194;refine(jz _ _ _).mono ?_;rintro e w' ⟨rfl,rfl⟩)
    all_goals simp only[show ∀h,((⟨#[a,z]⟩:Bt)[1]'h)=z from λ_=>rfl,Rs l]
    all_goals go_wp2
    all_goals simp only[Exit.noGoto,Exit.inBlock]
    all_goals go_wp2
    all_goals simp only[Exit.noGoto,Exit.inBlock]
    all_goals go_wp2
    all_goals go_ret
    all_goals exact⟨⟨_,rfl⟩,HX w 2⟩
  ·have f:=λ(w:World)=>run_convert_int_string (P:=Tp) w 21 9 .i32 r (by kernel_rfl) (by kernel_rfl);rw[k]at f;refine wp_scope_straight ?_
   go_wp2
   go_loop [9] (λv=>v=.int .i64 2) (λ_=>0)
   case atStart=>rfl
   case round=>
    subst hrel
    go_wp2
    refine wp_scope_straight ?_;have i:((95:Int) != (z.toNat:Int))=Ta:=bne_iff_ne.2 (by omega)
    go_wp2
    go_region
    simp only[show ∀h,((⟨#[43,45,95]⟩:Bt)[2]'h)=95 from λ_=>rfl,show ∀h,((⟨#[a,b,z]⟩:Bt)[2]'h)=z from λ_=>rfl,show((95:UInt8).toNat:Int)=95 from rfl,i];all_goals go_wp2
    all_goals go_region_with (go_at_call 194;refine(jz _ _ _).mono ?_;rintro e w' ⟨rfl,rfl⟩)
    all_goals simp only[show ∀h,((⟨#[a,b,z]⟩:Bt)[2]'h)=z from λ_=>rfl,Uc]
    all_goals go_wp2
    all_goals simp only[Exit.noGoto,Exit.inBlock]
    all_goals go_wp2
    all_goals simp only[Exit.noGoto,Exit.inBlock]
    all_goals go_wp2
    all_goals go_ret
    all_goals exact⟨⟨_,rfl⟩,HX w 2⟩
  ·have f:=λ(w:World)=>run_convert_int_string (P:=Tp) w 21 9 .i32 r (by kernel_rfl) (by kernel_rfl);rw[k]at f;refine wp_scope_straight ?_
   go_wp2
   go_loop [9] (λv=>v=.int .i64 3) (λ_=>0)
   case atStart=>rfl
   case round=>
    subst hrel
    go_wp2
    go_ret
    exact⟨⟨_,rfl⟩,Below.refl _ _⟩
end
end Go.X
end
section
namespace Go.X
section
theorem X6(gl:Fr)(c:Bt)(b:Bt)(R:Bool->Prop) (H:PC Tp gl 359 [Arg.mk .str c,Arg.mk .str b] [.int .i64] (λa:Int=>R (decide (a>=0)))):
  PC Tp gl 307 [Arg.mk .str c,Arg.mk .str b] [.bool] R:=
 PF ⟨[],[],[],[]⟩ [.tmp 4] 9 Tryz.func307 H
theorem LY(gl:Fr)(l:Bt)(k:Bt)(R:Int->Prop) (H:((k.toList==(⟨#[]⟩:Bt).toList)=Ta->R (-1))/\((k.toList==(⟨#[]⟩:Bt).toList)=Tb->(((k.size:Int)==1)=Ta->(0<=(0:Int)/\(0:Int)<(k.size:Int))/\∀a:Int->Prop,(∀b:Int,(PC Tp gl 351 [Arg.mk .str l,Arg.mk (.int .i32) b] [.int .i64] (λc:Int=>R c))->a b)->((decide ((YJ .i32 (zf k (0:Int).toNat))>=128))=Ta->a 65533)/\((decide ((YJ .i32 (zf k (0:Int).toNat))>=128))=Tb->a (YJ .i32 (zf k (0:Int).toNat))))/\(((k.size:Int)==1)=Tb->∀d:Prop,((∃(e:(Bt×Nat)->Prop) (f:(Bt×Nat)->Nat),e (l,0)/\∀h:Bt×Nat,e h->(((fA h.1 h.2)=Ta->(fA h.1 h.2)=Ta/\(fA h.1 h.2)=Ta/\PC Tp gl 351 [Arg.mk .str k,Arg.mk (.int .i32) (gF h.1 h.2)] [.int .i64] (λg:Int=>(decide (g>=0)=Ta->R (h.2:Int))/\(decide (g>=0)=Tb->(e (h.1,fL h.1 h.2)/\f (h.1,fL h.1 h.2)<f h))))/\((fA h.1 h.2)=Tb->R (-1))))->d)->PC Tp gl 383 [Arg.mk (.int .i64) (l.size:Int)] [.bool] (λi:Bool=>(i=Ta->False)/\(i=Tb->d))))):
  PC Tp gl 359 [Arg.mk .str l,Arg.mk .str k] [.int .i64] R:=
 PF ⟨[],[],[(18,⟨[],[(45,[.dat .iter])],[],[1002880]⟩)],[(7,⟨[(5,.one (.dat (.int .i32)))],[],[],[100320]⟩),(17,⟨[],[],[],[]⟩)]⟩ [.tmp 4] 55 Tryz.func359 H
theorem Qv(gl:Fr)(h:Bt)(f:Int)(R:Int->Prop) (H:((bif (decide ((0:Int)<=f))then(decide (f<128))else Tb)=Ta->PC Tp gl 194 [Arg.mk .str h,Arg.mk (.int .u8) (YJ .u8 f)] [.int .i64] (λa:Int=>R a))/\((bif (decide ((0:Int)<=f))then(decide (f<128))else Tb)=Tb->((f==65533)=Ta->∃(b:(Bt×Nat)->Prop) (c:(Bt×Nat)->Nat),b (h,0)/\∀e:Bt×Nat,b e->(((fA e.1 e.2)=Ta->(fA e.1 e.2)=Ta/\(fA e.1 e.2)=Ta/\(((gF e.1 e.2:Int)==65533)=Ta->R (e.2:Int))/\(((gF e.1 e.2:Int)==65533)=Tb->(b (e.1,fL e.1 e.2)/\c (e.1,fL e.1 e.2)<c e)))/\((fA e.1 e.2)=Tb->R (-1))))/\((f==65533)=Tb->PC Tp gl 381 [Arg.mk (.int .i32) f] [.bool] (λd:Bool=>((!d)=Ta->R (-1))/\((!d)=Tb->False))))):
  PC Tp gl 351 [Arg.mk .str h,Arg.mk (.int .i32) f] [.int .i64] R:=
 PF ⟨[],[],[(38,⟨[],[(175,[.dat .iter])],[],[1011200]⟩)],[]⟩ [.tmp 4] 187 Tryz.func351 H
theorem Qz(gl:Fr)(b:Int)(R:Bool->Prop) (H:R (decide (b>8))):
  PC Tp gl 383 [Arg.mk (.int .i64) b] [.bool] R:=
 PF ⟨[],[],[],[]⟩ [.tmp 2] 5 Tryz.func383 H
end
end Go.X
end
section
namespace Go.X
open Go Go.X Go.Proofs Go.RowKit
section
variable {gl:Fr} {R:Int -> Prop}
theorem A1{f:FuncId}{args:List Arg}{us:List Value}(c:kE args=Tc us)(l:∀n,R n)
  (H:∀w:World,Calls Tp f us.toArray w λe w'=>IR e/\Below w.heap.size w w'):PC Tp gl f args [.int .i64] R:=by
 intro h M vs m ag i;rw[tM c i];refine XC.of_calls λB d=>(H (mk B d h)).mono ?_;rintro e w' ⟨⟨n,rfl⟩,b⟩;have k:Keep h.size h w'.heap:=⟨b.size,b.block⟩;exact⟨_,rfl,b.os,b.tape,b.output,k,M,n,Fr.le.refl _,λ_ _=>rfl,ag.keep k,nE _ _,l n⟩
theorem Uz{r:Int}(l:0<=r)(b:∀n,R n):PC Tp gl 351 [Arg.mk .str (bl [43,45,95]),Arg.mk (.int .i32) r] [.int .i64] R:=by
 by_cases h1:r<128;apply Qv;have e:(bif decide ((0:Int)<=r)then decide (r<128)else Tb)=Ta:=by simp[l,h1]
 rw[e];exact⟨λ_=>xG (b _),λc=>by cases c⟩;by_cases i:r=65533;subst i;apply Qv;refine⟨λ_=>xG (b _),λ_=>⟨λ_=>?_,λc=>by cases c⟩⟩;refine⟨λq=>∃p:Nat,q=(bl [43,45,95],p),λq=>3-q.2,⟨0,rfl⟩,?_⟩;rintro q ⟨p,rfl⟩;simp only[pA];refine⟨λf=>⟨f,f,λ_=>b _,λ_=>⟨⟨_,rfl⟩,?_⟩⟩,λ_=>b _⟩;have h:p < [43,45,95].length:=by simpa using f
 have k:p<3:=h;rw[mU _ _ h];have:=(Zm (([43,45,95]:Bs).drop p)).1;omega;exact A1 (us:=[.string ⟨#[43,45,95]⟩,.int .i32 r]) rfl b λw=>OD r w (by omega) i
theorem Tu(w:World)(b c:Obj):Below w.heap.size w ((w.alloc b).alloc c):=((Below.refl _ w).alloc (YM _) b).alloc (by show w.heap.size<=(w.heap.push b).size;simp) c
theorem Sj(l:Bs):(0:Int)<=((dec l).1:Int):=Int.natCast_nonneg _
theorem Sn{l:Bs}(C:l.length<=9){R:Bool->Prop}(h1:vo l->R (l.any λc=>[43,45,95].contains c))(o:¬vo l->∀b,R b):PC Tp gl 307 [Arg.mk .str (bl l),Arg.mk .str (bl [43,45,95])] [.bool] R:=by
 have i:∀(j:Nat) (b:UInt8),([43,45,95]:Bs)[j]?=Tc b->b.toNat<128:=by intro j b f;have:b∈([43,45,95]:Bs):=zbd f;simp at this;rcases this with rfl|rfl|rfl <;> decide
 by_cases m:vo l;refine VK (s:=bl l) (c:=bl [43,45,95]) (by rw[zh];omega) (by rw[zh];decide) ?_ ?_ ?_;rw[jg];exact λj b f=>m b (zbd f);rw[jg];exact i;rw[jg,jg,Hh];exact h1 m;have f:=o m;apply X6;by_cases B:l.length<=8;apply LY;have z:((bl [43,45,95]).toList==(⟨#[]⟩:Bt).toList)=Tb:=by rw[IC,jg];rfl
 have u:((((bl [43,45,95]).size:Int))==1)=Tb:=by rw[zh];rfl
 rw[z,u];refine⟨λh=>(by cases h),λ_=>⟨λh=>(by cases h),λ_ K r=>?_⟩⟩;apply Qz;have A:decide (((bl l).size:Int)>8)=Tb:=by rw[zh];simp;omega
 rw[A];refine⟨λh=>(by cases h),λ_=>r ?_⟩;refine⟨λq=>∃p:Nat,q=(bl l,p),λq=>l.length-q.2,⟨0,rfl⟩,?_⟩;rintro q ⟨p,rfl⟩;simp only[pA];refine⟨λk=>⟨k,k,?_⟩,λ_=>f _⟩;have y:p<l.length:=by simpa using k
 refine Uz (by rw[rW];exact Sj _) λn=>⟨λ_=>f _,λ_=>⟨⟨_,rfl⟩,?_⟩⟩;rw[mU _ _ y];have:=(Zm (l.drop p)).1;omega;refine A1 (us:=[.string (bl l),.string (bl [43,45,95])]) rfl (λn=>f _) λw=>?_;have x:=(zero_of_info (P:=Tp) (t:=236) (v:=.agg (zar 256 (.bool Tb))) (n:=256) (by kernel_rfl)).1;refine(Xc x (bl l) (bl [43,45,95]) w (by rw[zh];decide) (by rw[zh];omega) (by rw[zh];omega) (by rw[zh];decide) i).mono ?_;rintro e w' ⟨rfl,rfl⟩;exact⟨⟨_,rfl⟩,Tu w _ _⟩
end
section
variable {gl:Fr} {l:Bs}
theorem Og{gl M:Fr}(k:yB gl)(f:Fr.le gl M){h:zc}(ag:AgM M h){fn s:Bt}(i:s.size<=281474976710656){b n:Int}{K:Value->zc->Prop}(p:∀t u h',Keep h.size h h'->K (.iface t u) h'):
  XC Tp 286 #[.string fn,.string s,.int .i64 b,.int .i64 n,.iface 306 (.int .i64 2)] h K:=by
 obtain⟨⟨cs,l,m,q,o⟩,_⟩:=k;refine XC.of_calls λB d=>(Jz fn s b n l (mk B d h) i (AgM.glob (w:=mk B d h) ag (f _ _ m) q) o).mono ?_;rintro e w' ⟨N,rfl,h1,r,c⟩;exact⟨_,rfl,c.os,c.tape,c.output,p _ _ _ ⟨c.size,c.block⟩⟩
theorem vz:∀{l:Bs} {c:UInt8} (n:Nat),c∈l->fK c=Td->fM n l=Td
 |x::l,c,n,b,hv=>by
  show(match fK x with|some d=>fM (16*n+d) l|none=>Td)=Td;rcases YS.1 b with rfl|b;rw[hv];cases fK x with
  |none=>rfl
  |some d=>exact vz _ b hv
theorem By{c:UInt8}(h:c.toNat<48\/c=95\/128<=c.toNat):fK c=Td:=by
 have h':c.toNat<48\/c.toNat=95\/128<=c.toNat:=by rcases h with h|rfl|h <;> simp[*]
 unfold fK;rw[za (by omega),za (by omega),za (by omega)]
theorem VG(m:GL gl)(c:l.length=4){R:Int×Bool->Prop}(h1:∀n:Nat,fM 0 l=Tc n->R ((n:Int),Ta))(f:fM 0 l=Td->R (0,Tb)):
  PC Tp gl 386 [Arg.mk .str (bl l),Arg.mk (.int .i64) 16,Arg.mk (.int .i64) 32] [.int .u64,.err] R:=by
 intro h M vs i ag p
 match vs,p with
 |[u1,u2,u3],⟨a1,a2,a3,_⟩=>obtain rfl:=xt a1;obtain rfl:=yj a2;obtain rfl:=yj a3;apply PX.of;apply TW;refine PM c (λn h' e k=>?_) (λh' e k=>?_);exact⟨(n:Int),.nilIface,rfl,rfl,λb=>(by cases b),λ_=>⟨M,((n:Int),Ta),Later.same ag k,DW _ _,h1 n e⟩⟩;refine⟨0,.iface _ _,rfl,rfl,λ_=>?_,λb=>(by cases b)⟩;refine Og m.err i (ag.keep k) (by rw[zh];omega) λt u q o=>⟨_,rfl,M,(0,Tb),Later.same ag (k.trans o k.size),y3 _ _ _ _,f e⟩
theorem Ee(u:GL gl)(z:l.length<=1152921504606846976){R:Int×Bool->Prop}(h1:∀n:Nat,gh l=Tc n->R ((n:Int),Ta))(o:gh l=Td->∀v,R (v,Tb)):
  PC Tp gl 384 [Arg.mk .str (bl l)] [.int .i32,.bool] R:=by
 apply Uu;simp only[zh,qp,show(0:Int).toNat=0 from rfl,show(4:Int).toNat=4 from rfl,za5,zc7];by_cases y:l.length<4;have e:decide (((l.length:Nat):Int)<4)=Ta:=by rw[zA];omega
 have w:gh l=Td:=by unfold gh;rw[za (by omega)]
 simp only[e];exact⟨λi=>(by cases i),λ_=>True,λi=>(by cases i),λr _=>⟨λ_=>o w 0,λi=>(by cases i)⟩⟩;have e:decide (((l.length:Nat):Int)<4)=Tb:=by rw[decide_eq_false_iff_not];omega
 simp only[e];have f:gh l=fM 0 (l.take 4):=by unfold gh;rw[zb (by omega)]
 have t:(l.take 4).length=4:=by rw[za0];omega
 refine⟨λ_=>⟨by omega,by omega,by omega⟩,λr=>r=Ta->gh l=Td,λ_=>?_,λr x=>⟨λi=>o (x rfl i) 0,λi=>⟨⟨by omega,by omega,by omega⟩,?_⟩⟩⟩;refine Sn (l:=l.take 4) (by omega) (λs p=>?_) (λs b p=>?_);obtain⟨c,k,h⟩:=List.any_eq_true.1 p;rw[f];refine vz 0 k (By ?_);simp at h;rcases h with rfl|rfl|rfl;left;decide;left;decide;right;left;rfl;rw[f];have:∃c∈l.take 4,128<=c.toNat:=by refine zb3 λq=>s λc k=>?_;refine zb3 λA=>q ⟨c,k,by omega⟩
 obtain⟨c,k,h⟩:=this;exact vz 0 k (By (.inr (.inr h)));refine VG u t (λn m=>?_) (λm=>o (f.trans m) _);have q:=sS (f.trans m);have:=h1 n (f.trans m);rw[Qm (by omega) (by omega)];exact this
end
end Go.X
end
section
namespace Go.X
open Go Go.Lib
section
variable {a:Nat}
abbrev Tk:=Int×Int×Int
def lr:Bs:=[32,9,10,13]
def iO:Bs:=[123,125,91,93,44,58]
def fS:Bs:=[45,43,46,48,49,50,51,52,53,54,55,56,57,101,69]
def nw:Bs:=[45,48,49,50,51,52,53,54,55,56,57]
def Qe:Bs:=[97,98,99,100,101,102,103,104,105,106,107,108,109,110,111,112,113,114,115,116,117,118,119,120,121,122]
def Xw(p:UInt8->Bool)(l:Bs):Nat:=(l.takeWhile p).length
theorem Bu(p:UInt8->Bool)(l:Bs):Xw p l<=l.length:=(List.takeWhile_sublist p).length_le
theorem Ew{p:UInt8->Bool}{c:UInt8}{l:Bs}(h:p c=Ta):0<Xw p (c::l):=by unfold Xw;simp_all
theorem Ag{p:UInt8->Bool}:∀{l:Bs} {k:Nat} (b:k<=l.length),(∀j (f:j<k),p (l[j]'(by omega))=Ta)->(∀h:k<l.length,p l[k]=Tb)->Xw p l=k
 |[],k,b,h1,h2=>by simp at b;subst b;rfl
 |c::l,0,b,h1,h2=>by have:=h2 (by simp);unfold Xw;simp_all
 |c::l,k+1,b,h1,h2=>by have e:=h1 0 (by omega);simp only[List.getElem_cons_zero]at e;unfold Xw;rw[List.takeWhile_cons,zb e,ZV];have:=Ag (p:=p) (l:=l) (k:=k) (by grind) (λj f=>by grind) (λi=>by simp_all);unfold Xw at this;omega
def gP(s:Bs):Int:=if s=[116,114,117,101]then 10 else if s=[102,97,108,115,101]then 11 else if s=[110,117,108,108]then 12 else 0
def Ys(l:Bs)(c:UInt8):Bool:=decide (c∈l)
def fc(s:Bs)(a:Nat):Int×Nat×Int:=match s.drop a with
 |[]=>(0,a,2)
 |c::t=>
  if c∈iO then(2+indexByte iO c,a+1,0)
  else if c∈lr then(1,a+Xw (Ys lr) (c::t),0)
  else if c=34 then(if(j5 s a).2.2=0 then(8,(j5 s a).2.1,0)else(0,(j5 s a).2.1,(j5 s a).2.2))
  else if c∈nw then(if(zo ((c::t).take (Xw (Ys fS) (c::t)))).2=0 then(9,a+Xw (Ys fS) (c::t),0)else(0,a,(zo ((c::t).take (Xw (Ys fS) (c::t)))).2))
  else if gP ((c::t).take (Xw (Ys Qe) (c::t)))=0 then(0,a,2)else(gP ((c::t).take (Xw (Ys Qe) (c::t))),a+Xw (Ys Qe) (c::t),0)
theorem KP{t:Bs}(h:(j5 t a).2.2=0):a<(j5 t a).2.1/\(j5 t a).2.1<=t.length:=by
 unfold j5 at h ⊢;split at h;rename_i c;rw[zb c];have:=(Sc _ (t.drop (a+1)) rfl).1;have b:a<t.length:=by rcases zad a t.length with h1|h1;exact h1;simp_all
 grind;cases h
theorem Cp{s:Bs}(q:a<s.length)(h:(fc s a).2.2=0):a<(fc s a).2.1/\(fc s a).2.1<=s.length:=by
 have k:s.drop a=s[a]::s.drop (a+1):=ZM q;have n:(s[a]::s.drop (a+1)).length=s.length-a:=by rw[<-k,zab]
 have o:=λp=>Bu p (s[a]::s.drop (a+1));rw[n]at o;unfold fc at h ⊢;rw[k]at h ⊢;dsimp only at h ⊢;split;grind;rename_i h1;rw[za h1]at h;split;rename_i m;have:=Ew (p:=Ys lr) (l:=s.drop (a+1)) (c:=s[a]) (by unfold Ys;grind);grind;rename_i m;rw[za m]at h;split;rename_i i;rw[zb i]at h;split at h;simp_all[KP];simp_all;rename_i i;rw[za i]at h;split;rename_i b;rw[zb b]at h;split at h;rename_i f;rw[zb f];have r:s[a]∈fS:=by
  have:∀c∈nw,c∈fS:=by decide
  exact this _ b
 have:=Ew (p:=Ys fS) (l:=s.drop (a+1)) (c:=s[a]) (by unfold Ys;simp_all);grind;simp_all;rename_i b;rw[za b]at h;split at h;cases h;rename_i f;rw[za f];have:0<Xw (Ys Qe) (s[a]::s.drop (a+1)):=by refine Nat.pos_of_ne_zero λe=>f ?_;rw[e];rfl
 grind
def gG:Nat->Bs->Nat->List Tk->List Tk×Nat×Int
 |0,_,a,o=>(o,a,0)
 |f+1,s,a,o=>if a<s.length then(if(fc s a).2.2=0 then gG f s (fc s a).2.1 (o++[((fc s a).1,((a:Int),((fc s a).2.1:Int)))])else([],(fc s a).2.1,(fc s a).2.2))else(o,a,0)
def xz(s:Bs):List Tk×Nat×Int:=if 65536<s.length then([],0,3)else gG s.length s 0 []
end
section
variable {s:Bs}
abbrev Sp:=Int×Int
abbrev Nd:=Int×Sp×Sp×List Int×List Sp
structure PSt where
 rest:List Tk
 last:Int
 nodes:List Nd
abbrev PR(α:Type):=α ⊕ (Int×Int)
def PSt.kind(st:PSt):Int:=match st.rest with | []=>0|t::_=>t.1
def PSt.here(st:PSt)(n:Nat):Int:=match st.rest with | []=>(n:Int)|t::_=>t.2.1
def PSt.skip(st:PSt):PSt:=match st.rest with | []=>st|t::r=>⟨r,t.2.2,st.nodes⟩
def Z3(k:Int):Int:=if k=12 then 1 else if k=10\/k=11 then 2 else if k=9 then 3 else if k=8 then 4 else if k=4 then 5 else if k=2 then 6 else 0
def nl(k:Int)(p:Sp)(x:Nd):Nd:=(x.1,x.2.1,x.2.2.1,x.2.2.2.1++[k],x.2.2.2.2++[p])
def nn(t:Int)(x:Nd):Nd:=(x.1,(x.2.1.1,t),x.2.2)
def PSt.addKid(st:PSt)(n:Nat)(k:Int)(p:Sp):PSt:=⟨st.rest,st.last,st.nodes.modify n (nl k p)⟩
def PSt.setTo(st:PSt)(n:Nat):PSt:=⟨st.rest,st.last,st.nodes.modify n (nn st.last)⟩
def PSt.err{α:Type}(st:PSt)(s:Bs)(e:Int):PR α:=.inr (st.here s.length,e)
abbrev gy:=List Bs->PSt->PR (List Bs×PSt)
def gL(s:Bs)(n:Nat)(closing:Int)(kid:gy):Nat->List Bs->PSt->PR PSt
 |0,_,st=>st.err s 2
 |f+1,had,st=>match kid had st with
  |.inr e=>.inr e
  |.inl (had',st')=>
   if st'.kind=closing then .inl (st'.addKid n st.nodes.length (st.last,st'.here s.length)).skip
   else if st'.kind=6 then gL s n closing kid f had' (st'.addKid n st.nodes.length (st.last,st'.here s.length)).skip
   else st'.err s 2
def iq(s:Bs)(n:Nat)(closing:Int)(kid:gy)(st:PSt):PR PSt:=
 if st.kind=closing then .inl st.skip else gL s n closing kid (st.rest.length+1) [] st
abbrev gj:=Sp->PSt->PR PSt
def i6(val:gj):gy:=λb st=>match val (0,0) st with
 |.inl st'=>.inl (b,st')
 |.inr e=>.inr e
def fH(s:Bs)(p:Sp):Bs:=(s.drop p.1.toNat).take (p.2.toNat-p.1.toNat)
def gS(s:Bs)(val:gj):gy:=λb st=>match st.rest with
 |[]=>st.err s 2
 |t::_=>
  if t.1=8 then
   if(fw (fH s t.2)).1∈b then st.err s 7
   else if st.skip.kind=7 then match val t.2 st.skip.skip with
    |.inl st'=>.inl (b++[(fw (fH s t.2)).1],st')
    |.inr e=>.inr e
   else st.skip.err s 2
  else st.err s 2
def PSt.open(st:PSt)(key:Sp):PSt:=match st.rest with
 |[]=>st
 |t::r=>⟨r,t.2.2,st.nodes++[(Z3 t.1,t.2,key,[],[])]⟩
def i5(s:Bs)(val:gj)(n:Nat)(k:Int)(st:PSt):PR PSt:=
 if k=5 then iq s n 5 (i6 val) st else if k=6 then iq s n 3 (gS s val) st else .inl st
def ft(s:Bs):Nat->gj
 |0,key,st=>if Z3 st.kind=0 then st.err s 2 else st.err s 5
 |d+1,key,st=>if Z3 st.kind=0 then st.err s 2 else if st.nodes.length=4096 then st.err s 6 else
  match i5 s (ft s d) st.nodes.length (Z3 st.kind) (st.open key)with
  |.inl st'=>.inl (st'.setTo st.nodes.length)
  |.inr e=>.inr e
def j6(l:List Tk):List Tk:=l.filter λt=>decide (t.1≠1)
def eU(s:Bs):(Bs×List Nd)×Int×Int:=
 if(xz s).2.2=0 then
  match ft s 32 (0,0) ⟨j6 (xz s).1,0,[]⟩with
  |.inl st=>if st.rest=[]then((s,st.nodes),(s.length:Int),0)else(([],[]),st.here s.length,2)
  |.inr e=>(([],[]),e.1,e.2)
 else(([],[]),((xz s).2.1:Int),(xz s).2.2)
def jF(s:Bs)(t:Tk):Prop:=0<=t.2.1/\t.2.1<t.2.2/\t.2.2<=(s.length:Int)/\(2<=t.1/\t.1<=7->t.2.2=t.2.1+1)
theorem NG{a:Nat}(c:a<s.length)(h:2<=(fc s a).1/\(fc s a).1<=7):(fc s a).2.1=a+1:=by
 have b:s.drop a=s[a]::s.drop (a+1):=ZM c;unfold fc at h ⊢;rw[b]at h ⊢;dsimp only at h ⊢;have e:∀l:Bs,gP l=0\/gP l=10\/gP l=11\/gP l=12:=λl=>by unfold gP;omega
 grind
theorem Fg:∀(f:Nat) (s:Bs) (a:Nat) (o:List Tk),(∀t∈o,jF s t)->∀t∈(gG f s a o).1,jF s t
 |0,s,a,o,h=>h
 |f+1,s,a,o,h=>by rw[gG];split;rename_i c;split;rename_i h0;refine Fg f s _ _ λt b=>?_;rcases ZG.1 b with b|b;exact h t b;rw[zaf.1 b];have e:=Cp c h0;refine⟨by simp,by grind,by grind,λi=>?_⟩;simp_all[NG];simp;exact h
theorem NE(s:Bs):∀t∈(xz s).1,jF s t:=by unfold xz;grind [Fg]
theorem Pt{l:List Tk}(h:∀t∈l,jF s t):∀t∈j6 l,jF s t:=λt b=>h t (zcq.1 b).1
end
section
variable {k:Int} {s:Bs}
def fZ(x:Nd):Nat:=x.2.2.2.1.length+x.2.2.2.2.length
def PSt.T(st:PSt):Nat:=2*st.rest.length+(st.nodes.map fZ).sum
theorem vg{f:Nd->Nd}{k:Nat}(h:∀x,fZ (f x)<=fZ x+k):∀(l:List Nd) (n:Nat),((l.modify n f).map fZ).sum<=(l.map fZ).sum+k
 |[],n=>by simp
 |x::l,0=>by grind
 |x::l,n+1=>by have:=vg h l n;grind
theorem Af{st:PSt}{x:Nd}(h:x∈st.nodes):fZ x<=st.T:=by
 have:∀(l:List Nd),x∈l->fZ x<=(l.map fZ).sum:=by
  intro l;induction l with
  |nil=>simp
  |cons y l b=>grind
 have:=this _ h;unfold PSt.T;omega
theorem LV(st:PSt)(n:Nat)(k:Int)(p:Sp):(st.addKid n k p).T<=st.T+2:=by have:=vg (f:=nl k p) (k:=2) (λx=>by unfold fZ nl;simp;omega) st.nodes n;unfold PSt.T PSt.addKid;grind
theorem Vq(st:PSt)(n:Nat):(st.setTo n).T<=st.T:=by have:=vg (f:=nn st.last) (k:=0) (λx=>by unfold fZ nn;simp) st.nodes n;unfold PSt.T PSt.setTo;grind
theorem So{st:PSt}(h:st.rest≠[]):st.skip.T+2=st.T:=by unfold PSt.skip PSt.T;grind
theorem SA{st:PSt}{key:Sp}(h:st.rest≠[]):(st.open key).T+2=st.T:=by
 unfold PSt.open PSt.T;cases hr:st.rest with
 |nil=>grind
 |cons t r=>simp only[ZV,ZZ,List.sum_append,zae,List.map_nil,List.sum_cons,List.sum_nil,fZ,zb7];omega
theorem Zf(st:PSt):st.skip.nodes=st.nodes:=by unfold PSt.skip;split <;> rfl
theorem PSt.ne_kind{st:PSt}(h:st.kind=k)(b:k≠0):st.rest≠[]:=λe=>by unfold PSt.kind at h;simp_all
theorem vF{st:PSt}(h:¬Z3 st.kind=0):st.rest≠[]:=λe=>by refine h ?_;unfold PSt.kind;rw[e];rfl
theorem BX(st:PSt)(n:Nat)(k:Int)(p:Sp):(st.addKid n k p).nodes.length=st.nodes.length:=by unfold PSt.addKid;simp
theorem xA(st:PSt)(n:Nat):(st.setTo n).nodes.length=st.nodes.length:=by unfold PSt.setTo;simp
theorem uy{st:PSt}{key:Sp}(h:st.rest≠[]):(st.open key).nodes.length=st.nodes.length+1:=by unfold PSt.open;grind
structure Okk (st st':PSt) (k:Nat):Prop where
 t:st'.T+k<=st.T
 r:2*st'.rest.length+k<=2*st.rest.length
 w:∀t∈st'.rest,t∈st.rest
 n:st.nodes.length<=st'.nodes.length
 m:st.nodes.length<=4096->st'.nodes.length<=4096
theorem Okk.trans{a b c:PSt}{j k:Nat}(x:Okk a b j)(y:Okk b c k):Okk a c (j+k):=⟨by have:=x.t;have:=y.t;omega,by have:=x.r;have:=y.r;omega,λt h=>x.w t (y.w t h),by have:=x.n;have:=y.n;omega,λh=>y.m (x.m h)⟩
theorem Okk.le{a b:PSt}{j k:Nat}(x:Okk a b j)(h:k<=j):Okk a b k:=⟨by have:=x.t;omega,by have:=x.r;omega,x.w,x.n,x.m⟩
theorem Okk.refl(a:PSt):Okk a a 0:=⟨YM _,YM _,λt h=>h,YM _,id⟩
theorem Pm{st:PSt}(h:st.rest≠[]):st.skip.rest.length+1=st.rest.length:=by unfold PSt.skip;grind
theorem OK{st:PSt}{key:Sp}(h:st.rest≠[]):(st.open key).rest.length+1=st.rest.length:=by unfold PSt.open;grind
theorem Rz(st:PSt):∀t∈st.skip.rest,t∈st.rest:=by unfold PSt.skip;grind
theorem Ku(st:PSt)(key:Sp):∀t∈(st.open key).rest,t∈st.rest:=by unfold PSt.open;grind
theorem kL{st:PSt}(h:st.rest≠[]):Okk st st.skip 2:=⟨by have:=So h;omega,by have:=Pm h;omega,Rz st,by rw[Zf];omega,by rw[Zf];exact id⟩
def l5(kid:gy):Prop:=∀c st b st',kid c st=.inl (b,st')->Okk st st' 2
theorem wK{kid:gy}(l:l5 kid){i f:List Bs}{st st':PSt}{n:Nat}{p:Sp}(e:kid i st=.inl (f,st'))(h:st'.rest≠[]):Okk st (st'.addKid n k p).skip 2:=by have a:=l _ _ _ _ e;have o:(st'.addKid n k p).rest≠[]:=h;have b:=kL o;have c:=LV st' n k p;have d:=BX st' n k p;have q:(st'.addKid n k p).rest=st'.rest:=rfl;exact⟨by have:=a.t;have:=b.t;omega,by have:=a.r;have:=b.r;grind,λt h=>a.w t (b.w t h),by have:=a.n;have:=b.n;omega,λh=>b.m (by have:=a.m h;omega)⟩
theorem Ek{s:Bs}{n:Nat}{closing:Int}(o:closing≠0){kid:gy}(i:l5 kid):∀(f:Nat) (b:List Bs) (st st':PSt),gL s n closing kid f b st=.inl st'->Okk st st' 2
 |0,b,st,st',h=>by unfold gL PSt.err at h;cases h
 |f+1,b,st,st',h=>by rw[gL]at h;split at h;cases h;rename_i c m e;split at h;rename_i l;cases h;exact wK i e (PSt.ne_kind l o);split at h;rename_i q;have a:=wK i e (n:=n) (k:=(st.nodes.length:Int)) (p:=(st.last,m.here s.length)) (PSt.ne_kind q (by omega));exact(a.trans (Ek o i f c _ st' h)).le (by omega);unfold PSt.err at h;cases h
theorem Cy{n:Nat}{closing:Int}(b:closing≠0){kid:gy}(c:l5 kid){st st':PSt}(h:iq s n closing kid st=.inl st'):Okk st st' 0:=by unfold iq at h;split at h;rename_i e;cases h;exact(kL (PSt.ne_kind e b)).le (by omega);exact(Ek b c _ _ _ _ h).le (by omega)
def uS(val:gj):Prop:=∀key st st',val key st=.inl st'->Okk st st' 2
theorem Dz{val:gj}(h:uS val):l5 (i6 val):=by intro i st b st' e;unfold i6 at e;split at e;rename_i f c;cases e;exact h _ _ _ c;cases e
theorem Df{val:gj}(h:uS val):l5 (gS s val):=by intro m st c st' e;unfold gS at e;split at e;unfold PSt.err at e;cases e;rename_i t r i;split at e;split at e;unfold PSt.err at e;cases e;split at e;rename_i k;split at e;rename_i l f;cases e;have a:=kL (st:=st) (by rw[i];simp);have b:=kL (PSt.ne_kind k (by omega));exact((a.trans b).trans (h _ _ _ f)).le (by omega);cases e;unfold PSt.err at e;cases e;unfold PSt.err at e;cases e
theorem EQ{st:PSt}{key:Sp}(h:st.rest≠[])(c:¬st.nodes.length=4096):Okk st (st.open key) 2:=⟨by simp_all[SA],by have:=OK (key:=key) h;omega,Ku st key,by rw[uy h];omega,λb=>by rw[uy h];omega⟩
theorem pB(s:Bs):∀d:Nat,uS (ft s d)
 |0=>by intro key st st' e;unfold ft at e;split at e <;> (unfold PSt.err at e;cases e)
 |d+1=>by
  intro key st st' e;unfold ft at e;split at e;unfold PSt.err at e;cases e;rename_i k;split at e;unfold PSt.err at e;cases e;rename_i l;split at e;rename_i f i;cases e;have a:=EQ (key:=key) (vF k) l;have b:Okk (st.open key) f 0:=by unfold i5 at i;split at i;exact Cy (by omega) (Dz (pB s d)) i;split at i;exact Cy (by omega) (Df (pB s d)) i;cases i;exact Okk.refl _
  have c:Okk f (f.setTo st.nodes.length) 0:=⟨Vq _ _,YM _,λt h=>h,by rw[xA];omega,by rw[xA];exact id⟩;exact(a.trans b).trans c;cases e
def tf(s:Bs)(b:List Bs)(st:PSt):PR (Bs×Sp×PSt):=match st.rest with
 |[]=>st.err s 2
 |t::_=>
  if t.1=8 then
   if(fw (fH s t.2)).1∈b then st.err s 7
   else if st.skip.kind=7 then .inl ((fw (fH s t.2)).1,t.2,st.skip.skip)
   else st.skip.err s 2
  else st.err s 2
theorem KZ(s:Bs)(val:gj)(b:List Bs)(st:PSt):gS s val b st=match tf s b st with
  |.inl x=>(match val x.2.1 x.2.2 with
   |.inl st'=>.inl (b++[x.1],st')
   |.inr e=>.inr e)
  |.inr e=>.inr e:=by
 unfold gS tf PSt.err;grind
theorem Lv{c:List Bs}{st:PSt}{x:Bs×Sp×PSt}(h:tf s c st=.inl x):Okk st x.2.2 4/\x.2.2.nodes=st.nodes:=by unfold tf PSt.err at h;split at h;cases h;rename_i t r e;split at h;split at h;cases h;split at h;rename_i f;cases h;have a:=kL (st:=st) (by rw[e];simp);have b:=kL (PSt.ne_kind f (by omega));exact⟨a.trans b,by simp[Zf]⟩;cases h;cases h
end
section
variable {lvs:List Nat} {l n lk:Nat} {s:Bs} {closing:Int}
structure GoodN (lvs:List Nat) (nodes:List Nd):Prop where
 len:lvs.length=nodes.length
 lv:∀(k l:Nat),lvs[k]?=Tc l->1<=l/\l<=32
 kid:∀(k l:Nat) (x:Nd),nodes[k]?=Tc x->lvs[k]?=Tc l->∀c∈x.2.2.2.1,∃j:Nat,c=(j:Int)/\k<j/\lvs[j]?=Tc (l+1)
theorem GoodN.nil:GoodN [] []:=⟨rfl,λk l h=>(by cases h),λk l x h=>(by cases h)⟩
theorem GoodN.push{nodes:List Nd}(G:GoodN lvs nodes)(h1:1<=l)(o:l<=32){x:Nd}(p:x.2.2.2.1=[]):GoodN (lvs++[l]) (nodes++[x]):=by refine⟨by simp[G.len],λk m h=>?_,λk m y b e c i=>?_⟩;rw[List.getElem?_append]at h;split at h;exact G.lv k m h;grind;rw[List.getElem?_append]at b e;have n:=G.len;by_cases f:k<nodes.length;rw[zb f]at b;rw[zb (by omega)]at e;obtain⟨j,q,s,r⟩:=G.kid k m y b e c i;grind;grind
theorem GoodN.mod{nodes:List Nd}(G:GoodN lvs nodes){f:Nd->Nd}(h:∀x l c,lvs[n]?=Tc l->c∈(f x).2.2.2.1->c∈x.2.2.2.1\/∃j:Nat,c=(j:Int)/\n<j/\lvs[j]?=Tc (l+1)):GoodN lvs (nodes.modify n f):=by
 refine⟨by rw[List.length_modify];exact G.len,G.lv,λk l x b i c m=>?_⟩;rw[za7]at b;cases hy:nodes[k]? with
 |none=>simp_all
 |some y=>
  rw[hy]at b;by_cases e:n=k;subst e;have b:f y=x:=by simpa using b
  grind [kid];grind [kid]
def sA(kid:gy)(lk:Nat):Prop:=∀c st b st' lvs,kid c st=.inl (b,st')->GoodN lvs st.nodes->∃new,GoodN (lvs++lk::new) st'.nodes
theorem E5{s:Bs}{n l:Nat}{closing:Int}{kid:gy}(r:sA kid (l+1)):∀(f:Nat) (b:List Bs) (st st':PSt) (lvs:List Nat),gL s n closing kid f b st=.inl st'->GoodN lvs st.nodes->lvs[n]?=Tc l->∃new,GoodN (lvs++new) st'.nodes
 |0,b,st,st',lvs,h,G,hn=>by unfold gL PSt.err at h;cases h
 |f+1,b,st,st',lvs,h,G,hn=>by
  rw[gL]at h;split at h;cases h;rename_i k i e;obtain⟨new,A⟩:=r _ _ _ _ lvs e G;have q:=(ZH.1 hn).1;have o:=G.len;have p:(lvs++(l+1)::new)[n]?=Tc l:=by rw[zbn q];exact hn
  have w:(lvs++(l+1)::new)[st.nodes.length]?=Tc (l+1):=by rw[zbw (by omega),<-o,Nat.sub_self];rfl
  have z:GoodN (lvs++(l+1)::new) (i.addKid n st.nodes.length (st.last,i.here s.length)).skip.nodes:=by rw[Zf];refine A.mod λx m c u y=>?_;unfold nl at y;rw[p]at u;cases u;rcases ZG.1 y with h|h;exact .inl h;grind
  split at h;grind;split at h;obtain⟨t,B⟩:=E5 r f k _ st' _ h z p;grind;unfold PSt.err at h;cases h
theorem E8{kid:gy}(c:sA kid (l+1)){st st':PSt}(h:iq s n closing kid st=.inl st')(G:GoodN lvs st.nodes)(b:lvs[n]?=Tc l):∃new,GoodN (lvs++new) st'.nodes:=by unfold iq at h;split at h;cases h;exact⟨[],by rw[ZY,Zf];exact G⟩;grind [E5]
def Ao(val:gj)(lk:Nat):Prop:=∀key st st' lvs,val key st=.inl st'->GoodN lvs st.nodes->∃new,GoodN (lvs++lk::new) st'.nodes
theorem Mp{val:gj}(h:Ao val lk):sA (i6 val) lk:=by intro i st b st' lvs e G;unfold i6 at e;split at e;rename_i f c;cases e;exact h _ _ _ _ c G;cases e
theorem W3{val:gj}(h:Ao val lk):sA (gS s val) lk:=by intro k st b st' lvs e G;rw[KZ]at e;split at e;rename_i x l;have i:=(Lv l).2;split at e;rename_i f c;cases e;exact h _ _ _ _ c (by grind);cases e;cases e
theorem Np{st:PSt}{key:Sp}(h:st.rest≠[]):∃x:Nd,x.2.2.2.1=[]/\(st.open key).nodes=st.nodes++[x]:=by
 unfold PSt.open;cases hr:st.rest with
 |nil=>grind
 |cons t r=>simp
theorem Et(s:Bs):∀d:Nat,d<=32->Ao (ft s d) (33-d)
 |0,_=>by intro key st st' lvs e G;unfold ft at e;split at e <;> (unfold PSt.err at e;cases e)
 |d+1,hd=>by
  intro key st st' lvs e G;have i:=Et s d (by omega);rw[show 33-d=33-(d+1)+1 by omega]at i;unfold ft at e;split at e;unfold PSt.err at e;cases e;rename_i p;split at e;unfold PSt.err at e;cases e;split at e;rename_i h b;cases e;obtain⟨x,k,f⟩:=Np (key:=key) (vF p);have o:GoodN (lvs++[33-(d+1)]) (st.open key).nodes:=by rw[f];exact G.push (by omega) (by omega) k
  have n:(lvs++[33-(d+1)])[st.nodes.length]?=Tc (33-(d+1)):=by rw[<-G.len,zbw (YM _),Nat.sub_self];rfl
  obtain⟨new,m⟩:∃new,GoodN (lvs++[33-(d+1)]++new) h.nodes:=by unfold i5 at b;split at b;exact E8 (Mp i) b o n;split at b;exact E8 (W3 i) b o n;cases b;exact⟨[],by simp_all⟩
  refine⟨new,?_⟩;rw[zbh]at m;exact m.mod λx l c r q=>.inl q;cases e
def rG(kid:gy):Prop:=∀b st x,kid b st=.inr x->x.2≠0
def wd(val:gj):Prop:=∀key st x,val key st=.inr x->x.2≠0
theorem jN{α:Type}{st:PSt}{e:Int}(b:e≠0){x:Int×Int}(h:(st.err s e:PR α)=.inr x):x.2≠0:=by unfold PSt.err at h;grind
theorem EU{s:Bs}{n:Nat}{closing:Int}{kid:gy}(c:rG kid):∀(f:Nat) (b:List Bs) (st:PSt) (x:Int×Int),gL s n closing kid f b st=.inr x->x.2≠0
 |0,b,st,x,h=>by unfold gL at h;exact jN (by omega) h
 |f+1,b,st,x,h=>by rw[gL]at h;split at h;rename_i y e;cases h;exact c _ _ _ e;split at h;cases h;split at h;exact EU c f _ _ x h;exact jN (by omega) h
theorem Fo{kid:gy}(b:rG kid){st:PSt}{x:Int×Int}(h:iq s n closing kid st=.inr x):x.2≠0:=by unfold iq at h;grind [EU]
theorem Ka{val:gj}(h:wd val):rG (i6 val):=by intro c st x e;unfold i6 at e;split at e;cases e;rename_i y b;cases e;exact h _ _ _ b
theorem PY{val:gj}(h:wd val):rG (gS s val):=by intro c st x e;unfold gS at e;split at e;exact jN (by omega) e;split at e;split at e;exact jN (by omega) e;split at e;split at e;cases e;rename_i y b;cases e;exact h _ _ _ b;exact jN (by omega) e;exact jN (by omega) e
theorem vU(s:Bs):∀d:Nat,wd (ft s d)
 |0=>by intro key st x e;unfold ft at e;grind [jN]
 |d+1=>by intro key st x e;unfold ft at e;split at e;exact jN (by omega) e;split at e;exact jN (by omega) e;split at e;cases e;rename_i y b;cases e;unfold i5 at b;split at b;exact Fo (Ka (vU s d)) b;split at b;exact Fo (PY (vU s d)) b;cases b
theorem WR(h:(eU s).2.2=0):∃lvs,GoodN (1::lvs) (eU s).1.2/\(eU s).1.1=s/\(eU s).2.1=(s.length:Int)/\(eU s).1.2.length<=4096/\∀x∈(eU s).1.2,fZ x<=2*(xz s).1.length:=by
 have b:∀{x:Int×Int},ft s 32 (0,0) ⟨j6 (xz s).1,0,[]⟩=.inr x->x.2≠0:=λh=>vU s 32 _ _ _ h;unfold eU at h ⊢;split at h;rename_i h0;rw[zb h0];split at h;rename_i st e;split at h;rename_i c;rw[zb c];have a:=pB s 32 _ _ _ e;obtain⟨new,G⟩:=Et s 32 (by omega) _ _ _ [] e GoodN.nil;refine⟨new,G,rfl,rfl,a.m (by simp),λx f=>?_⟩;have h1:=Af f;have i:=a.t;have l:(⟨j6 (xz s).1,0,[]⟩:PSt).T=2*(j6 (xz s).1).length:=by unfold PSt.T;simp
 have k:(j6 (xz s).1).length<=(xz s).1.length:=List.length_filter_le _ _;omega;simp at h;simp_all;simp_all
end
section
def w9(t:Bs)(p:Sp):Bs:=if p.1<0\/p.2<p.1\/(t.length:Int)<p.2 then []else fH t p
theorem Ds(t:Bs)(p:Sp):(w9 t p).length<=t.length:=by unfold w9 fH;grind
def iL(kind:Int)(t:Bs):Bs:=if kind=2 then t else if kind=3 then Qr (zo t).1 else if kind=4 then(fw t).1 else []
def pa(t:Bs)(x:Nd):Bs:=(fw (w9 t x.2.2.1)).1
def pQ(t:Bs)(nodes:List Nd)(c:Int):Bs:=match nodes[c.toNat]? with
 |some x=>pa t x
 |none=>[]
def kj(t:Bs)(nodes:List Nd):Nat->Nat->Tr
 |0,_=>.mk 0 (bl []) [] []
 |f+1,k=>match nodes[k]? with
  |none=>.mk 0 (bl []) [] []
  |some x=>.mk x.1 (bl (iL x.1 (w9 t x.2.1))) (if x.1=6 then x.2.2.2.1.map λc=>bl (pQ t nodes c)else []) (x.2.2.2.1.map λc=>kj t nodes f c.toNat)
def J6(s:Bs):Tr×Int×Int:=if(eU s).2.2=0 then(kj s (eU s).1.2 33 0,(s.length:Int),0)else(.mk 0 (bl []) [] [],(eU s).2.1,(eU s).2.2)
end
section
theorem o5{k:Nat}(h:k<10):(zas (48+k)).toNat=48+k:=by simp;omega
theorem Bo:∀(n u:Nat),u<=n->(decDigits u).all qy=Ta/\decDigits u≠[]/\zt (decDigits u)=u/\(1<=u->(decDigits u).head?≠Tc 48)
 |0,u,h=>by
  have:u=0:=by omega
  subst this;rw[decDigits,dif_pos (by omega)];exact⟨by decide,by simp,by decide,λh=>by omega⟩
 |n+1,u,h=>by by_cases b:u<10;rw[decDigits,dif_pos b];refine⟨?_,by simp,?_,λh1=>?_⟩;simp only[zbo,zdj,zbp,qy,o5 b];simp;omega;simp only[zt,List.foldl_cons,List.foldl_nil,o5 b];omega;intro e;simp only[List.head?_cons,YL]at e;have:=congrArg UInt8.toNat e;grind [o5];rw[decDigits,dif_neg b];obtain⟨h1,i,k,l⟩:=Bo n (u / 10) (by omega);have f:u % 10<10:=Nat.mod_lt _ (by omega);refine⟨?_,by simp,?_,λ_=>?_⟩;rw[zbq,h1];simp only[zbo,zdj,zbp,zao,qy,o5 f];simp;omega;rw[ED,k,o5 f];omega;obtain⟨c,t,e⟩:=za3 i;grind
theorem UG(u:Nat):itoa (u:Int)=decDigits u:=by unfold itoa;simp
end
section
def mS(x:Tr):Bool:=decide (x.kind≠7)&&zn x
end
section
def jD(b:Bool)(nd lv:Nat):Bs:=if b then 10::zct (nd*lv) 32 else []
def zK(b:Bool)(nd lv:Nat):List Bs->Bs
 |[]=>[]
 |p::ps=>jD b nd lv++p++ps.flatMap λq=>44::(jD b nd lv++q)
def lO(b:Bool)(nd lv:Nat)(ps:List Bs):Bs:=zK b nd (lv+1) ps++(if ps=[]then []else jD b nd lv)
def jE(b:Bool)(k:Bt)(p:Bs):Bs:=(yL (lb k)).1++58::((if b then [32]else [])++p)
mutual
def gg(b:Bool)(nd:Nat):Tr->Nat->Bs
 |.mk k s ks xs,lv=>if k=1 then [110,117,108,108]else if k=4 then(yL (lb s)).1 else if k=5 then 91::lO b nd lv (nV b nd xs (lv+1))++[93]
  else if k=6 then 123::lO b nd lv (List.zipWith (jE b) ks (nV b nd xs (lv+1)))++[125]else lb s
def nV(b:Bool)(nd:Nat):List Tr->Nat->List Bs
 |[],_=>[]
 |x::l,lv=>gg b nd x lv::nV b nd l lv
end
theorem CL(b:Bool)(nd:Nat)(lv:Nat):∀l:List Tr,nV b nd l lv=l.map λx=>gg b nd x lv
 |[]=>rfl
 |x::l=>by rw[nV,CL b nd lv l];rfl
theorem AL(b:Bool)(nd:Nat)(v:Tr)(lv:Nat):gg b nd v lv=if v.kind=1 then [110,117,108,108]else if v.kind=4 then(yL (lb v.text)).1 else if v.kind=5 then 91::lO b nd lv (v.items.map λx=>gg b nd x (lv+1))++[93]
  else if v.kind=6 then 123::lO b nd lv (List.zipWith (jE b) v.keys (v.items.map λx=>gg b nd x (lv+1)))++[125]else lb v.text:=by
 cases v with
 |mk k s ks xs=>rw[gg,CL]
theorem F4:∀{l:List Tr} {y:Tr},y∈l->bR y<=ff l
 |x::l,y,h=>by rw[ff];rcases YS.1 h with rfl|h;omega;have:=F4 h;omega
theorem jd{v x:Tr}(h:x∈v.items):bR x<bR v:=by have:=F4 h;rw[Xu v];omega
end
end Go.X
end
section
namespace Go.X
open Go Go.X Go.Proofs Go.RowKit
section
variable {gl:Fr} {l:Bs} {n:Nat}
theorem XO{s p:Bs}{R:Bool->Prop}(h:R (p.isPrefixOf s)):PC Tp gl 76 [Arg.mk .str (bl s),Arg.mk .str (bl p)] [.bool] R:= PC.of_scal rfl (λ_=>rU _) (r:=p.isPrefixOf s) h λw i=>by have:=V4 (bl s) (bl p) w;have c:(bl s).data.toList=s:=jg s;have f:(bl p).data.toList=p:=jg p;rw[c,f]at this;exact this.mono λe w' ⟨h1,b⟩=>⟨h1,b ▸ Below.refl _ _⟩
theorem Vv{a b:UInt8}(l:Bs):[a,b].isPrefixOf l=decide (l.take 2=[a,b]):=by
 match l with
 |[]=>rfl
 |[x]=>simp[List.isPrefixOf]
 |x::y::l=>simp only[List.isPrefixOf,List.take_succ_cons,List.take_zero,zbp,za4,and_true];rw[ZR,ZE,beq_iff_eq,beq_iff_eq,zA];constructor <;> (rintro⟨rfl,rfl⟩;exact⟨rfl,rfl⟩)
theorem Nv(h:gh l=Tc n):4<=l.length:=by unfold gh at h;split at h;assumption;cases h
theorem PE(q:GL gl)(w:2<=l.length)(u:l.length<=1152921504606846976){R:Int×Int->Prop}(h:R (match nJ (l.drop 2)with|some (r,n)=>((r:Int),(n:Int))|none=>(0,0))):
  PC Tp gl 365 [Arg.mk .str (bl l)] [.int .i32,.int .i64] R:=by
 apply WJ;simp only[zh,mE (show(2:Int)=((2:Nat):Int)from rfl),mE (show(6:Int)=((6:Nat):Int)from rfl),mE (show(8:Int)=((8:Nat):Int)from rfl)];refine⟨⟨by omega,by omega,by omega⟩,?_⟩;unfold nJ at h;refine Ee q (by rw[zab];omega) (λn e=>?_) (λe v=>?_);rw[e]at h;have x:=sS e;have t:=Nv e;rw[zab]at t;dsimp only at h;intro K p;refine⟨λb=>(by cases b),λ_=>p _ ?_⟩;refine⟨λb=>?_,λb=>⟨λo=>?_,λo=>⟨⟨by omega,by omega,by omega⟩,?_⟩⟩⟩;simp only[Bool.cond_eq_ite,Bool.if_false_right,ZE,zA]at b;rw[zb (by omega)]at h;exact h;simp only[Bool.cond_eq_ite,Bool.if_false_right,zcr,decide_eq_false_iff_not,Bool.if_true_left,zbb,zA]at b o;rw[za (by omega),zb (by omega)]at h;exact h;simp only[Bool.cond_eq_ite,Bool.if_false_right,zcr,decide_eq_false_iff_not,Bool.if_true_left,zcv,zA]at b o;rw[za (by omega),za (by omega)]at h;rw[zbt,zbt]at h;refine XO ?_;rw[Vv];refine⟨λk=>?_,λk=>⟨⟨by omega,?_,by omega⟩,?_⟩⟩;rw[za (by simpa using k)]at h;exact h;have c:(l.drop 6).take 2=[92,117]:=by simpa using k
 have:=congrArg zam c;simp only[za0,zab,ZV,zb7]at this;omega;have c:(l.drop 6).take 2=[92,117]:=by simpa using k
 rw[zb c]at h;refine Ee q (by rw[zab];omega) (λm i=>?_) (λi v=>?_);rw[show 2+6=8 from rfl,i]at h;have y:=sS i;dsimp only at h;refine⟨λf=>?_,λf=>?_⟩;simp only[Bool.cond_eq_ite,Bool.if_true_left,zbb,zA,Bool.not_true,zaz,false_or]at f;rw[za (show¬(56320<=m/\m<57344)by omega)]at h;exact h;simp only[Bool.cond_eq_ite,Bool.if_true_left,zcv,decide_eq_false_iff_not,Bool.not_true,zaz,decide_false,zA,Bool.false_or]at f;rw[zb (show 56320<=m/\m<57344 by omega)]at h;dsimp only at h;rw[Qm (n:=(n:Int)-55296) (by omega) (by omega),Qm (n:=((n:Int)-55296)*1024) (by omega) (by omega),Qm (n:=65536+((n:Int)-55296)*1024) (by omega) (by omega),Qm (n:=65536+((n:Int)-55296)*1024+(m:Int)) (by omega) (by omega),Qm (by omega) (by omega)];have s:(((65536+(n-55296)*1024+(m-56320):Nat):Int))=65536+((n:Int)-55296)*1024+(m:Int)-56320:=by omega
 rw[s]at h;exact h;rw[show 2+6=8 from rfl,i]at h;exact⟨λ_=>h,λf=>by simp at f⟩;rw[e]at h;intro K p;exact⟨λ_=>p _ ⟨λ_=>h,λb=>by cases b⟩,λb=>by cases b⟩
theorem ni{c:UInt8}(b:n<256):((c.toNat:Int)==(n:Int))=decide (c=zas n):=by rw[ZR,beq_iff_eq,zA,UL b];omega
theorem Sf{c:UInt8}{R:Int×Bool->Prop}(h:R (match lT c with|some r=>((r:Int),Ta)|none=>(0,Tb))):PC Tp gl 364 [Arg.mk (.int .u8) (c.toNat:Int)] [.int .i32,.bool] R:=by
 apply Te;have B:=c.toNat_lt;have q:∀n:Nat,n<256->((c.toNat:Int)==(n:Int))=decide (c=zas n):=λn z=>ni z;have m:=q 34 (by omega);have s:=q 92 (by omega);have p:=q 47 (by omega);have o:=q 98 (by omega);have f:=q 102 (by omega);have e:=q 110 (by omega);have i:=q 114 (by omega);have k:=q 116 (by omega);simp only[Int.cast_ofNat_Int,show zas 34=34 from rfl,show zas 92=92 from rfl,show zas 47=47 from rfl,show zas 98=98 from rfl,show zas 102=102 from rfl,show zas 110=110 from rfl,show zas 114=114 from rfl,show zas 116=116 from rfl]at m s p o f e i k;rw[m,s,p,o,f,e,i,k];unfold lT at h;intro K A;have yes:(c=34\/c=92\/c=47)->K Ta:=by intro h1;apply A;rw[zb h1]at h;rw[Qm (by omega) (by omega)];exact⟨λ_=>h,λb=>by cases b⟩
 refine⟨λh1=>by rw[h1];exact yes (.inl (by simpa using h1)),λh1=>⟨λl=>by rw[l];exact yes (.inr (.inl (by simpa using l))),λl=>?_⟩⟩;by_cases x:c=47;rw[zD x];exact yes (.inr (.inr x));have z:¬(c=34\/c=92\/c=47):=by rw[decide_eq_false_iff_not]at h1 l;rintro(h|h|h);exact h1 h;exact l h;exact x h
 rw[za z]at h;rw[zE x];apply A;refine⟨λb=>(by cases b),λ_=>?_⟩;by_cases y:c=98;rw[zb y]at h;rw[zD y];exact⟨λ_=>h,λb=>by cases b⟩;rw[za y]at h;rw[zE y];refine⟨λb=>(by cases b),λ_=>?_⟩;by_cases a2:c=102;rw[zb a2]at h;rw[zD a2];exact⟨λ_=>h,λb=>by cases b⟩;rw[za a2]at h;rw[zE a2];refine⟨λb=>(by cases b),λ_=>?_⟩;by_cases t:c=110;rw[zb t]at h;rw[zD t];exact⟨λ_=>h,λb=>by cases b⟩;rw[za t]at h;rw[zE t];refine⟨λb=>(by cases b),λ_=>?_⟩;by_cases w:c=114;rw[zb w]at h;rw[zD w];exact⟨λ_=>h,λb=>by cases b⟩;rw[za w]at h;rw[zE w];refine⟨λb=>(by cases b),λ_=>?_⟩;by_cases u:c=116;rw[zb u]at h;rw[zD u];exact⟨λ_=>h,λb=>by cases b⟩;rw[za u]at h;rw[zE u];exact⟨λb=>(by cases b),λ_=>h⟩
end
section
variable {gl M:Fr} {l:Bs}
theorem NO(m:GL gl)(f:l.length<=1152921504606846976){R:Int×Int->Prop}(h:R (match pz l with|some (r,n)=>((r:Int),(n:Int))|none=>(0,0))):
  PC Tp gl 317 [Arg.mk .str (bl l)] [.int .i32,.int .i64] R:=by
 apply UT;rw[zh]
 match l,f,h with
 |[],_,h=>exact⟨λ_=>h,λb=>by simp at b⟩
 |[a],_,h=>exact⟨λ_=>h,λb=>by simp at b⟩
 |a::c::t,f,h=>
  have i:((a::c::t).length:Int)=t.length+2:=by simp;omega
  refine⟨λb=>(by rw[zA]at b;omega),λ_=>⟨⟨by omega,by omega⟩,?_⟩⟩;have k:zf (bl (a::c::t)) (1:Int).toNat=(c.toNat:Int):=by rw[qq];rfl
  rw[k];refine Sf ?_;unfold pz at h;dsimp only at h;cases e:lT c with
  |some r=>rw[e]at h;exact⟨λ_=>h,λb=>(by cases b)⟩
  |none=>rw[e]at h;dsimp only at h;refine⟨λb=>(by cases b),λ_=>⟨⟨by omega,by omega⟩,?_⟩⟩;have o:((c.toNat:Int)==117)=decide (c=117):=ni (n:=117) (by omega);rw[o];refine⟨λb=>?_,λb=>?_⟩;rw[zb (by simpa using b)]at h;refine PE m (by simp) f ?_;exact h;rw[za (by simpa using b)]at h;exact h
theorem VP(h:l≠[]):Lib.decodeGo (bl l)=dec l:=by unfold Lib.decodeGo;have b:=ZX.2 h;rw[za (by rw[zh];omega),pq,jg,za5]
theorem Vn(e:GL gl)(b:l≠[])(k:l.length<=1152921504606846976){R:Int×Int->Prop}(h:R (match iG l with|some (r,n)=>((r:Int),(n:Int))|none=>(0,0))):
  PC Tp gl 263 [Arg.mk .str (bl l)] [.int .i32,.int .i64] R:=by
 apply Ij;have f:=ZX.2 b;rw[zh,qq,show(0:Int).toNat=0 from rfl,jM f];refine⟨⟨by omega,by omega⟩,?_⟩;have p:((l[0].toNat:Int)==92)=decide (l[0]=92):=ni (n:=92) (by omega);have o:l.head?=Tc l[0]:=by cases l with
  |nil=>exact absurd rfl b
  |cons a t=>rfl
 rw[p];unfold iG at h;rw[o]at h;refine⟨λc=>?_,λc=>?_⟩;rw[zb (by rw[zB c])]at h;exact NO e k h;rw[za (by rw[YL];exact zC c)]at h;refine CY e.tabs ?_;rw[VP b];have i:(bif (decide (((dec l).1:Int)<32))then Ta else(bif (((dec l).1:Int)==65533)then(((dec l).2:Int)==1)else Tb))=decide ((dec l).1<32\/gd (dec l)=Ta):=by rw[ZR];unfold gd;simp only[Bool.cond_eq_ite,Bool.if_true_left,Bool.if_false_right,zbb,ZE,zA,beq_iff_eq];constructor;rintro(h1|⟨h1,m⟩);left;omega;right;exact⟨by omega,by omega⟩;rintro(h1|⟨h1,m⟩);left;omega;right;exact⟨by omega,by omega⟩
 rw[i];refine⟨λc=>?_,λc=>?_⟩;rw[zb (zB c)]at h;exact h;rw[za (zC c)]at h;exact h
theorem qs(s:Bt)(i j:Int):Yf M [.str,.int .i64,.int .i64] (s,i,j) (.tuple #[.string s,.int .i64 i,.int .i64 j]):= ⟨[_,_,_],⟨_,_,rfl,rdStr s,_,_,rfl,Z2 _ i,_,rfl,Z2 _ j⟩,rfl⟩
theorem HC{k:IntKind}{r:Int×Int}{v:Value}(h:Yf M [.int k,.int .i64] r v):v=.tuple #[.int k r.1,.int .i64 r.2]:=by obtain⟨vs,⟨f,rest,rfl,c,e,rfl,b⟩,rfl⟩:=h;rw[yj c,yj b];rfl
set_option maxHeartbeats 1000000 in
theorem A4(V:GL gl){t:Bs}{a:Nat}(Z:a<=1152921504606846976)(hl:t.length<=1099511627776){R:Bt×Int×Int->Prop}(u:R (bl (j5 t a).1,((j5 t a).2.1:Int),(j5 t a).2.2)):
  PC Tp gl 195 [Arg.mk .str (bl t),Arg.mk (.int .i64) (a:Int)] [.str,.int .i64,.int .i64] R:=by
 intro h M vs P ag ha
 match vs,ha with
 |[u1,u2],⟨a1,a2,_⟩=>
  obtain rfl:=xt (s:=bl t) a1;obtain rfl:=yj (i:=(a:Int)) a2;apply PX.of;apply Uj;rw[zh,qq,YO];have f:∀{k:Nat},k<t.length->(t.drop k).head?=Tc (t[k]?.getD 0):=λ {k} J=>by rw[List.head?_drop,YR J];rfl
  have E:∀k:Nat,(((t[k]?.getD 0).toNat:Int)==34)=decide (t[k]?.getD 0=34):=λk=>ni (n:=34) (by omega);have I:(((t[a]?.getD 0).toNat:Int) != 34)=!decide (t[a]?.getD 0=34):=by rw[bne,E]
  rw[I];refine⟨λl=>?_,λl=>?_,λl=>?_⟩;have:¬((a:Int)>=(t.length:Int)):=by simpa using l
  exact⟨by omega,by omega⟩;have hn:¬(t.drop a).head?=Tc 34:=by
   intro e;have o:a<t.length:=by rcases zad a t.length with h1|h1;exact h1;rw[zac h1]at e;cases e
   rw[f o]at e;have e:=ZS e;have D:decide ((a:Int)>=(t.length:Int))=Tb:=by rw[decide_eq_false_iff_not];omega
   rw[D,e]at l;simp at l
  have e:j5 t a=([],a,2):=by unfold j5;rw[za hn]
  rw[e]at u;exact⟨M,(bl [],(a:Int),2),Later.refl ag,qs _ _ _,u⟩;have o:a<t.length:=by
   rcases zad a t.length with h1|h1;exact h1;have D:decide ((a:Int)>=(t.length:Int))=Ta:=by rw[zA];omega
   rw[D]at l;cases l
  have D:decide ((a:Int)>=(t.length:Int))=Tb:=by rw[decide_eq_false_iff_not];omega
  have Y:(t.drop a).head?=Tc 34:=by rw[f o];rw[D]at l;congr 1;simpa using l
  have Q:j5 t a=(let q:=ij (t.drop (a+1));if q.2.2 then(q.1,a+1+q.2.1,0)else([],a+1+q.2.1,2)):=by unfold j5;rw[zb Y]
  rw[qd o (by omega)];intro h1;have B1:Bld h1 h.size []:=Bld.new h;have N:Keep h.size h h1:=Keep.push _ _ (YM _);clear_value h1;refine⟨λi g=>∃(k:Nat) (out:Bs),i=(k:Int)/\k<=t.length/\out.length<=4*k/\Bld g h.size out/\Keep h.size h g/\j5 t a=(let q:=ij (t.drop k);if q.2.2 then(out++q.1,k+q.2.1,0)else([],k+q.2.1,2)),λi _=>t.length-i.toNat,⟨a+1,[],rfl,by omega,by simp,B1,N,by rw[Q];rfl⟩,?_⟩;rintro i g ⟨k,out,rfl,J,ho,B,y,z⟩;simp only[YO];refine⟨λl=>?_,λl=>?_⟩;have p:k<t.length:=by rw[zA]at l;omega
  have w:t.drop k≠[]:=by rw[<-ZX,zab];omega
  refine⟨⟨by omega,by omega⟩,?_⟩;rw[qq,E];have b:=A0 w;rw[f p]at b;refine⟨λA=>?_,λA=>⟨⟨by omega,by omega,by omega⟩,?_⟩⟩;rw[zb (by rw[zB A])]at b;rw[b]at z;refine UU B λh7 U=>⟨_,rfl,M,(bl out,((k+1:Nat):Int),0),Later.same ag (y.trans U (YM _)),?_,?_⟩;rw[qd p (by omega)];exact qs _ _ _;rw[z]at u;simpa using u;rw[za (by rw[YL];exact zC A)]at b;have ex:(bl t).extract k t.length=bl (t.drop k):=mE (n:=(k:Int)) rfl;rw[ex];refine(Vn V w (by rw[zab];omega) (R:=λr=>r=(match iG (t.drop k)with|some (r,n)=>((r:Int),(n:Int))|none=>(0,0))) rfl).go P (ag.keep y) (zm (a:=Arg.mk .str _) (rdStr _) zz) λv h9 M9 r L hv C=>?_;obtain rfl:=HC hv;cases ep:iG (t.drop k)with
  |none=>rw[ep]at C b;dsimp only at C;subst C;refine⟨_,_,rfl,λ_=>?_,λG=>by cases G⟩;dsimp only at b;rw[b]at z;refine⟨M,(bl [],(k:Int),2),Later.same ag (y.trans L.keep y.size),qs _ _ _,?_⟩;rw[z]at u;simpa using u
  |some x=>
   obtain⟨c,n⟩:=x;rw[ep]at C b;dsimp only at C;subst C;obtain⟨n1,n2,S,n4⟩:=Xd w ep;rw[zab]at S;dsimp only at b;refine⟨(c:Int),(n:Int),rfl,λG=>?_,λ_=>?_⟩;simp only[beq_iff_eq]at G;omega;refine I7 (B.keep L.keep) (by omega) (by omega) (by omega) λO m H F=>⟨_,_,rfl,?_,?_⟩;refine⟨k+n,out++Lib.encodeRune (c:Int),?_,by omega,?_,H,?_,?_⟩;rw[cR (by omega)];omega;have h4:(Lib.encodeRune (c:Int)).length<=4:=by have:=(Lib.encodeRuneZ_length (c:Int)).2;rw[Lib.encodeRune,ZA];exact this
   rw[ZC];omega;exact(y.trans L.keep y.size).trans F (YM _);rw[z,b,zbt];dsimp only;rw[zbh,Nat.add_assoc];show t.length-(YJ .i64 ((k:Int)+(n:Int))).toNat<t.length-((k:Nat):Int).toNat;rw[cR (by omega)];omega
  have p:k=t.length:=by rw[decide_eq_false_iff_not]at l;omega
  rw[p,zbm,PH]at z;refine⟨M,(bl [],(t.length:Int),2),Later.same ag y,qs _ _ _,?_⟩;rw[z]at u;simpa using u
end
section
variable {t:Bs} {gl:Fr}
def pG(t:Bs)(a:Int):Int×Int:=if a<0\/(t.length:Int)<a then(0,2)else((j5 t a.toNat).2.1,(j5 t a.toNat).2.2)
theorem KT{R:Bt×Int×Int->Prop}(h:R (bl (fw t).1,((fw t).2.1:Int),(fw t).2.2)):
  ((bif ((j5 t 0).2.2==0)then(decide (((j5 t 0).2.1:Int)<(t.length:Int)))else Tb)=Ta->R (bl [],((j5 t 0).2.1:Int),2))/\((bif ((j5 t 0).2.2==0)then(decide (((j5 t 0).2.1:Int)<(t.length:Int)))else Tb)=Tb->R (bl (j5 t 0).1,((j5 t 0).2.1:Int),(j5 t 0).2.2)):=by
 have e:(bif ((j5 t 0).2.2==0)then(decide (((j5 t 0).2.1:Int)<(t.length:Int)))else Tb)=decide ((j5 t 0).2.2=0/\(j5 t 0).2.1<t.length):=by rw[ZR];simp only[Bool.cond_eq_ite,Bool.if_false_right,ZE,zA,beq_iff_eq];omega
 rw[e];unfold fw at h;refine⟨λb=>?_,λb=>?_⟩;rw[zb (zB b)]at h;exact h;rw[za (zC b)]at h;exact h
theorem xM(b:GL gl)(c:t.length<=1099511627776){R:Bt×Int×Int->Prop}(h:R (bl (fw t).1,((fw t).2.1:Int),(fw t).2.2)):
  PC Tp gl 126 [Arg.mk .str (bl t)] [.str,.int .i64,.int .i64] R:=by
 apply TN;rw[zh];exact A4 b (a:=0) (by omega) c (KT h)
theorem Mk(k:GL gl){a:Int}(f:t.length<=1099511627776){R:Int×Int->Prop}(h:R (pG t a)):PC Tp gl 192 [Arg.mk .str (bl t),Arg.mk (.int .i64) a] [.int .i64,.int .i64] R:=by
 apply YB;rw[zh];have e:(bif (decide (a<0))then Ta else(decide (a>(t.length:Int))))=decide (a<0\/(t.length:Int)<a):=by rw[ZR];simp only[Bool.cond_eq_ite,Bool.if_true_left,zbb,zA]
 rw[e];unfold pG at h;refine⟨λc=>?_,λc=>?_⟩;rw[zb (zB c)]at h;exact h;have l:=zC c;rw[za l]at h;have i:a=((a.toNat:Nat):Int):=by omega
 have:=A4 k (t:=t) (a:=a.toNat) (by omega) f (R:=λb=>R (b.2.1,b.2.2)) h;rw[<-i]at this;exact this
end
end Go.X
end
section
namespace Go.X
open Go Go.RowKit
section
variable {cs:Array Value} {o n b:Nat} {h:zc}
theorem lh(h:o+n<=cs.size):(cut cs o n).length=n:=by unfold cut;simp;omega
theorem Hn(H:Blk h b cs):Arr h.size h (Tc ⟨b,o,Td⟩) (cut cs o n):=by refine .inr ⟨b,o,rfl,H.lt,λi v c=>H.cell ?_⟩;rw[yu]at c;split at c;rw[<-zav];exact c;cases c
theorem Tm{P:Program}(H:Blk h b cs){vs:List Value}(k:o+vs.length<=cs.size)(h1:∀u∈vs,u.oneCell'=Ta)(B:World)(d:Nat):
  ∃h',(storeCells ⟨b,o,Td⟩ vs 0).run P (mk B d h)=.ok () (mk B d h')/\Blk h' b (upd cs o vs)/\h'.size=h.size/\∀j,j≠b->h'[j]?=h[j]?:=by
 obtain⟨T,e⟩:=H;obtain⟨h',l,c,i,f⟩:=BW (P:=P) e k h1 B d;exact⟨h',l,⟨T,c⟩,i,f⟩
end
section
variable {cs:Array Value} {vs:List Value}
structure RowO (h:zc) (s:Sl) (b:Nat) (cs:Array Value) (sz:Nat):Prop where
 le:s.len<=s.cap
 at_:(s.len=0/\s.cap=0)\/(s.a=Tc ⟨b,0,Td⟩/\Blk h b cs/\s.cap*sz<=cs.size)
structure RowN (h h':zc) (s':Sl) (b b':Nat) (cs':Array Value) (sz n:Nat) (cells:List Value):Prop where
 a:s'.a=Tc ⟨b',0,Td⟩
 len:s'.len=n
 cap:n<=s'.cap
 blk:Blk h' b' cs'
 size:s'.cap*sz<=cs'.size
 cut:cut cs' 0 (n*sz)=cells
 new:b'=b\/h.size<=b'
 grow:h.size<=h'.size
 old:∀j,j<h.size->j≠b'->h'[j]?=h[j]?
theorem Iq{n m:Nat}(e:n+vs.length<=cs.size)(c:m=n+vs.length):cut (upd cs n vs) 0 m=cut cs 0 n++vs:=by subst c;have b:(cut cs 0 n).length=n:=lh (by omega);apply zap;intro q;rw[yu];split;rename_i f;rw[ZP,K0 e];split;rename_i h1;rw[zbn (by omega),yu,zb h1,ZP];simp_all;simp_all
theorem sq{P:Program}{t e:TypeId}{z:Value}{sz bytes:Nat}(T:ElemT P t e z sz bytes){ty:TypeId}{h:zc}{s:Sl}{b:Nat}(H:RowO h s b cs sz){bv cv:Nat}(M:Blk h bv vs.toArray)(i:vs.length=sz)(h1:∀u∈vs,u.oneCell'=Ta)(C:(s.len+1)*bytes<=140737488355328)(J:s.len+1<=140737488355328){K:Value->zc->Prop} (w:∀(s':Sl) (h':zc) (A:Nat) (cs':Array Value),RowN h h' s' b A cs' sz (s.len+1) (cut cs 0 (s.len*sz)++vs)->K (.slice s'.a s'.len s'.cap) h'):
  xd P (YY #[t,t] ty #[.slice s.a s.len s.cap,.slice (Tc ⟨bv,0,Td⟩) 1 cv]) h K:=by
 intro B d;have l:Arr h.size h (Tc ⟨bv,0,Td⟩) vs:=by have:=Hn M (o:=0) (n:=vs.length);rw[show cut vs.toArray 0 vs.length=vs by unfold cut;simp]at this;exact this
 have y:∀B d,Src P sz t (.slice (Tc ⟨bv,0,Td⟩) 1 cv) 1 vs (mk B d h):=λB d=>Cr (P:=P) (s:=⟨Tc ⟨bv,0,Td⟩,1,cv⟩) l (by simp[i]) T.pos h1 T.slice B d;have Z:(s.len+1)*sz=s.len*sz+sz:=zcn _ _;by_cases r:s.len+1<=s.cap;rcases H.at_ with⟨_,h0⟩|⟨x,q,N⟩;omega;have G:(s.len+1)*sz<=s.cap*sz:=ZF _ r;obtain⟨h',S,I,Q,D⟩:=Tm (P:=P) q (o:=s.len*sz) (vs:=vs) (by rw[i];omega) h1 B d;have m:=Yg (P:=P) (ty:=ty) T (s:=s) (h':=h') (y B d) r (λp V=>by simp_all[zw]) (λhn=>by simp_all);refine⟨_,d,h',m,w ⟨s.a,s.len+1,s.cap⟩ h' b _ ⟨x,rfl,r,I,by grind [Hk],Iq (by rw[i];omega) (by omega),.inl rfl,by omega,λj L k=>D j k⟩⟩;have f:Arr h.size h s.a (cut cs 0 (s.len*sz))/\(cut cs 0 (s.len*sz)).length=s.len*sz:=by rcases H.at_ with⟨h0,_⟩|⟨x,q,N⟩;rw[h0,Nat.zero_mul];exact⟨.inl (by unfold cut;simp),by unfold cut;simp⟩;have G:s.len*sz<=s.cap*sz:=ZF _ H.le;grind [Hn,lh]
 obtain⟨c,blk,E,O,U,Y,F⟩:=Ws (P:=P) (ty:=ty) (base:=0) T f.2 (λB d=>Qc f.1 f.2 T.pos B d) y C J (ZN _) (by omega) B d;refine⟨_,d+1,_,E,w ⟨Tc ⟨h.size,0,Td⟩,s.len+1,c⟩ _ h.size blk ⟨rfl,rfl,O,Blk.new _ _ _,by simp_all,by unfold cut;rw[za5];exact F,.inr (YM _),by simp,λj L k=>by grind⟩⟩
end
end Go.X
end
section
namespace Go.X
section
variable {lo:Nat} {h h':zc} {M M':Fr} {s:Sl} {bs:List Nat}
def ORow(lo:Nat)(h:zc)(M:Fr)(T:Ty)(xs:List (El T))(s:Sl)(bs:List Nat):Prop:=
 (xs=[]/\s.len=0/\s.cap=0/\bs=[])\/∃(b:Nat) (cs:Array Value),bs=[b]/\s.a=Tc ⟨b,0,Td⟩/\s.len=xs.length/\s.len<=s.cap/\Blk h b cs/\s.cap*sz T<=cs.size/\lo<=b/\M b=Td/\∀i (hi:i<xs.length),Rd M T xs[i] (cut cs (i*sz T) (sz T))
theorem ORow.nil{T:Ty}:ORow lo h M T [] ⟨Td,0,0⟩ []:=.inl ⟨rfl,rfl,rfl,rfl⟩
theorem ORow.len{T:Ty}{xs:List (El T)}(H:ORow lo h M T xs s bs):s.len=xs.length:=by rcases H with⟨rfl,h1,_⟩|⟨b,cs,_,_,h1,_⟩;exact h1;exact h1
theorem ORow.own{T:Ty}{xs:List (El T)}(H:ORow lo h M T xs s bs):∀c∈bs,lo<=c/\c<h.size/\M c=Td:=by rcases H with⟨_,_,_,rfl⟩|⟨b,cs,rfl,_,_,_,e,_,h1,i,_⟩;intro c f;cases f;intro c f;rw[zaf.1 f];exact⟨h1,e.lt,i⟩
theorem ORow.frame{T:Ty}{xs:List (El T)}(H:ORow lo h M T xs s bs)(f:∀c∈bs,h'[c]?=h[c]?)(le:Fr.le M M')(m:∀c∈bs,M' c=Td):ORow lo h' M' T xs s bs:=by rcases H with H|⟨b,cs,rfl,h1,l,n,e,p,o,q,k⟩;exact .inl H;refine .inr ⟨b,cs,rfl,h1,l,n,?_,p,o,m b (by simp),λi hi=>Rd.mono le (k i hi)⟩;unfold Blk at e ⊢;rw[f b (by simp)];exact e
theorem ORow.call{T:Ty}{xs:List (El T)}(H:ORow lo h M T xs s bs)(L:Later h M h' M'):ORow lo h' M' T xs s bs:=by refine H.frame (λc b=>L.keep.get c (H.own c b).2.1) L.le λc b=>?_;rw[L.old c (H.own c b).2.1];exact(H.own c b).2.2
theorem ORow.rd{T:Ty}{xs:List (El T)}{bs all:List Nat}(H:ORow lo h M T xs s bs)(ag:AgM M h)(l:∀c∈bs,c∈all)(o:xs.length<=1000000):Rd (MxL M h all) (.row T) xs [aK s]:=by rcases H with⟨rfl,h1,e,rfl⟩|⟨b,cs,rfl,h1,e,n,m,r,p,q,f⟩;refine⟨_,rfl,s.a,s.cap,?_,⟨by simp,by simp⟩,.inl rfl⟩;show aK s=_;unfold aK;rw[h1];rfl;refine⟨_,rfl,s.a,s.cap,?_,⟨by omega,by omega⟩,?_⟩;unfold aK;rw[e];by_cases k:xs=[];exact .inl k;refine .inr ⟨b,0,cs,h1,MxL.at (l b (by simp)) m,λi hi=>?_⟩;rw[ZP];exact Rd.mono (Y4 ag all) (f i hi)
theorem ORow.app{t e:TypeId}{z:Value}{bytes:Nat}{T:Ty}(E:ElemT Tp t e z (sz T) bytes)(G:bytes<=1000){ty:TypeId}{xs:List (El T)}(ag:AgM M h)(H:ORow lo h M T xs s bs)(ah:lo<=h.size){bv cv:Nat}{vs:List Value}{x:El T}(hv:Blk h bv vs.toArray)(I:Rd M T x vs)(S:xs.length<=1000000){K:Value->zc->Prop} (hK:∀(s':Sl) (h':zc) (p:List Nat),ORow lo h' M T (xs++[x]) s' p->h.size<=h'.size->(∀c∈p,c∈bs\/h.size<=c)->(∀j,j<h.size->j∉bs->h'[j]?=h[j]?)->K (.slice s'.a s'.len s'.cap) h'):
  xd Tp (YY #[t,t] ty #[.slice s.a s.len s.cap,.slice (Tc ⟨bv,0,Td⟩) 1 cv]) h K:=by
 have C:vs.length=sz T:=Rd.len I;have h1:∀u∈vs,u.oneCell'=Ta:=Rd.one I;have m:=H.len;have A:∀c,h.size<=c->M c=Td:=by
  intro c U;cases e:M c with
  |none=>rfl
  |some cs=>have:=ag.lt e;omega
 obtain⟨b,cs,f,Z,D⟩:∃b cs,RowO h s b cs (sz T)/\((bs=[b]/\lo<=b/\M b=Td)\/(b=h.size/\bs=[]))/\∀i (hi:i<xs.length),i*sz T+sz T<=cs.size/\Rd M T xs[i] (cut cs (i*sz T) (sz T)):=by rcases H with⟨rfl,J,Q,rfl⟩|⟨b,cs,rfl,J,Q,e3,e4,V,e6,Y,e8⟩;exact⟨h.size,#[],⟨by omega,.inl ⟨J,Q⟩⟩,.inr ⟨rfl,rfl⟩,λi hi=>by simp at hi⟩;refine⟨b,cs,⟨e3,.inr ⟨J,e4,V⟩⟩,.inl ⟨rfl,e6,Y⟩,λi hi=>⟨?_,e8 i hi⟩⟩;have:(i+1)*sz T<=s.cap*sz T:=ZF _ (by omega);rw[zcn]at this;omega
 have w:(s.len+1)*bytes<=140737488355328:=by have:(s.len+1)*bytes<=1000001*1000:=Nat.mul_le_mul (by omega) G;omega
 refine sq E f hv C h1 w (by omega) λs' h' n cs' N=>?_;have l:(n∈bs/\lo<=n/\M n=Td)\/h.size<=n:=by rcases N.new with e|e;rcases Z with⟨r,P,F⟩|⟨r,_⟩;subst e;exact .inl ⟨by rw[r];simp,P,F⟩;exact .inr (by omega);exact .inr e
 refine hK s' h' [n] (.inr ⟨n,cs',rfl,N.a,by rw[N.len,ZC,m];rfl,by rw[N.len];exact N.cap,N.blk,N.size,?_,?_,λi hi=>?_⟩) N.grow (λc U=>?_) λj hj S=>N.old j hj λe=>?_;rcases l with q|q;exact q.2.1;omega;rcases l with q|q;exact q.2.2;exact A n q;have y:=N.cut;have aa:i<xs.length+1:=by simpa using hi
 have hm:(i+1)*sz T<=(s.len+1)*sz T:=ZF _ (by omega);have ae:(i+1)*sz T=i*sz T+sz T:=zcn _ _;have af:(s.len+1)*sz T=s.len*sz T+sz T:=zcn _ _;have key:∀q,q<sz T->(cut cs' (i*sz T) (sz T))[q]?=(cut cs 0 (s.len*sz T)++vs)[i*sz T+q]?:=by intro q k;rw[yu,zb k,<-y,yu,zb (by omega),ZP]
 by_cases o:i<xs.length;rw[List.getElem_append_left o];obtain⟨g1,g2⟩:=D i o;have ab:(i+1)*sz T<=s.len*sz T:=ZF _ (by omega);have e:cut cs' (i*sz T) (sz T)=cut cs (i*sz T) (sz T):=by
  apply zap;intro q;by_cases k:q<sz T;rw[key q k,zbn ?_,yu,yu,zb k,zb (by omega),ZP];have B:s.len*sz T<=cs.size:=by rcases f.at_ with⟨r,P⟩|⟨_,_,F⟩;omega;have:s.len*sz T<=s.cap*sz T:=ZF _ f.le;omega
  rw[lh (by omega)];omega;rw[yu,yu,za k,za k]
 rw[e];exact g2;have L:i=xs.length:=by omega
 subst L;rw[List.getElem_append_right (YM _)];have O:(cut cs 0 (s.len*sz T)).length=xs.length*sz T:=by
  rcases f.at_ with⟨r,P⟩|⟨_,_,F⟩;have:xs.length=0:=by omega
  rw[r,this];unfold cut;simp;have:s.len*sz T<=s.cap*sz T:=ZF _ f.le;rw[lh (by omega),m]
 have e:cut cs' (xs.length*sz T) (sz T)=vs:=by apply zap;intro q;by_cases k:q<sz T;rw[key q k,zbw (by omega),O];congr 1;omega;rw[yu,za k,List.getElem?_eq_none (by omega)]
 rw[e];simpa using I;rw[zaf.1 U];rcases l with q|q;exact .inl q.1;exact .inr q;rcases l with q|q;exact S (by rw[e];exact q.1);omega
end
end Go.X
end
section
namespace Go.X
open Go Go.X Go.Proofs Go.RowKit
section
variable {cs:Array Value} {o n q z b bv cv lo c:Nat} {l:List Value} {g g':zc} {t e ty:TypeId} {zv v:Value} {K:Value -> zc -> Prop} {M:Fr}
abbrev i0:Ty:=.pair (.int .i64) (.int .i64)
abbrev ie:Ty:=.pair (.int .i64) (.pair i0 (.pair i0 (.pair (.row (.int .i64)) (.row i0))))
structure Ax where
 ks:Sl
 kb:List Nat
 ps:Sl
 pb:List Nat
def gA:Ax:=⟨⟨Td,0,0⟩,[],⟨Td,0,0⟩,[]⟩
def gU(p:Nd×Ax):List Value:=[.int .i64 p.1.1,.int .i64 p.1.2.1.1,.int .i64 p.1.2.1.2,.int .i64 p.1.2.2.1.1,.int .i64 p.1.2.2.1.2,aK p.2.ks,aK p.2.ps]
structure CR (g:zc) (z:Nat) (els:List (List Value)) (sl:Sl) (b:Nat) (cs:Array Value):Prop where
 ro:RowO g sl b cs z
 ln:sl.len=els.length
 el:∀(i:Nat) (e:List Value),els[i]?=Tc e->(i+1)*z<=cs.size/\cut cs (i*z) z=e
theorem lc(b:l.length=n)(h:∀q,q<n->cs.toList[o+q]?=l[q]?):cut cs o n=l:=by apply zap;grind [yu]
theorem tw(h:cut cs o n=l)(b:q<n):cs.toList[o+q]?=l[q]?:=by rw[<-h,yu,zb b]
theorem CR.blk{els:List (List Value)}{sl:Sl}(H:CR g z els sl b cs)(c:els≠[]):sl.a=Tc ⟨b,0,Td⟩/\Blk g b cs:=by rcases H.ro.at_ with⟨h1,_⟩|⟨h1,e,_⟩;have:=H.ln;simp_all;simp_all
theorem CR.frame{els:List (List Value)}{sl:Sl}(H:CR g z els sl b cs)(f:els≠[]\/sl.cap≠0->g'[b]?=g[b]?):CR g' z els sl b cs:=by refine⟨⟨H.ro.le,?_⟩,H.ln,H.el⟩;rcases H.ro.at_ with h1|⟨h1,e,h⟩;omega;by_cases c:sl.cap=0;exact .inl ⟨by have:=H.ro.le;omega,c⟩;exact .inr ⟨h1,e.keep (f (.inr c)),h⟩
theorem CR.app{bytes z:Nat}(E:ElemT Tp t e zv z bytes)(s:bytes<=1000){els:List (List Value)}{sl:Sl}(H:CR g z els sl b cs){vs:List Value}(J:Blk g bv vs.toArray)(k:vs.length=z)(h1:∀u∈vs,u.oneCell'=Ta)(O:els.length<=1000000) (B:∀(s':Sl) (g':zc) (h:Nat) (cs':Array Value),CR g' z (els++[vs]) s' h cs'->g.size<=g'.size->((h=b/\¬(sl.len=0/\sl.cap=0))\/g.size<=h)->h<g'.size->(∀j,j<g.size->j≠h->g'[j]?=g[j]?)->K (.slice s'.a s'.len s'.cap) g'):
  xd Tp (YY #[t,t] ty #[.slice sl.a sl.len sl.cap,.slice (Tc ⟨bv,0,Td⟩) 1 cv]) g K:=by
 have f:=H.ln;have m:(sl.len+1)*bytes<=140737488355328:=by have:(sl.len+1)*bytes<=1000001*1000:=Nat.mul_le_mul (by omega) s;omega
 obtain⟨b0,c,p,D,l⟩:∃b0 c,RowO g sl b0 c z/\((b0=b/\¬(sl.len=0/\sl.cap=0))\/g.size<=b0)/\(∀(i:Nat) (e:List Value),els[i]?=Tc e->(i+1)*z<=c.size/\cut c (i*z) z=e):=by by_cases h0:sl.len=0/\sl.cap=0;have Q:els=[]:=zau.1 (by omega);exact⟨g.size,#[],⟨H.ro.le,.inl h0⟩,.inr (YM _),λi e hi=>by simp_all⟩;exact⟨b,cs,H.ro,.inl ⟨rfl,h0⟩,H.el⟩
 refine sq E p J k h1 m (by omega) λs' g' h cs' N=>B s' g' h cs' ⟨⟨by rw[N.len];exact N.cap,.inr ⟨N.a,N.blk,N.size⟩⟩,by rw[N.len,ZC,f];rfl,λi e hi=>?_⟩ N.grow ?_ N.blk.lt N.old;have y:i<els.length+1:=by have:=(ZH.1 hi).1;rw[ZC]at this;exact this
 have P:(i+1)*z<=(sl.len+1)*z:=ZF _ (by omega);have C:(sl.len+1)*z<=s'.cap*z:=ZF _ N.cap;have F:(i+1)*z=i*z+z:=zcn _ _;have I:(sl.len+1)*z=sl.len*z+z:=zcn _ _;have:=N.size;refine⟨by omega,?_⟩;have n:=N.cut;have key:∀q,i*z+q<(sl.len+1)*z->cs'.toList[i*z+q]?=(cut c 0 (sl.len*z)++vs)[i*z+q]?:=λq o=>by rw[<-n,yu,zb o,ZP]
 have x:(cut c 0 (sl.len*z)).length=sl.len*z:=by
  by_cases h0:els=[];have:sl.len=0:=by rw[f,h0];rfl
  rw[this,Nat.zero_mul];unfold cut;simp;have G:els.length-1<els.length:=by have:=ZX.2 h0;omega
  have:=(l (els.length-1) _ (YR G)).1;grind [lh]
 by_cases r:i<els.length;rw[zbn r]at hi;obtain⟨M,L⟩:=l i e hi;have A:(i+1)*z<=sl.len*z:=ZF _ (by omega);refine lc (by grind [lh]) λq o=>?_;rw[key q (by omega),zbn (by rw[x];omega),yu,zb (by omega),ZP];exact tw L o;have w:i=els.length:=by omega
 subst w;rw[zbw (YM _),Nat.sub_self]at hi;cases hi;refine lc k λq o=>?_;simp_all;rcases N.new with e|e;omega;exact .inr e
theorem CR.set{els:List (List Value)}{sl:Sl}(H:CR g z els sl b cs)(y:n<els.length)(u:q<z)(B:Blk g' b (cs.setIfInBounds (n*z+q) v)):CR g' z (els.modify n (·.set q v)) sl b (cs.setIfInBounds (n*z+q) v):=by
 have f:els≠[]:=λh=>by simp_all
 have h1:=(H.blk f).1;refine⟨⟨H.ro.le,?_⟩,by rw[List.length_modify];exact H.ln,λi e hi=>?_⟩;rcases H.ro.at_ with⟨p,_⟩|⟨p,_,w⟩;omega;simp_all;rw[za7]at hi;cases hx:els[i]? with
 |none=>simp_all
 |some x=>
  rw[hx]at hi;obtain⟨s,l⟩:=H.el i x hx;have t:(i+1)*z=i*z+z:=zcn _ _;have o:x.length=z:=by rw[<-l];exact lh (by omega)
  rw[zah];refine⟨s,?_⟩;have hi:(if n=i then x.set q v else x)=e:=by simpa using hi
  rw[<-hi];refine lc (by grind) λr m=>?_;rw[Array.toList_setIfInBounds,List.getElem?_set];by_cases c:n=i;subst c;rw[zb rfl,List.getElem?_set];by_cases k:q=r;grind;rw[za (by omega),za k];exact tw l m;rw[za c,za ?_];exact tw l m;intro A;rcases Nat.lt_or_gt_of_ne c with h|h;have:(n+1)*z<=i*z:=ZF _ h;grind;have:(i+1)*z<=n*z:=ZF _ h;omega
abbrev NA:=List (Nd×Ax)
def fN(p:Nd×Ax)(c:Nat):Prop:=c∈p.2.kb\/c∈p.2.pb
def gp(na:NA)(sl:Sl)(b c:Nat):Prop:=(sl.cap≠0/\c=b)\/∃p∈na,fN p c
structure NdI (lo:Nat) (g:zc) (M:Fr) (p:Nd×Ax):Prop where
 kk:ORow lo g M (.int .i64) p.1.2.2.2.1 p.2.ks p.2.kb
 pp:ORow lo g M i0 p.1.2.2.2.2 p.2.ps p.2.pb
 dd:∀c∈p.2.kb,c∉p.2.pb
structure NS (lo:Nat) (g:zc) (M:Fr) (na:NA) (sl:Sl) (b:Nat) (cs:Array Value):Prop where
 cr:CR g 7 (na.map gU) sl b cs
 lb:sl.cap≠0->lo<=b/\b<g.size/\M b=Td
 nd:∀p∈na,NdI lo g M p
 dj:∀(i j:Nat) (p p':Nd×Ax) (c:Nat),na[i]?=Tc p->na[j]?=Tc p'->fN p c->fN p' c->i=j
 nb:∀p∈na,¬fN p b
theorem NS.len{na:NA}{sl:Sl}(H:NS lo g M na sl b cs):sl.len=na.length:=by rw[H.cr.ln,ZA]
theorem NdI.own{p:Nd×Ax}(H:NdI lo g M p)(h:fN p c):lo<=c/\c<g.size/\M c=Td:=by rcases h with h|h;exact H.kk.own c h;exact H.pp.own c h
theorem NS.own{na:NA}{sl:Sl}(H:NS lo g M na sl b cs)(h:gp na sl b c):lo<=c/\c<g.size/\M c=Td:=by rcases h with⟨h1,rfl⟩|⟨p,e,h⟩;exact H.lb h1;exact(H.nd p e).own h
theorem NdI.frame{p:Nd×Ax}(H:NdI lo g M p)(f:∀c,fN p c->g'[c]?=g[c]?):NdI lo g' M p:= ⟨H.kk.frame (λc b=>f c (.inl b)) (Fr.le.refl _) λc b=>(H.kk.own c b).2.2,H.pp.frame (λc b=>f c (.inr b)) (Fr.le.refl _) λc b=>(H.pp.own c b).2.2,H.dd⟩
theorem NS.frame{na:NA}{sl:Sl}(H:NS lo g M na sl b cs)(l:g.size<=g'.size)(f:∀c,gp na sl b c->g'[c]?=g[c]?):NS lo g' M na sl b cs:=by refine⟨H.cr.frame λh=>f b (.inl ⟨?_,rfl⟩),λh=>by have:=H.lb h;grind,λp e=>(H.nd p e).frame λc i=>f c (.inr ⟨p,e,i⟩),H.dj,H.nb⟩;rcases h with h|h;have:=H.cr.ln;have k:=H.cr.ro.le;have:=ZX.2 h;omega;exact h
theorem NS.nil:NS lo g M [] ⟨Td,0,0⟩ b cs:= ⟨⟨⟨YM _,.inl ⟨rfl,rfl⟩⟩,rfl,λi e h=>(by cases h)⟩,λh=>absurd rfl h,λp f=>(by cases f),λi j p k c h=>(by cases h),λp f=>(by cases f)⟩
theorem D4(p:Nd×Ax):∀u∈gU p,u.oneCell'=Ta:=by intro u b;unfold gU aK at b;simp at b;rcases b with rfl|rfl|rfl|rfl|rfl|rfl|rfl <;> rfl
theorem NS.push{bytes:Nat}(E:ElemT Tp t e zv 7 bytes)(u:bytes<=1000)(ag:AgM M g)(L:lo<=g.size){na:NA}{sl:Sl}(H:NS lo g M na sl b cs){x:Nd}(s:x.2.2.2.1=[])(r:x.2.2.2.2=[])(N:Blk g bv (gU (x,gA)).toArray)(J:na.length<=1000000) (G:∀(s':Sl) (g':zc) (l:Nat) (cs':Array Value),NS lo g' M (na++[(x,gA)]) s' l cs'->g.size<=g'.size->(∀c,gp (na++[(x,gA)]) s' l c->gp na sl b c\/g.size<=c)->(∀j,j<g.size->¬gp na sl b j->g'[j]?=g[j]?)->K (.slice s'.a s'.len s'.cap) g'):
  xd Tp (YY #[t,t] ty #[.slice sl.a sl.len sl.cap,.slice (Tc ⟨bv,0,Td⟩) 1 cv]) g K:=by
 have B:∀c,g.size<=c->M c=Td:=by
  intro c f;cases e:M c with
  |none=>rfl
  |some cs=>have:=ag.lt e;omega
 refine CR.app E u H.cr N rfl (D4 _) (by simp_all) λs' g' l cs' C F o I z=>?_;have m:gp na sl b l\/g.size<=l:=by rcases o with⟨n,O⟩|n;exact .inl (.inl ⟨by have:=H.cr.ro.le;omega,n⟩);exact .inr n
 have w:∀p∈na,¬fN p l:=λp k f=>by rcases o with⟨n,_⟩|n;grind [nb];have:=((H.nd p k).own f).2.1;omega
 have y:∀c,¬fN (x,gA) c:=λc f=>by rcases f with f|f <;> exact absurd f (by simp[gA])
 have mem:∀p∈na++[(x,gA)],p∈na\/p=(x,gA):=λp k=>by simpa using k
 refine G s' g' l cs' ⟨by simp_all,λ_=>?_,λp k=>?_,?_,λp k=>?_⟩ F (λc f=>?_) (λj A J=>z j A λe=>?_);rcases m with h|h;have:=H.own h;simp_all;grind;rcases mem p k with k|rfl;exact(H.nd p k).frame λc f=>z c ((H.nd p k).own f).2.1 λe=>w p k (e ▸ f)
 refine⟨?_,?_,λc f=>by simp[gA]at f⟩;show ORow lo g' M (.int .i64) x.2.2.2.1 _ _;rw[s];exact .nil;show ORow lo g' M i0 x.2.2.2.2 _ _;rw[r];exact .nil;intro i j p P c hi A f D;have q:∀(i:Nat) (p:Nd×Ax),(na++[(x,gA)])[i]?=Tc p->fN p c->na[i]?=Tc p:=λi p hi f=>by rw[List.getElem?_append]at hi;grind
 grind [dj];grind;rcases f with⟨_,rfl⟩|⟨p,k,f⟩;exact m;rcases mem p k with k|rfl;exact .inl (.inr ⟨p,k,f⟩);simp_all;grind
theorem NS.upd{na:NA}{sl:Sl}(H:NS lo g M na sl b cs)(F:n<na.length){f:Nd×Ax->Nd×Ax}(z:q<7)(B:Blk g' b (cs.setIfInBounds (n*7+q) v))(L:g.size<=g'.size)(m:gU (f na[n])=(gU na[n]).set q v)(D:NdI lo g' M (f na[n]))(E:∀c,fN (f na[n]) c->fN na[n] c\/g.size<=c)(A:∀j,j<g.size->j≠b->¬fN na[n] j->g'[j]?=g[j]?):
  NS lo g' M (na.modify n f) sl b (cs.setIfInBounds (n*7+q) v)/\∀c,gp (na.modify n f) sl b c->gp na sl b c\/g.size<=c:=by
 have u:na[n]?=Tc na[n]:=YR F;have mem:∀p∈na.modify n f,p=f na[n]\/∃j,j≠n/\na[j]?=Tc p:=λp o=>by obtain⟨j,t⟩:=zce.1 o;grind
 have s:sl.cap≠0:=by have:=H.len;have:=H.cr.ro.le;omega
 have r:=H.lb s;refine⟨⟨?_,λh=>⟨r.1,by omega,r.2.2⟩,λp o=>?_,?_,λp o=>?_⟩,λc h=>?_⟩;have:=H.cr.set (n:=n) (q:=q) (v:=v) (by simp_all) z B;have e:(na.modify n f).map gU=(na.map gU).modify n (·.set q v):=by apply zap;intro i;rw[zai,za7,za7,zai];by_cases e:n=i;grind;simp[e]
 grind;rcases mem p o with rfl|⟨j,t,k⟩;exact D;have l:=zbd k;exact(H.nd p l).frame λc m=>A c ((H.nd p l).own m).2.1 (λe=>H.nb p l (e ▸ m)) λh=>t (H.dj j n p _ c k u m h)
 intro i j p I c hi t m x;have q:∀(i:Nat) (p:Nd×Ax),(na.modify n f)[i]?=Tc p->fN p c->∃w,na[i]?=Tc w/\((fN w c)\/(i=n/\g.size<=c)):=λi p hi m=>by grind
 obtain⟨w,G,a2⟩:=q i p hi m;obtain⟨C,b1,b2⟩:=q j I t x;rcases a2 with a2|⟨a2,J⟩;rcases b2 with b2|⟨b2,b3⟩;grind [dj];have:=((H.nd w (zbd G)).own a2).2.1;omega;rcases b2 with b2|⟨b2,b3⟩;have:=((H.nd C (zbd b1)).own b2).2.1;omega;omega;grind [nb];rcases h with⟨h1,y⟩|⟨p,o,h⟩;exact .inl (.inl ⟨h1,y⟩);rcases mem p o with rfl|⟨j,t,k⟩;rcases E c h with h|h;exact .inl (.inr ⟨_,zbd u,h⟩);exact .inr h;exact .inl (.inr ⟨p,zbd k,h⟩)
end
section
variable {t:Bs} {gl:Fr}
abbrev mX:Ty:=.pair .str (.row ie)
theorem slice_form{p:Sp}{R:Bt->Prop}(h:R (bl (w9 t p))): ((bif (bif (decide ((p.1:Int)<0))then Ta else(decide ((p.1:Int)>p.2)))then Ta else(decide ((p.2:Int)>((bl t).size:Int))))=Ta->R (⟨#[]⟩:Bt)) /\
  ((bif (bif (decide ((p.1:Int)<0))then Ta else(decide ((p.1:Int)>p.2)))then Ta else(decide ((p.2:Int)>((bl t).size:Int))))=Tb->(0<=(p.1:Int)/\(p.1:Int)<=p.2/\(p.2:Int)<=((bl t).size:Int))/\R ((bl t).extract (p.1:Int).toNat (p.2:Int).toNat)):=by
 rw[zh];have e:(bif (bif (decide ((p.1:Int)<0))then Ta else(decide ((p.1:Int)>p.2)))then Ta else(decide ((p.2:Int)>(t.length:Int))))=decide (p.1<0\/p.2<p.1\/(t.length:Int)<p.2):=by rw[ZR];simp only[Bool.cond_eq_ite,Bool.if_true_left,zbb,zA];omega
 rw[e];unfold w9 at h;refine⟨λb=>?_,λb=>?_⟩;rw[zb (zB b)]at h;exact h;have b:=zC b;rw[za b]at h;refine⟨by omega,?_⟩;rw[qp];exact h
theorem FN{nodes:List Nd}{p:Sp}{R:Bt->Prop}(h:R (bl (w9 t p))):PC Tp gl 149 [Arg.mk mX (bl t,nodes),Arg.mk i0 p] [.str] R:=by apply Kk;exact slice_form h
theorem WP(e:GL gl){k:Int}(f:t.length<=65536){R:Bt->Prop}(h:R (bl (iL k t))):PC Tp gl 148 [Arg.mk (.int .i64) k,Arg.mk .str (bl t)] [.str] R:=by apply JG;unfold iL at h;refine⟨λh1=>?_,λh1=>⟨λb=>?_,λb=>⟨λc=>?_,λc=>?_⟩⟩⟩;rw[zb (by simpa using h1)]at h;exact h;rw[za (by simpa using h1),zb (by simpa using b)]at h;exact od (by omega) (v6 e.pow (jc t (by omega)) h);rw[za (by simpa using h1),za (by simpa using b),zb (by simpa using c)]at h;exact xM e (by omega) h;rw[za (by simpa using h1),za (by simpa using b),za (by simpa using c)]at h;exact h
end
section
variable {h:zc} {l:Bs} {K:Value -> zc -> Prop} {lo:Nat}
theorem wX{c:UInt8}(b:K (.int .i64 (Lib.indexByte l c)) h):XC Tp 194 #[.string (bl l),.int .u8 (c.toNat:Int)] h K:=by refine XC.of_calls λB d=>(jz (bl l) (c.toNat:Int) (mk B d h)).mono ?_;rintro e w' ⟨rfl,rfl⟩;refine⟨_,rfl,rfl,rfl,rfl,?_⟩;have f:(bl l).data.toList=l:=jg l;rw[f,HF];exact b
def vQ(F:FuncId)(A C:Array Value)(lo:Nat)(p:UInt8->Bool)(h0:zc):Prop:=
 zx Tp F=Ta/\∀(c:UInt8) (h:zc) (K:Value->zc->Prop),Keep lo h0 h->(∀h',Keep lo h h'->K (.bool (p c)) h')->XC Tp F (A++#[.int .u8 (c.toNat:Int)]++C) h K
theorem yS{F:FuncId}{A C:Array Value}{p:UInt8->Bool}(H:vQ F A C lo p h)(y:l.length<=1152921504606846976)(s:∀h',Keep lo h h'->K (.int .i64 (Xw p l:Int)) h'):
  XC Tp 333 #[.string (bl l),.func (.func F) A C] h K:=by
 obtain⟨x,H⟩:=H;apply Tx;rw[zh];refine⟨λi g=>∃k:Nat,i=(k:Int)/\k<=l.length/\Keep lo h g/\∀j (c:j<k) (f:j<l.length),p l[j]=Ta,λi _=>l.length-i.toNat,⟨0,rfl,by omega,Keep.refl _ _,λj c=>by omega⟩,?_⟩;rintro i g ⟨k,rfl,w,m,n⟩;refine⟨λo=>?_,λo=>?_⟩;have b:k<l.length:=by have:=zB o;omega
 refine⟨⟨by omega,by omega⟩,x,?_⟩;rw[qq,YO,jM b];refine H _ _ _ m λh' t=>⟨_,rfl,λq=>?_,λq=>?_⟩;have e:Xw p l=k:=Ag w (λj c=>n j c (by omega)) (λ_=>by simpa using q);rw[<-e];exact s h' (m.trans t (YM _));rw[qd b (by omega)];refine⟨⟨k+1,rfl,by omega,m.trans t (YM _),λj c f=>?_⟩,by show l.length-((k+1:Nat):Int).toNat<l.length-((k:Nat):Int).toNat;omega⟩;rcases zad j k with r|r;exact n j r f;have:j=k:=by omega
 subst this;simpa using q;have b:k=l.length:=by have:=zC o;omega
 have e:Xw p l=l.length:=Ag (YM _) (λj c=>n j (by omega) c) (λu=>absurd u (by omega));rw[<-e];exact s g m
theorem Di{b:Nat}(n:Blk h b #[.string (bl l)])(i:b<lo):vQ 374 #[] #[.pointer (Tc ⟨b,0,Td⟩)] lo (Ys l) h:=by
 refine⟨by kernel_rfl,λc g K k m=>?_⟩;show XC Tp 374 #[.int .u8 (c.toNat:Int),.pointer (Tc ⟨b,0,Td⟩)] g K;apply Ny;have f:Blk g b #[.string (bl l)]:=by obtain⟨T,e⟩:=n;exact⟨T,by rw[k.get b i];exact e⟩
 refine⟨bl l,f.cell rfl,wX ⟨_,rfl,?_⟩⟩;have e:decide (Lib.indexByte l c>=0)=Ys l c:=by unfold Ys;rw[ZR,zA,zA];exact(Qw c l).2
 rw[e];exact m g (Keep.refl _ _)
theorem MP{gl M:Fr}(l:Fr.le gl M)(ag:AgM M h):vQ 335 #[] #[] h.size (Ys Qe) h:=by
 refine⟨by kernel_rfl,λc g K i o=>?_⟩;have e:(bif decide ((c.toNat:Int)>=97)then decide ((c.toNat:Int)<=122)else Tb)=Ys Qe c:=by
  have f:(zak 256).all (λn=>(bif decide ((n:Int)>=97)then decide ((n:Int)<=122)else Tb)==Ys Qe (zas n))=Ta:=by kernel_rfl
  have:=ZJ.1 f c.toNat (zbc.2 c.toNat_lt);rw[beq_iff_eq,UInt8.ofNat_toNat]at this;exact this
 refine(PC.px (gl:=gl) (args:=[Arg.mk (.int .u8) (c.toNat:Int)]) (rt:=[.bool]) (R:=λb=>b=Ys Qe c) ?_ l (ag.keep i) (zm (a:=Arg.mk (.int .u8) _) (Z2 _ _) zz)).go λv h' M' r L m k=>?_;apply ND;exact e;obtain rfl:=eP m;rw[k];exact o h' (L.keep.mono i.size)
end
section
variable {K:Value -> zc -> Prop} {h:zc} {a e:Int} {M:Fr} {v:Value}
theorem Rr:qj Tp 171=Ta:=by kernel_rfl
theorem Le:yb Tp 171=3:=by kernel_rfl
abbrev i9(k f t:Int):List Value:=[.int .i64 k,.int .i64 f,.int .i64 t]
theorem kR{g:zc}{b:Nat}{x y z p q r:Int}(B:Blk g b (i9 x y z).toArray){K:zc->Prop}(f:∀g',(∀j,j≠b->g'[j]?=g[j]?)->g'.size=g.size->Blk g' b (i9 p q r).toArray->K g'):
  XRunU Tp (YN 171 (.pointer (Tc ⟨b,0,Td⟩)) (.agg #[.int .i64 p,.int .i64 q,.int .i64 r])) g K:=by
 refine J5 (vs:=i9 p q r) Rr B rfl Le (YM 3) (λu c=>?_) λg' e i h=>f g' h i e;simp at c;rcases c with rfl|rfl|rfl <;> rfl
theorem nK{c:Nat}{a k t:Int}(n:Blk h c #[.int .i64 a])(m:∀h',Keep h.size h h'->K (.tuple #[.agg #[.int .i64 k,.int .i64 a,.int .i64 t],.int .i64 0]) h'):
  XC Tp 331 #[.int .i64 k,.int .i64 t,.pointer (Tc ⟨c,0,Td⟩)] h K:=by
 apply MX;intro h1;have e:Keep h.size h h1:=Keep.push _ _ (YM _);have f:Blk h1 h.size (i9 0 0 0).toArray:=Blk.new _ _ _;have b:Blk h1 c #[.int .i64 a]:=n.ofKeep e;refine⟨a,b.cell rfl,kR f λg' l p o=>⟨k,a,t,o.ld,m g' (e.trans ⟨by omega,λi hi=>l i (by omega)⟩ (YM _))⟩⟩
theorem Il{x:Int×Int×Int}(h:Yf M [.pair (.int .i64) (.pair (.int .i64) (.int .i64)),.int .i64] (x,e) v):v=.tuple #[.agg #[.int .i64 x.1,.int .i64 x.2.1,.int .i64 x.2.2],.int .i64 e]:=by obtain⟨vs,⟨o,rest,rfl,b,n,rfl,k⟩,rfl⟩:=h;rw[yj k];unfold RdV at b;simp only[fe,if_true]at b;obtain⟨cs,rfl,c1,c2,rfl,c,l,m,rfl,f,i⟩:=b;have c:c1=[.int .i64 x.1]:=c;have f:l=[.int .i64 x.2.1]:=f;have i:m=[.int .i64 x.2.2]:=i;subst c f i;rfl
theorem xK{gl M:Fr}(f:Fr.le gl M)(ag:AgM M h)(i:∀h',Keep h.size h h'->K (.tuple #[.agg #[.int .i64 0,.int .i64 a,.int .i64 a],.int .i64 e]) h'):
  XC Tp 332 #[.int .i64 a,.int .i64 e] h K:=by
 refine(PC.px (gl:=gl) (args:=[Arg.mk (.int .i64) a,Arg.mk (.int .i64) e]) (rt:=[.pair (.int .i64) (.pair (.int .i64) (.int .i64)),.int .i64]) (R:=λr=>r=((0,(a,a)),e)) ?_ f ag (zm (a:=Arg.mk (.int .i64) _) (Z2 _ _) (zm (a:=Arg.mk (.int .i64) _) (Z2 _ _) zz))).go λv h' M' r L b c=>?_;apply Lh;rfl;subst c;rw[Il b];exact i h' L.keep
theorem GN{l:Bs}(b:∀h',Keep h.size h h'->h'.size=h.size+1->Blk h' h.size #[.string (bl l)]->K (.func (.func 374) #[] #[.pointer (Tc ⟨h.size,0,Td⟩)]) h'):
  XC Tp 334 #[.string (bl l)] h K:=by
 apply SQ;intro h1;exact b h1 (Keep.push _ _ (YM _)) (ZI _) (Blk.new _ _ _)
def ke(s:Bs)(a:Nat):Value:=if(fc s a).2.2=0 then .tuple #[.agg #[.int .i64 (fc s a).1,.int .i64 (a:Int),.int .i64 ((fc s a).2.1:Int)],.int .i64 0]else .tuple #[.agg #[.int .i64 0,.int .i64 ((fc s a).2.1:Int),.int .i64 ((fc s a).2.1:Int)],.int .i64 (fc s a).2.2]
theorem Vz{x:Bool×Bt×Int}(h:Yf M [.pair .bool (.pair .str (.int .i64)),.int .i64] (x,e) v):v=.tuple #[.agg #[.bool x.1,.string x.2.1,.int .i64 x.2.2],.int .i64 e]:=by obtain⟨vs,⟨o,rest,rfl,b,n,rfl,k⟩,rfl⟩:=h;rw[yj k];unfold RdV at b;simp only[fe,if_true]at b;obtain⟨cs,rfl,c1,c2,rfl,c,l,m,rfl,f,i⟩:=b;have c:c1=[.bool x.1]:=c;have f:l=[.string x.2.1]:=f;have i:m=[.int .i64 x.2.2]:=i;subst c f i;rfl
end
section
variable {gl:Fr} {s:Bs} {a t:Nat} {k:Int}
theorem Do(l:Bs)(c:UInt8):decide (Lib.indexByte l c>=0)=Ys l c:=by unfold Ys;rw[ZR,zA,zA];exact(Qw c l).2
theorem TS:(zak 256).all (λn=>(bif ((n:Int)==45)then Ta else(bif decide ((n:Int)>=48)then decide ((n:Int)<=57)else Tb))==Ys nw (zas n))=Ta:=by kernel_rfl
theorem MM(c:UInt8):(bif ((c.toNat:Int)==45)then Ta else(bif decide ((c.toNat:Int)>=48)then decide ((c.toNat:Int)<=57)else Tb))=Ys nw c:=by have:=ZJ.1 TS c.toNat (zbc.2 c.toNat_lt);simp_all
theorem Mv{R:Int->Prop}(h:R (gP s)):PC Tp gl 336 [Arg.mk .str (bl s)] [.int .i64] R:=by apply Ls;have e:∀l:Bs,((bl s:Bt).toList==((⟨l.toArray⟩:Bt):Bt).toList)=decide (s=l):=λl=>gu s l;have b:=e [116,114,117,101];have f:=e [102,97,108,115,101];have c:=e [110,117,108,108];rw[b,f,c];unfold gP at h;grind
theorem Tj{c:UInt8}{t:Bs}(h:s.drop a=c::t):fc s a=
  if c∈iO then(2+Lib.indexByte iO c,a+1,0)
  else if c∈lr then(1,a+Xw (Ys lr) (s.drop a),0)
  else if c=34 then(if(j5 s a).2.2=0 then(8,(j5 s a).2.1,0)else(0,(j5 s a).2.1,(j5 s a).2.2))
  else if c∈nw then(if(zo ((s.drop a).take (Xw (Ys fS) (s.drop a)))).2=0 then(9,a+Xw (Ys fS) (s.drop a),0)else(0,a,(zo ((s.drop a).take (Xw (Ys fS) (s.drop a)))).2))
  else if gP ((s.drop a).take (Xw (Ys Qe) (s.drop a)))=0 then(0,a,2)else(gP ((s.drop a).take (Xw (Ys Qe) (s.drop a))),a+Xw (Ys Qe) (s.drop a),0):=by
 unfold fc;rw[h]
theorem pK(h:fc s a=(k,t,0)):ke s a=.tuple #[.agg #[.int .i64 k,.int .i64 (a:Int),.int .i64 (t:Int)],.int .i64 0]:=by unfold ke;rw[h];rfl
theorem pW{k e:Int}(h:fc s a=(k,t,e))(b:¬e=0):ke s a=.tuple #[.agg #[.int .i64 0,.int .i64 (t:Int),.int .i64 (t:Int)],.int .i64 e]:=by unfold ke;grind
set_option maxHeartbeats 2000000 in
theorem WW{gl M:Fr}(hg:GL gl)(O:Fr.le gl M){h:zc}(ag:AgM M h)(hs:s.length<=65536)(ha:a<s.length){K:Value->zc->Prop}(hK:∀h',Keep h.size h h'->K (ke s a) h'):
  XC Tp 274 #[.string (bl s),.int .i64 (a:Int)] h K:=by
 have Z:s.drop a=s[a]::s.drop (a+1):=ZM ha;have ai:s.drop a≠[]:=by rw[Z];exact List.cons_ne_nil _ _
 have aj:(s.drop a).length=s.length-a:=zab;have l:=Tj Z;generalize hc:s[a]=c at l Z;apply Ly;intro h1 q;have z1:h1.size=h.size+1:=ZI _;have z2:q.size=h1.size+1:=ZI _;have k1:Keep h.size h h1:=Keep.push _ _ (YM _);have k2:Keep h1.size h1 q:=Keep.push _ _ (YM _);have Y:Keep h.size h q:=k1.trans k2 (by omega);have A:Blk q h.size #[.int .i64 (a:Int)]:=(Blk.new h #[.int .i64 (a:Int)] 3).ofKeep k2;have B1:Blk q h1.size (i9 0 0 0).toArray:=Blk.new _ _ _;clear_value h1 q;have y:AgM M q:=ag.keep Y;have done:∀(k f t e:Int) (g:zc),Keep q.size q g->.tuple #[.agg #[.int .i64 k,.int .i64 f,.int .i64 t],.int .i64 e]=ke s a ->
   XRunU Tp (YN 171 (.pointer (Tc ⟨h1.size,0,Td⟩)) (.agg #[.int .i64 k,.int .i64 f,.int .i64 t])) g (λg'=>∃r1 r2 r3:Int,zd g' ⟨h1.size,0,Td⟩ 0 [.int .i64 r1,.int .i64 r2,.int .i64 r3]/\K (.tuple #[.agg #[.int .i64 r1,.int .i64 r2,.int .i64 r3],.int .i64 e]) g'):=by
  intro k f t e g C he;refine kR (B1.ofKeep C) λg' q1 q2 q3=>⟨k,f,t,q3.ld,?_⟩;rw[he];have D:=C.size;exact hK g' ((Y.trans C (by omega)).trans (c:=g') (m:=h.size) ⟨by omega,λi hi=>q1 i (by omega)⟩ (YM _))
 have ex:(bl s).extract (a:Int).toNat (s.length:Int).toNat=bl (s.drop a):=mE (n:=(a:Int)) rfl;have b0:zf (bl (s.drop a)) (0:Int).toNat=(c.toNat:Int):=by rw[qq,Z];rfl
 rw[zh];refine⟨(a:Int),A.cell rfl,?_⟩;rw[ex,zh,b0];refine⟨⟨by omega,by omega,by omega⟩,⟨by omega,by omega⟩,?_⟩;have bs:(⟨#[123,125,91,93,44,58]⟩:Bt)=bl iO:=rfl;have bb:(⟨#[32,9,10,13]⟩:Bt)=bl lr:=rfl;have bn:(⟨#[45,43,46,48,49,50,51,52,53,54,55,56,57,101,69]⟩:Bt)=bl fS:=rfl;rw[bs,bb,bn];have F:∀n:Nat,n<=s.length->YJ .i64 ((a:Int)+(n:Int))=((a+n:Nat):Int):=λn B=>by grind [cR]
 refine wX ⟨_,rfl,?_⟩;rw[Do];refine⟨λG=>?_,λG=>?_⟩
 ·have G:=zB G;rw[zb G]at l;have U:0<=Lib.indexByte iO c/\Lib.indexByte iO c<6:=by
   have:∀c∈iO,0<=Lib.indexByte iO c/\Lib.indexByte iO c<6:=by decide
   exact this c G
  refine⟨(a:Int),A.cell rfl,by kernel_rfl,?_⟩;refine nK A λg C=>⟨_,_,_,_,rfl,done _ _ _ _ g C ?_⟩;rw[pK l,cR (n:=2+Lib.indexByte iO c) (by omega),show YJ .i64 ((a:Int)+1)=((a+1:Nat):Int)from F 1 (by omega)]
 have G:=zC G;rw[za G]at l;refine wX ⟨_,rfl,?_⟩;rw[Do];have I:=λp=>Bu p (s.drop a);refine⟨λJ=>?_,λJ=>?_⟩
 ·have J:=zB J;rw[zb J]at l;refine⟨(a:Int),A.cell rfl,GN λg C zg Bg=>⟨_,rfl,C.get h.size (by omega),?_⟩⟩;refine yS (lo:=g.size) (Di Bg (by omega)) (by omega) λH b=>⟨_,rfl,?_,by kernel_rfl,?_⟩;rw[b.get h.size (by omega)];exact C.get h.size (by omega);have E:Keep q.size q H:=C.trans b (by omega);refine nK (A.ofKeep E) λg3 ab=>⟨_,_,_,_,rfl,done _ _ _ _ g3 (E.trans ab E.size) ?_⟩;have:=I (Ys lr);rw[pK l,F _ (by omega)]
 have J:=zC J;rw[za J]at l;rw[show((c.toNat:Int)==34)=decide (c=34)from ni (n:=34) (by omega),MM];refine⟨λD=>?_,λD=>⟨λP=>?_,λP=>?_⟩⟩
 ·have D:=zB D;rw[zb D]at l;refine⟨(a:Int),A.cell rfl,?_⟩;refine((Mk hg (t:=s) (a:=(a:Int)) (by omega) (R:=λr=>r=pG s (a:Int)) rfl).px O y (zm (a:=Arg.mk .str _) (rdStr _) (zm (a:=Arg.mk (.int .i64) _) (Z2 _ _) zz))).go λv g M' r L V U=>?_;have he:pG s (a:Int)=(((j5 s a).2.1:Int),(j5 s a).2.2):=by unfold pG;rw[za (by omega),YO]
  rw[he]at U;subst U;rw[HC V];refine⟨_,_,rfl,λo=>⟨by kernel_rfl,?_⟩,λo=>⟨by kernel_rfl,?_⟩⟩
  ·refine xK O (y.keep L.keep) λH b=>⟨_,_,_,_,rfl,done _ _ _ _ H (L.keep.trans b L.keep.size) ?_⟩;have B:¬(j5 s a).2.2=0:=by simpa using o
   rw[za B]at l;rw[pW l B]
  ·refine nK (A.ofKeep L.keep) λH b=>⟨_,_,_,_,rfl,done _ _ _ _ H (L.keep.trans b L.keep.size) ?_⟩;have B:(j5 s a).2.2=0:=by simpa using o
   rw[zb B]at l;rw[pK l]
 ·have D:=zC D;have P:=zB P;rw[za D,zb P]at l;refine⟨(a:Int),A.cell rfl,GN λg C zg Bg=>⟨_,rfl,C.get h.size (by omega),?_⟩⟩;have aa:=I (Ys fS);refine yS (lo:=g.size) (Di Bg (by omega)) (by omega) λH b=>⟨_,rfl,?_,?_⟩;rw[b.get h.size (by omega)];exact C.get h.size (by omega);have E:Keep q.size q H:=C.trans b (by omega);rw[F _ (by omega)];have S:(bl s).extract (a:Int).toNat ((a+Xw (Ys fS) (s.drop a):Nat):Int).toNat=bl ((s.drop a).take (Xw (Ys fS) (s.drop a))):=by rw[YO,YO,qp,show a+Xw (Ys fS) (s.drop a)-a=Xw (Ys fS) (s.drop a)by omega]
  refine⟨(a:Int),(A.ofKeep E).cell rfl,⟨by omega,by omega,by omega⟩,?_⟩;rw[S];refine((od (gl:=gl) (s:=(s.drop a).take (Xw (Ys fS) (s.drop a))) (by grind) (R:=λr=>r=(eT (zo ((s.drop a).take (Xw (Ys fS) (s.drop a)))).1,(zo ((s.drop a).take (Xw (Ys fS) (s.drop a)))).2)) rfl).px O (y.keep E) (zm (a:=Arg.mk .str _) (rdStr _) zz)).go λv g3 M' r L V U=>?_;subst U;rw[Vz V];generalize hq:(s.drop a).take (Xw (Ys fS) (s.drop a))=w at l;refine⟨_,_,_,_,rfl,?_⟩;intro N;obtain⟨af,_,ae⟩:=jo (g:=N) rfl;have k4:Keep q.size q N:=(E.trans L.keep E.size).trans af (by have:=L.keep.size;have:=E.size;omega);clear_value N;refine J5 (vs:=[.bool (eT (zo w).1).1,.string (eT (zo w).1).2.1,.int .i64 (eT (zo w).1).2.2]) (by kernel_rfl) ae rfl (by kernel_rfl) (YM 3) (λu hu=>?_) λah q1 q2 q3=>?_;simp at hu;rcases hu with rfl|rfl|rfl <;> rfl;have x:Keep q.size q ah:=k4.trans ⟨by omega,λi hi=>q3 i (by have:=L.keep.size;have:=E.size;omega)⟩ (YM _);refine⟨λo=>⟨(a:Int),(A.ofKeep x).cell rfl,by kernel_rfl,?_⟩,λo=>⟨by kernel_rfl,?_⟩⟩
  ·refine xK O (y.keep x) λQ z=>⟨_,_,_,_,rfl,done _ _ _ _ Q (x.trans z x.size) ?_⟩;have B:¬(zo w).2=0:=by simpa using o
   rw[za B]at l;rw[pW l B]
  ·refine nK (A.ofKeep x) λQ z=>⟨_,_,_,_,rfl,done _ _ _ _ Q (x.trans z x.size) ?_⟩;have B:(zo w).2=0:=by simpa using o
   rw[zb B]at l;rw[pK l]
 ·have D:=zC D;have P:=zC P;rw[za D,za P]at l;have aa:=I (Ys Qe);refine yS (lo:=q.size) (MP O y) (by omega) λH b=>⟨_,rfl,⟨by omega,by omega,by omega⟩,?_⟩;have S:(bl (s.drop a)).extract (0:Int).toNat ((Xw (Ys Qe) (s.drop a):Nat):Int).toNat=bl ((s.drop a).take (Xw (Ys Qe) (s.drop a))):=by rw[YO,qp];rfl
  rw[S];refine((Mv (gl:=gl) (s:=(s.drop a).take (Xw (Ys Qe) (s.drop a))) (R:=λr=>r=gP ((s.drop a).take (Xw (Ys Qe) (s.drop a)))) rfl).px O (y.keep b) (zm (a:=Arg.mk .str _) (rdStr _) zz)).go λv g3 M' r L V U=>?_;subst U;rw[i3 V];generalize hq:(s.drop a).take (Xw (Ys Qe) (s.drop a))=w at l;have x:Keep q.size q g3:=b.trans L.keep b.size;refine⟨_,rfl,λo=>⟨(a:Int),(A.ofKeep x).cell rfl,by kernel_rfl,?_⟩,λo=>⟨(a:Int),(A.ofKeep x).cell rfl,by kernel_rfl,?_⟩⟩
  ·refine nK (A.ofKeep x) λQ z=>⟨_,_,_,_,rfl,done _ _ _ _ Q (x.trans z x.size) ?_⟩;have B:¬gP w=0:=by simpa using o
   rw[za B]at l;rw[pK l,F _ (by omega)]
  ·refine xK O (y.keep x) λQ z=>⟨_,_,_,_,rfl,done _ _ _ _ Q (x.trans z x.size) ?_⟩;have B:gP w=0:=by simpa using o
   rw[zb B]at l;rw[pW l (by decide)]
end
end Go.X
end
section
namespace Go.X
open Go Go.Code
section
variable {ro:Option Nat} {n:Nat} {P:Program} {f:FuncId} {args:Array Value} {w:World} {o:Oper} {a:Act} {e:aR} {h:zc}
abbrev rf(ro:Option Nat):Fence:={ Fence.wide with round:=ro }
def hX(K:Act->World->Prop):Exit->Act->World->Prop
 |.normal,a,w=>K a w
 |_,_,_=>False
theorem Ym{K:Act->World->Prop}:¬LetsOut (hX K):=λ⟨_,_,h⟩=>h
theorem ON{R:Ending->World->Prop}(h:Calls P f args w R):CallsIn (rf ro) n P f args w R:=by have h1:CallsIn Fence.wide n P f args w R:=callsIn_wide.2 h;exact h1
theorem TL{row:String}{R:Value->World->Prop}(h:Rows P row args w R):RowsIn (rf ro) n P row args w R:=by have h1:RowsIn Fence.wide n P row args w R:=λc cs _=>let ⟨v,w',r,s⟩:=h c cs;⟨v,w',r,stepsIn_wide.2 s⟩;exact h1
def Zq(o:Oper):Bool:=match o.op with
 |.defer _=>Tb
 |_=>Ta
theorem La(h:Zq o=Ta):∀c,o.op≠.defer c:=by intro c e;unfold Zq at h;grind
theorem Cj(c:Zq o=Ta){K:Act->World->Prop}{Q:Exit->Act->World->Prop}(h:o.wp P a w K Q):o.wpIn (rf ro) n P a w K Q:=by
 refine⟨λ_ _=>trivial,?_⟩;rw[Oper.semAt_eq _ _ _ (La c)];unfold Oper.wp at h;generalize (execOp a.eval o).run P w=r at *;cases r with
 |ok x w'=>
  cases x with
  |enter f args=>exact⟨λb=>(by cases b),ON h⟩
  |row row args=>exact⟨λb=>(by cases b),TL h⟩
  |value v=>exact h
  |skip=>exact h
  |defer d=>exact h
  |_=>exact h.elim
 |halt x w'=>cases x <;> first|exact h|exact h.elim
theorem nZ{ro:Option Nat}{n:Nat}{P:Program}{ops:Array Oper}{K:Act->World->Prop}{Q:Exit->Act->World->Prop}: ∀(l i:List Oper) (a:Act) (w:World),l.all Zq=Ta->wpList P ops (hX K) l a w->(∀a w,K a w->wpListIn (rf ro) n P ops Q i a w)->wpListIn (rf ro) n P ops Q (l++i) a w
 |[],i,a,w,_,h,hK=>hK a w h
 |o::l,i,a,w,hd,h,hK=>by
  rw[zbo,ZE]at hd;rw[zaq];unfold wpListIn;unfold wpList at h;by_cases m:ZT o (yielded ops a.tmps)=Ta;rw[zb m]at h ⊢;rcases h with h|⟨_,h⟩;have h1:=Cj (ro:=ro) (n:=n) hd.1 h;have p:=Oper.wpIn_mono (λa w q=>nZ l i a w hd.2 q hK) h1;refine⟨p.1,?_⟩;have b:=p.2;revert b;generalize (o.semAt (rf ro).round a.eval).run P w=r;cases r with
  |ok x w'=>
   cases x with
   |enter f args=>exact λb=>⟨b.1,CallsIn.mono b.2 λe k c=>by cases e <;> first|exact c|exact c.elim|exact(Ym c).elim⟩
   |round l f tmps assign body=>exact λb=>⟨b.1,RoundIn.mono b.2 λe k c=>by cases e <;> first|exact c|exact c.elim|exact(Ym c).elim⟩
   |_=>exact λb=>b
  |halt x w'=>cases x <;> first|exact λb=>b|exact λb=>b.elim
  exact(Ym h).elim;rw[za m]at h ⊢;exact⟨λ_ _=>trivial,nZ l i _ _ hd.2 h hK⟩
theorem rQ{ro:Option Nat}{n:Nat}{P:Program}{md:Region.Mode}{ops:Array Oper}{K:Act->World->Prop}(c:∀(i:Nat) (o:Oper),ops[i]?=Tc o->Zq o=Ta):∀(fuel:Nat) (listed:Array Bool) (a:Act) (w:World),wpAny P md ops (hX K) fuel listed a w->wpAnyIn (rf ro) n P md ops (hX K) fuel listed a w
 |0,_,_,_,h=>h
 |fuel+1,listed,a,w,h=>by refine⟨h.1,λi hi=>?_⟩;have b:=h.2 i hi;unfold wpOp at b;unfold wpOpIn;split at b;rename_i e;rw[e];exact rQ c fuel _ _ _ b;rename_i o e;rw[e];simp only;by_cases f:ZT o (yielded ops a.tmps)=Ta;rw[zb f]at b ⊢;rcases b with b|⟨_,b⟩;exact Oper.wpIn_mono (λa w k=>rQ c fuel _ a w k) (Cj (c i o e) b);exact(Ym b).elim;rw[za f]at b ⊢;exact⟨λ_ _=>trivial,rQ c fuel _ _ _ b⟩
def Y5(D:List Deferred)(a:Act):Act:={ a with defers:=a.defers++D }
theorem AZ{D:List Deferred}{K:Act->World->Prop}{R:Act->World->Prop}(h:o.wp P a w K (hX R)):o.wp P (Y5 D a) w (λl i=>∃a0,l=Y5 D a0/\K a0 i) (hX λl i=>∃a0,l=Y5 D a0/\R a0 i):=by
 unfold Oper.wp at h ⊢;have b:(Y5 D a).eval=a.eval:=rfl;rw[b];have c:∀d v,(Y5 D a).put d v=Y5 D (a.put d v):=λd v=>by cases d <;> rfl
 generalize (execOp a.eval o).run P w=r at *;cases r with
 |ok x w'=>
  cases x with
  |enter f args=>exact Calls.mono h λe k b=>by cases e with
    |returned v=>grind
    |panicked ch=>exact b
    |outgrown=>exact(Ym b).elim
  |row row args=>exact Rows.mono h λv k b=>⟨_,c _ _,b⟩
  |value v=>exact⟨_,c _ _,h⟩
  |skip=>exact⟨_,c _ _,h⟩
  |defer d=>exact⟨(Act.put { a with defers:=d::a.defers } o.dst undef),(by cases o.dst <;> rfl),(show K (Act.put { a with defers:=d::a.defers } o.dst undef) w' from h)⟩
  |_=>exact h.elim
 |halt x w'=>cases x <;> first|exact h|exact h.elim
theorem qG{P:Program}{md:Region.Mode}{ops:Array Oper}{D:List Deferred}{K:Act->World->Prop}:∀(fuel:Nat) (listed:Array Bool) (a:Act) (w:World),wpAny P md ops (hX K) fuel listed a w->wpAny P md ops (hX λk c=>∃a0,k=Y5 D a0/\K a0 c) fuel listed (Y5 D a) w
 |0,_,a,_,h=>⟨h.1,a,rfl,h.2⟩
 |fuel+1,listed,a,w,h=>by
  refine⟨λn=>⟨a,rfl,h.1 n⟩,λi hi=>?_⟩;have b:=h.2 i hi;unfold wpOp at b ⊢;have m:yielded ops (Y5 D a).tmps=yielded ops a.tmps:=rfl;split at b;exact qG fuel _ _ _ b;rename_i o q;rw[m];by_cases f:ZT o (yielded ops a.tmps)=Ta;rw[zb f]at b ⊢;rcases b with b|⟨_,b⟩;exact .inl (Oper.wp_mono (λk c ⟨a0,e,p⟩=>by rw[e];exact qG fuel _ a0 c p) (AZ b));exact(Ym b).elim;rw[za f]at b ⊢;have l:(Y5 D a).put o.dst undef=Y5 D (a.put o.dst undef):=by cases o.dst <;> rfl
  rw[l];exact qG fuel _ _ _ b
def YX(P:Program)(l:Nat)(args:Array Value)(h:zc)(K:Value->zc->Prop):Prop:=
 ∀(m:Nat) (B:World) (d:Nat),∃fn tmps assign body,(Instr.yield l args).run P (mk B d h)=.ok (.round l fn tmps assign body) (mk B d h) /\
  RoundIn (rf Td) m P l fn tmps assign body (mk B d h) λe w'=>∃v b h',e=.returned v/\w'=mk B b h'/\K v h'
def RY(o:Oper):Bool:=match o.op with
 |.call c=>match c.callee with
  |.value x=>!(oq x)
  |_=>Tb
 |_=>Tb
def sy:List Oper->Option (List Oper×Oper×List Oper)
 |[]=>Td
 |o::l=>bif RY o then Tc ([],o,l)else match sy l with
  |some (pre,o',post)=>Tc (o::pre,o',post)
  |none=>Td
theorem U6{l:List Oper}:∀{pre b:List Oper} {o:Oper},sy l=Tc (pre,o,b)->l=pre++o::b:=by
 induction l with
 |nil=>intro pre b o h;cases h
 |cons x l c=>intro pre b o h;rw[sy]at h;grind
def sD(P:Program)(o:Oper)(e:aR)(h:zc)(K:Value->zc->Prop):Prop:=match o.op with
 |.call c=>match c.callee with
  |.value x=>match X0 e [] x with
   |some (.func (.yield l) A C)=>bif (bif (Nat.beq A.size 0)then(Nat.beq C.size 0)else Tb)then(bif known e [] c.args.toList then YX P l (c.args.map (gB e [])) h λv h'=>typed P o.type v λb=>K b h' else False)else False
   |_=>False
  |_=>False
 |_=>False
theorem US{n m:Nat}{K:Value->zc->Prop}(H:sD P o e h K)(i:Sat n e a)(B:World)(d:Nat){next:Act->World->Prop}{Q:Exit->Act->World->Prop}
  (D:∀v u h',K v h'->next (a.put o.dst v) (mk B u h')):o.wpIn (rf Td) m P a (mk B d h) next Q:=by
 unfold sD at H;split at H;rename_i c k;split at H;rename_i x f;split at H;rename_i l A C r;obtain⟨hA,p,H⟩:A=#[]/\C=#[]/\(bif known e [] c.args.toList then YX P l (c.args.map (gB e [])) h λv h'=>typed P o.type v λq=>K q h' else False):=by simp_all
 subst hA;subst p;cases hk:known e [] c.args.toList with
 |false=>simp_all
 |true=>
  rw[hk]at H;simp only[zF]at H;obtain⟨fn,tmps,assign,body,h1,t⟩:=H (m-1) B d;have z:a.eval x=.func (.yield l) #[] #[]:=yc i (c:=[]) trivial r;have b:c.args.map a.eval=c.args.map (gB e []):=by apply Array.map_congr_left;intro y s;exact Wd i (c:=[]) trivial hk y (by simpa using s)
  have w:(o.semAt (rf Td).round a.eval).run P (mk B d h)=.ok (.round l fn tmps assign body) (mk B d h):=by show(execOp a.eval o).run P (mk B d h)=_;simp only[execOp,k,resolve,f,z,zcw,Sem.run_bind,Sem.run_pure,Result.andThen_ok,invoke];rw[b];simpa using h1
  refine⟨λ_ _=>trivial,?_⟩;rw[w];refine⟨λf=>(by cases f),t.mono ?_⟩;grind [Zk]
 simp_all;simp_all;simp_all
def vA(P:Program)(n:Nat)(f:List (Nat×Nat))(id:Nat)(ops:Array Oper)(b:Bool)(K:aR->zc->Prop)(e:aR)(h:zc):Prop:=
 match sy ops.toList with
 |none=>regionF P n f id ops b K e h
 |some (pre,o,post)=>bif b then False else bif (pre.all Zq&&post.all Zq)then(match o.guard with
  |none=>bif wh n [] o.dst then wR P n ops (λc h1=>sD P o c h1 λv i=>wR P n ops K post (putO c o.dst [] v) i) pre e h else False
  |some _=>False)else False
theorem U1(U:P.follows .mixedOrders=Ta){I:List (Nat×Nat)}{id:Nat}{ops:Array Oper}{c:Bool}{K:aR->zc->Prop} (H:vA P n I id ops c K e h) (m:Nat) (B:World) (d:Nat) (F:Sat n e a) {Q:Exit->Act->World->Prop}
  (E:∀e' a' k h',Sat n e' a'->Same (j8 ops.toList) a a'->K e' h'->Q .normal a' (mk B k h')):(zc3 id ops c).wpIn (rf Td) m P Q a (mk B d h):=by
 unfold vA at H;split at H;exact wpIn_wide.2 (GX U H B d F E);rename_i pre o b y;have p:=U6 y;cases c with
 |true=>grind
 |false=>
  simp only[zG]at H;cases hnd:(pre.all Zq&&b.all Zq)with
  |false=>simp_all
  |true=>
   rw[hnd]at H;simp only[zF]at H;rw[ZE]at hnd;split at H;rename_i L;cases hd:wh n [] o.dst with
   |false=>simp_all
   |true=>
    rw[hd]at H;simp only[zF]at H;refine wpIn_region_list ?_;have q:∀x∈j8 pre,x∈j8 ops.toList:=λx O=>by rw[p,Zz];simp_all
    have r:∀i,o.dst=Tc i->i∈j8 ops.toList:=λi hi=>by rw[p,Zz];exact ZL _ (by simp[j8,hi])
    have A:∀x∈j8 b,x∈j8 ops.toList:=λx O=>by rw[p,Zz];refine ZL _ ?_;unfold j8;grind
    rw[p];refine nZ (K:=λf C=>∃l u h1,C=mk B u h1/\Sat n l f/\Same (j8 ops.toList) a f/\sD P o l h1 λv D=>wR P n ops K b (putO l o.dst [] v) D) pre (o::b) a _ hnd.1 (oF B pre e h a d H F λe' a' k h' t z M=>⟨e',k,h',rfl,t,z.mono q,M⟩) ?_;rintro f C ⟨l,u,h1,rfl,s1,N,t⟩;unfold wpListIn;have s:ZT o (yielded ops f.tmps)=Ta:=by simp[ZT,L]
    rw[zb s];refine US t s1 B u λv Y D z=>?_;have s2:Sat n (putO l o.dst [] v) (f.put o.dst v):=s1.putO hd (λ_=>rfl) (λV=>absurd trivial V);rw[<-ZY b];refine nZ (K:=λa' w'=>Q .normal a' w') b [] _ _ hnd.2 (oF B b _ _ _ _ z s2 λe' a' k h' J S G=>?_) λa w h=>h;exact E e' a' k h' J ((N.trans (Same.put f o.dst v r)).trans (S.mono A)) G
   simp_all
def WI(P:Program)(n:Nat)(pl:Plan):Code->Jn->aR->zc->Prop
 |.skip,Q,e,h=>Q .normal e h
 |.ret,Q,e,h=>Q .ret e h
 |.exit id,Q,e,h=>Q (.exit id) e h
 |.label _,Q,e,h=>Q .normal e h
 |.goto l,Q,e,h=>Q (.goto l) e h
 |.region id ops draw,Q,e,h=>vA P n pl.tails id ops draw (λe h=>Q .normal e h) e h
 |.seq x y,Q,e,h=>match nX pl.joins (jh y)with
  |none=>WI P n pl x (jL (λe h=>WI P n pl y Q e h) Q) e h
  |some J=>xX J (λe h=>WI P n pl y Q e h) (λK=>WI P n pl x (jL K Q) e h) (Yt (xu x) e)
 |.cond c x y,Q,e,h=>match X0 e [] c with
  |some (.bool b)=>(b=Ta->WI P n pl x Q e h)/\(b=Tb->WI P n pl y Q e h)
  |_=>False
 |.block id x,Q,e,h=>WI P n pl x (j4 id Q) e h
 |.loop x,Q,e,h=>match nX pl.loops (jh x)with
  |some J=>yE J (λf e h=>WI P n pl x (jL f Q) e h) (Yt (xu x) e) e h
  |none=>False
 |_,_,_,_=>False
theorem Ra(hm:P.follows .mixedOrders=Ta){pl:Plan}:∀(c:Code) (Q:Jn) (e:aR) (h:zc),WI P n pl c Q e h ->
  ∀(m:Nat) (B:World) (d:Nat) (a:Act),Sat n e a->c.wpIn (rf Td) m P (Dw n B (xu c) a Q) a (mk B d h):=by
 intro c;induction c with
 |skip=>exact λQ e h H m B d a f=>wpIn_skip ⟨e,d,h,rfl,f,Same.refl _ _,H⟩
 |ret=>exact λQ e h H m B d a f=>wpIn_ret ⟨e,d,h,rfl,f,Same.refl _ _,H⟩
 |exit id=>exact λQ e h H m B d a f=>wpIn_exit ⟨e,d,h,rfl,f,Same.refl _ _,H⟩
 |label l=>exact λQ e h H m B d a f=>wpIn_label ⟨e,d,h,rfl,f,Same.refl _ _,H⟩
 |goto l=>exact λQ e h H m B d a f=>wpIn_goto ⟨e,d,h,rfl,f,Same.refl _ _,H⟩
 |region id ops au=>exact λQ e h H m B d a f=>U1 hm H m B d f λe' a' d' h' r t q3=>⟨e',d',h',rfl,r,t,q3⟩
 |seq x y E G=>
  intro Q e h H m B d a f;simp only[WI]at H;have O:∀i∈xu x,i∈xu (x.seq y):=λi hi=>YZ _ hi;have Y:∀i∈xu y,i∈xu (x.seq y):=λi hi=>ZL _ hi;split at H;refine wpIn_seq (wpIn_mono (E _ _ _ H m B d a f) ?_);rintro ex k M ⟨D,s,h1,rfl,s1,A,r⟩;cases ex with
  |normal=>refine wpIn_mono (G _ _ _ r m B s k s1) ?_;rintro ex a2 w2 ⟨u,w,z,rfl,s2,C,t⟩;exact⟨u,w,z,rfl,s2,(A.mono O).trans (C.mono Y),t⟩
  |_=>exact⟨D,s,h1,rfl,s1,A.mono O,r⟩
  rename_i J hJ;have H':=H (kU (jr J) λvs=>λh=>WI P n pl y Q (Z7 J vs++Yt (xu x) e) h) (qV λvs h S=>S);refine wpIn_seq (wpIn_mono (E _ _ _ H' m B d a f) ?_);rintro ex k M ⟨D,s,h1,rfl,s1,A,r⟩;cases ex with
  |normal=>obtain⟨vs,q,V,S,hk⟩:=Wi r;have af:=pU S;subst af;have Z:Sat n (Z7 J vs++Yt (xu x) e) k:=Jm f s1.defers s1.size A (yg s1 V);refine wpIn_mono (G _ _ _ hk m B s k Z) ?_;rintro ex a2 w2 ⟨u,w,z,rfl,s2,C,t⟩;exact⟨u,w,z,rfl,s2,(A.mono O).trans (C.mono Y),t⟩
  |_=>exact⟨D,s,h1,rfl,s1,A.mono O,r⟩
 |cond c x y E G=>intro Q e h H m B d a f;simp only[WI]at H;have O:∀i∈xu x,i∈xu (zda c x y):=λi hi=>YZ _ hi;have Y:∀i∈xu y,i∈xu (zda c x y):=λi hi=>ZL _ hi;split at H;rename_i b L;refine wpIn_cond_split (yc f (c:=[]) trivial L) (λaa=>?_) (λaj=>?_);refine wpIn_mono (E _ _ _ (H.1 aa) m B d a f) ?_;rintro ex a2 w2 ⟨u,w,z,rfl,s2,C,t⟩;exact⟨u,w,z,rfl,s2,C.mono O,t⟩;refine wpIn_mono (G _ _ _ (H.2 aj) m B d a f) ?_;rintro ex a2 w2 ⟨u,w,z,rfl,s2,C,t⟩;exact⟨u,w,z,rfl,s2,C.mono Y,t⟩;exact H.elim
 |block id x ih=>
  intro Q e h H m B d a f;refine wpIn_block (wpIn_mono (ih _ _ _ H m B d a f) ?_);rintro ex k M ⟨D,s,h1,rfl,s1,A,r⟩;cases ex with
  |exit i=>simp only[j4]at r;simp only[Exit.inBlock];by_cases L:Nat.beq i id=Ta;rw[zb (YT L)];simp only[L,zF]at r;exact⟨D,s,h1,rfl,s1,A,r⟩;rw[za (λhe=>L (by rw[he];simp))];simp only[L,zG]at r;exact⟨D,s,h1,rfl,s1,A,r⟩
  |_=>exact⟨D,s,h1,rfl,s1,A,r⟩
 |loop x ih=>
  intro Q e h H m B d a f;simp only[WI]at H;split at H;rename_i J hJ;obtain⟨I,μ,h0,N⟩:=H;obtain⟨ai,p0,ap,ar,an⟩:=Wi h0;let F:=lq (jr J) I μ;let at_:Act->Option ((zc->Prop)×(zc->Nat)):=λk=>(X3 (λi=>Tc (qe k i)) J).bind λvs=>fO (jr J) vs F;refine wpIn_loop (λk M=>∃s h1 vs p,M=mk B s h1/\k.defers=[]/\k.tmps.size=n/\Same (xu x) a k/\X3 (λi=>Tc (qe k i)) J=Tc vs/\fO (jr J) vs F=Tc p/\p.1 h1) (λk M=>match at_ k with|some p=>p.2 M.heap|none=>0) ⟨d,h,ai,p0,rfl,f.defers,f.size,Same.refl _ _,yg f ap,ar,an⟩ ?_;rintro k M ⟨s,h1,vs,p,rfl,ab,am,o,V,hp,hI⟩;have s1:Sat n (Z7 J vs++Yt (xu x) e) k:=Jm f ab am o V;have L:=tI hp N h1 hI;refine wpIn_mono (ih _ _ _ L m B s k s1) ?_;rintro ex a2 w2 ⟨u,w,z,rfl,s2,C,t⟩;cases ex with
  |normal=>
   obtain⟨ah,q,U,S,ae,ak⟩:=Wi t;refine⟨⟨w,z,ah,q,rfl,s2.defers,s2.size,o.trans C,yg s2 U,S,ae⟩,?_⟩;have D:at_ k=Tc p:=by simp only[at_,V,zbl];exact hp
   have u:at_ a2=Tc q:=by simp only[at_,yg s2 U,zbl];exact S
   rw[D,u];exact ak
  |_=>exact⟨u,w,z,rfl,s2,o.trans C,t⟩
  exact H.elim
 |_=>exact λQ e h H=>H.elim
def jG(P:Program)(f:FuncId)(args:Array Value)(h:zc)(R:Value->zc->Prop):Prop:=
 ∀(m:Nat) (B:World) (d:Nat),CallsIn (rf Td) m P f args (mk B d h) λe w'=>∃v b h',e=.returned v/\w'=mk B b h'/\R v h'
theorem GU(u:P.follows .mixedOrders=Ta)(pl:Plan)(vs:List Value){fn:Func}{rs:List ResultVar}(r:P.funcs[f]?=Tc fn)(c:Yc fn=Ta)(p:fn.results.toList=rs)(t:fn.ntmps=n)
  (q:Nat.ble vs.length n=Ta) {R:Value->zc->Prop} (H:WI P n pl (codeOf fn) (rv P rs R) (iM 0 vs) h):jG P f vs.toArray h R:=by
 have l:fn.body=Tc (codeOf fn):=by unfold Yc at c;unfold codeOf;split at c;omega;cases c
 intro m B d;subst t;refine callsIn_of_wp r l trivial ?_ rfl;have y:vs.length<=fn.ntmps:=zaw q;have s:Sat fn.ntmps (iM 0 vs) { tmps:=vs.toArray++zar (fn.ntmps-vs.toArray.size) undef,defers:=[] }:=by
  refine⟨rfl,by simp;omega,?_⟩;refine sh vs.toArray _ vs 0 λj v x=>?_;have k:j<vs.length:=by rcases zad j vs.length with h|h;exact h;simp_all
  simp only[ZP,zay];rw[zbs (by simpa using k)];simp[x]
 refine wpIn_mono (Ra u (codeOf fn) _ _ _ H m B d _ s) ?_;rintro ex a w ⟨A,b,h1,rfl,s1,z,i⟩;cases ex with
 |normal=>obtain⟨v,o,e⟩:=Yb s1 p i;exact⟨s1.defers,v,e B b,v,b,h1,rfl,rfl,o⟩
 |ret=>obtain⟨v,o,e⟩:=Yb s1 p i;exact⟨s1.defers,v,e B b,v,b,h1,rfl,rfl,o⟩
 |_=>exact i.elim
end
end Go.X
end
section
namespace Go.X
section
variable {P:Program} {n m id:Nat} {ro:Option Nat} {e:aR} {h:zc} {a:Act}
theorem Ap{P:Program}{ops:Array Oper}{D:List Deferred}{K:Act->World->Prop}:∀(l:List Oper) (a:Act) (w:World),wpList P ops (hX K) l a w->wpList P ops (hX λf b=>∃a0,f=Y5 D a0/\K a0 b) l (Y5 D a) w
 |[],a,w,h=>⟨a,rfl,h⟩
 |o::l,a,w,h=>by
  unfold wpList at h ⊢;have m:yielded ops (Y5 D a).tmps=yielded ops a.tmps:=rfl;rw[m];by_cases c:ZT o (yielded ops a.tmps)=Ta;rw[zb c]at h ⊢;rcases h with h|⟨_,h⟩;exact .inl (Oper.wp_mono (λf b ⟨a0,e,k⟩=>by rw[e];exact Ap l a0 b k) (AZ h));exact(Ym h).elim;rw[za c]at h ⊢;have i:(Y5 D a).put o.dst undef=Y5 D (a.put o.dst undef):=by cases o.dst <;> rfl
  rw[i];exact Ap l _ w h
def nH(P:Program)(n:Nat)(ops:Array Oper)(b:Bool)(K:aR->zc->Prop)(e:aR)(h:zc):Prop:=
 bif ops.toList.all Zq then(bif b then lF P n 0 ops h (λe h=>K (clean e) h) e else wR P n ops K ops.toList e h)else False
theorem zO(u:P.follows .mixedOrders=Ta){D:List Deferred}{ops:Array Oper}{c:Bool}{K:aR->zc->Prop}(H:nH P n ops c K e h)(B:World)(d:Nat)(r:Sat n e a){Q:Exit->Act->World->Prop}
  (t:∀e' a' b h',Sat n e' a'->Same (j8 ops.toList) a a'->K e' h'->Q .normal (Y5 D a') (mk B b h')):(zc3 id ops c).wpIn (rf ro) m P Q (Y5 D a) (mk B d h):=by
 unfold nH at H;cases hd:ops.toList.all Zq with
 |false=>simp_all
 |true=>
  rw[hd,zF]at H;have fin:∀k f,(∃a0,k=Y5 D a0/\∃e' b h',f=mk B b h'/\Sat n e' a0/\Same (j8 ops.toList) a a0/\K e' h')->Q .normal k f:=by rintro k f ⟨a0,rfl,e',b,h',rfl,l,q,p⟩;exact t e' a0 b h' l q p
  cases c with
  |false=>refine wpIn_region_list ?_;rw[<-ZY ops.toList];exact nZ _ [] _ _ hd (Ap (K:=λa0 f=>∃e' b h',f=mk B b h'/\Sat n e' a0/\Same (j8 ops.toList) a a0/\K e' h') _ _ _ (oF B _ _ _ _ _ H r λe' a' b h' l q p=>⟨e',b,h',rfl,l,q,p⟩)) fin
  |true=>
   rw[zF]at H;have h0:wpAny P .any ops (hX λa0 f=>∃e' b h',f=mk B b h'/\Sat n e' a0/\Same (j8 ops.toList) a a0/\K e' h') ops.size (zar ops.size Tb) a (mk B (d+1) h):= Ej B rfl H r (λe' a' b h' l q p=>⟨clean e',b,h',rfl,l.clean,q,p⟩) (d+1);refine wpIn_mono (wpIn_region_any (Q:=hX λk f=>∃a0,k=Y5 D a0/\∃e' b h',f=mk B b h'/\Sat n e' a0/\Same (j8 ops.toList) a a0/\K e' h') u (rQ (λi o w=>?_) _ _ _ _ (qG _ _ _ _ h0))) λx a' w' s=>?_;grind;cases x with
   |normal=>exact fin _ _ s
   |_=>exact s.elim
def WG(P:Program)(n:Nat):Code->Jn->aR->zc->Prop
 |.skip,Q,e,h=>Q .normal e h
 |.ret,Q,e,h=>Q .ret e h
 |.exit id,Q,e,h=>Q (.exit id) e h
 |.region _ ops draw,Q,e,h=>nH P n ops draw (λe h=>Q .normal e h) e h
 |.seq x y,Q,e,h=>WG P n x (jL (λe h=>WG P n y Q e h) Q) e h
 |.cond c x y,Q,e,h=>match X0 e [] c with
  |some (.bool b)=>(b=Ta->WG P n x Q e h)/\(b=Tb->WG P n y Q e h)
  |_=>False
 |.block id x,Q,e,h=>WG P n x (j4 id Q) e h
 |_,_,_,_=>False
def yQ(n:Nat)(B:World)(D:List Deferred)(Q:Jn):Exit->Act->World->Prop:=
 λx a w=>∃e d h a0,a=Y5 D a0/\w=mk B d h/\Sat n e a0/\Q x e h
theorem QX{B:World}{D:List Deferred}{Q:Jn}:∀ex a w,yQ n B D (j4 id Q) ex a w->Exit.inBlock id (yQ n B D Q) ex a w:=by
 rintro ex a1 w1 ⟨e,f,h1,a0,rfl,rfl,s1,b⟩;cases ex with
 |exit i=>simp only[j4]at b;simp only[Exit.inBlock];by_cases c:Nat.beq i id=Ta;rw[zb (YT c)];simp only[c,zF]at b;exact⟨e,f,h1,a0,rfl,rfl,s1,b⟩;rw[za (λh=>c (by rw[h];simp))];simp only[c,zG]at b;exact⟨e,f,h1,a0,rfl,rfl,s1,b⟩
 |_=>exact⟨e,f,h1,a0,rfl,rfl,s1,b⟩
theorem Fs(u:P.follows .mixedOrders=Ta){D:List Deferred}:∀(c:Code) (Q:Jn) (e:aR) (h:zc),WG P n c Q e h ->
  ∀(B:World) (d:Nat) (a:Act),Sat n e a->c.wpIn (rf ro) m P (yQ n B D Q) (Y5 D a) (mk B d h):=by
 intro c;induction c with
 |skip=>exact λQ e h H B d a f=>wpIn_skip ⟨e,d,h,a,rfl,rfl,f,H⟩
 |ret=>exact λQ e h H B d a f=>wpIn_ret ⟨e,d,h,a,rfl,rfl,f,H⟩
 |exit id=>exact λQ e h H B d a f=>wpIn_exit ⟨e,d,h,a,rfl,rfl,f,H⟩
 |region id ops r=>exact λQ e h H B d a f=>zO u H B d f λe' a' t h' l _ C=>⟨e',t,h',a',rfl,rfl,l,C⟩
 |seq x y k i=>
  intro Q e h H B d a f;refine wpIn_seq (wpIn_mono (k _ _ _ H B d a f) ?_);rintro ex a1 w1 ⟨w,q,h1,a0,rfl,rfl,s1,l⟩;cases ex with
  |normal=>exact i _ _ _ l B q a0 s1
  |_=>exact⟨w,q,h1,a0,rfl,rfl,s1,l⟩
 |cond c x y k i=>intro Q e h H B d a f;simp only[WG]at H;split at H;rename_i b s;have A:(Y5 D a).eval c=.bool b:=yc f (c:=[]) trivial s;exact wpIn_cond_split A (λp=>k _ _ _ (H.1 p) B d a f) (λo=>i _ _ _ (H.2 o) B d a f);exact H.elim
 |block id x z=>intro Q e h H B d a f;exact wpIn_block (wpIn_mono (z _ _ _ H B d a f) QX)
 |_=>exact λQ e h H=>H.elim
def WL(P:Program)(n:Nat)(pl:List (Nat×fD)):Code->Jn->aR->zc->Prop
 |.skip,Q,e,h=>Q .normal e h
 |.ret,Q,e,h=>Q .ret e h
 |.exit id,Q,e,h=>Q (.exit id) e h
 |.region _ ops draw,Q,e,h=>nH P n ops draw (λe h=>Q .normal e h) e h
 |.seq x y,Q,e,h=>WL P n pl x (jL (λe h=>WL P n pl y Q e h) Q) e h
 |.cond c x y,Q,e,h=>match X0 e [] c with
  |some (.bool b)=>(b=Ta->WL P n pl x Q e h)/\(b=Tb->WL P n pl y Q e h)
  |_=>False
 |.block id x,Q,e,h=>WL P n pl x (j4 id Q) e h
 |.loop x,Q,e,h=>match nX pl (jh x)with
  |some J=>yE J (λf e h=>WL P n pl x (jL f Q) e h) (Yt (xu x) e) e h
  |none=>False
 |_,_,_,_=>False
def WU(n:Nat)(B:World)(D:List Deferred)(ms:List Nat)(b:Act)(Q:Jn):Exit->Act->World->Prop:=
 λx a w=>∃e d h a0,a=Y5 D a0/\w=mk B d h/\Sat n e a0/\Same ms b a0/\Q x e h
theorem Im(hm:P.follows .mixedOrders=Ta){D:List Deferred}{pl:List (Nat×fD)}:∀(c:Code) (Q:Jn) (e:aR) (h:zc),WL P n pl c Q e h ->
  ∀(B:World) (d:Nat) (a:Act),Sat n e a->c.wpIn (rf ro) m P (WU n B D (xu c) a Q) (Y5 D a) (mk B d h):=by
 intro c;induction c with
 |skip=>exact λQ e h H B d a f=>wpIn_skip ⟨e,d,h,a,rfl,rfl,f,Same.refl _ _,H⟩
 |ret=>exact λQ e h H B d a f=>wpIn_ret ⟨e,d,h,a,rfl,rfl,f,Same.refl _ _,H⟩
 |exit id=>exact λQ e h H B d a f=>wpIn_exit ⟨e,d,h,a,rfl,rfl,f,Same.refl _ _,H⟩
 |region id ops am=>exact λQ e h H B d a f=>zO hm H B d f λe' a' d' h' l r q3=>⟨e',d',h',a',rfl,rfl,l,r,q3⟩
 |seq x y G L=>
  intro Q e h H B d a f;have U:∀i∈xu x,i∈xu (.seq x y):=λi hi=>ZG.2 (.inl hi);have hy:∀i∈xu y,i∈xu (.seq x y):=λi hi=>ZG.2 (.inr hi);refine wpIn_seq (wpIn_mono (G _ _ _ H B d a f) ?_);rintro ex o O ⟨E,s,h1,a0,rfl,rfl,s1,N,l⟩;cases ex with
  |normal=>refine wpIn_mono (L _ _ _ l B s a0 s1) ?_;rintro ex a2 w2 ⟨t,w,z,u,rfl,rfl,s2,C,r⟩;exact⟨t,w,z,u,rfl,rfl,s2,(N.mono U).trans (C.mono hy),r⟩
  |_=>exact⟨E,s,h1,a0,rfl,rfl,s1,N.mono U,l⟩
 |cond c x y G L=>intro Q e h H B d a f;have U:∀i∈xu x,i∈xu (.cond c x y):=λi hi=>ZG.2 (.inl hi);have hy:∀i∈xu y,i∈xu (.cond c x y):=λi hi=>ZG.2 (.inr hi);simp only[WL]at H;split at H;rename_i b A;have hc:(Y5 D a).eval c=.bool b:=yc f (c:=[]) trivial A;exact wpIn_cond_split hc (λV=>wpIn_mono (G _ _ _ (H.1 V) B d a f) λex a2 w2 ⟨t,w,z,u,r1,r2,s2,C,r⟩=>⟨t,w,z,u,r1,r2,s2,C.mono U,r⟩) (λae=>wpIn_mono (L _ _ _ (H.2 ae) B d a f) λex a2 w2 ⟨t,w,z,u,r1,r2,s2,C,r⟩=>⟨t,w,z,u,r1,r2,s2,C.mono hy,r⟩);exact H.elim
 |block id x ih=>
  intro Q e h H B d a f;refine wpIn_block (wpIn_mono (ih _ _ _ H B d a f) ?_);rintro ex o O ⟨E,s,h1,a0,rfl,rfl,s1,N,l⟩;cases ex with
  |exit i=>simp only[j4]at l;simp only[Exit.inBlock];by_cases A:Nat.beq i id=Ta;rw[zb (YT A)];simp only[A,zF]at l;exact⟨E,s,h1,a0,rfl,rfl,s1,N,l⟩;rw[za (λhe=>A (by rw[he];simp))];simp only[A,zG]at l;exact⟨E,s,h1,a0,rfl,rfl,s1,N,l⟩
  |_=>exact⟨E,s,h1,a0,rfl,rfl,s1,N,l⟩
 |loop x ih=>
  intro Q e h H B d a f;simp only[WL]at H;split at H;rename_i J hJ;obtain⟨I,μ,h0,M⟩:=H;obtain⟨ab,p0,aj,ak,ai⟩:=Wi h0;let F:=lq (jr J) I μ;let at_:Act->Option ((zc->Prop)×(zc->Nat)):=λo=>(X3 (λi=>Tc (qe o i)) J).bind λvs=>fO (jr J) vs F;refine wpIn_loop (λo O=>∃s h1 vs p a0,o=Y5 D a0/\O=mk B s h1/\a0.defers=[]/\a0.tmps.size=n/\Same (xu x) a a0/\X3 (λi=>Tc (qe a0 i)) J=Tc vs/\fO (jr J) vs F=Tc p/\p.1 h1) (λo O=>match at_ o with|some p=>p.2 O.heap|none=>0) ⟨d,h,ab,p0,a,rfl,rfl,f.defers,f.size,Same.refl _ _,yg f aj,ak,ai⟩ ?_;rintro o O ⟨s,h1,vs,p,a0,rfl,rfl,Y,ah,k,hv,hp,hI⟩;have s1:Sat n (Z7 J vs++Yt (xu x) e) a0:=Jm f Y ah k hv;have A:=tI hp M h1 hI;refine wpIn_mono (ih _ _ _ A B s a0 s1) ?_;rintro ex a2 w2 ⟨t,w,z,u,rfl,rfl,s2,C,r⟩;have va:∀(o:Act),(λi=>Tc (qe (Y5 D o) i))=λi=>Tc (qe o i):=λ_=>rfl;cases ex with
  |normal=>
   obtain⟨aa,q,S,hq,Z,af⟩:=Wi r;refine⟨⟨w,z,aa,q,u,rfl,rfl,s2.defers,s2.size,k.trans C,yg s2 S,hq,Z⟩,?_⟩;have E:at_ (Y5 D a0)=Tc p:=by simp only[at_,va,hv,zbl];exact hp
   have t:at_ (Y5 D u)=Tc q:=by simp only[at_,va,yg s2 S,zbl];exact hq
   rw[E,t];exact af
  |_=>exact⟨t,w,z,u,rfl,rfl,s2,k.trans C,r⟩
  exact H.elim
 |_=>exact λQ e h H=>H.elim
abbrev fW:=LoopState->Option Code->Loop
def Ix(rec:fW)(l:Nat)(K:Value->zc->Prop):Jn
 |.normal,_,h=>h[l]?=Tc (.loop (rec .busy Td))/\K (.bool Ta) (h.setIfInBounds l (.loop (rec .ready Td)))
 |.ret,_,h=>h[l]?=Tc (.loop (rec .busy Td))/\K (.bool Tb) (h.setIfInBounds l (.loop (rec .done (Tc .ret))))
 |_,_,_=>False
def iF(P:Program)(n:Nat)(b bd:Code)(rec:fW)(l:Nat)(K:Value->zc->Prop)(e:aR)(h:zc):Prop:=
 WG P n b (λx c h1=>match x with
  |.normal=>h1[l]?=Tc (.loop (rec .ready Td))/\WG P n bd (Ix rec l K) c (h1.setIfInBounds l (.loop (rec .busy Td)))
  |_=>False) e h
theorem Fx(a:Act):Y5 [] a=a:=by unfold Y5;simp
def v4:aR->List Nat->List Value->aR
 |e,p::ps,v::vs=>v4 (putO e (Tc p) [] v) ps vs
 |e,_,_=>e
def pE:Array Value->List Nat->List Value->Array Value
 |t,p::ps,v::vs=>pE (t.setIfInBounds p v) ps vs
 |t,_,_=>t
theorem Bi:∀(ps:List Nat) (vs:List Value) (t:Array Value),(ps.zip vs).foldl (λ(t:Array Value) (x:Tmp×Value)=>t.setIfInBounds x.1 x.2) t=pE t ps vs
 |[],_,_=>rfl
 |_::_,[],_=>rfl
 |p::ps,v::vs,t=>Bi ps vs (t.setIfInBounds p v)
theorem DZ{n:Nat}:∀(ps:List Nat) (vs:List Value) (e:aR) (a:Act),(∀p∈ps,wh n [] (Tc p)=Ta)->Sat n e a->Sat n (v4 e ps vs) { tmps:=pE a.tmps ps vs,defers:=[] }
 |[],vs,e,a,_,hs=>by have:=hs.defers;cases a;simp only at this;subst this;exact hs
 |p::ps,[],e,a,_,hs=>by have:=hs.defers;cases a;simp only at this;subst this;exact hs
 |p::ps,v::vs,e,a,h,hs=>DZ ps vs _ (a.put (Tc p) v) (λq b=>h q (YU _ b)) (hs.putO (h p ZB) (λ_=>rfl) (λc=>absurd trivial c))
theorem Bb(G:P.follows .mixedOrders=Ta){n l:Nat}{ps:List Nat}{f bd:Code}{fn:FuncId}{D:Nat}(z:∀p∈ps,wh n [] (Tc p)=Ta) {rec:fW} (b:rec=λst O=>{ state:=st,pending:=O,fn:=fn,tmps:=a.tmps,params:=ps.toArray,assign:=f,body:=bd,defers:=D }) {vs:List Value} (Z:ps.length=vs.length) (S:Sat n e a) (L:h[l]?=Tc (.loop (rec .ready Td))) {K:Value->zc->Prop}
  (H:iF P n f bd rec l K (v4 e ps vs) h):YX P l vs.toArray h K:=by
 intro m B d;have y:(mk B d h).heap[l]?=Tc (.loop (rec .ready Td)):=L;have E:=run_yield (P:=P) (w:=mk B d h) (args:=vs.toArray) y (by simp_all);refine⟨_,_,_,_,E,?_⟩;rw[b]at E ⊢;have s2:=DZ ps vs e a z S;have key:RoundIn (rf Td) m P l fn (pE a.tmps ps vs) f bd (mk B d h) (λe w'=>∃v M h',e=.returned v/\w'=mk B M h'/\K v h'):=by
  refine roundIn_of_wpIn (F:=rf Td) trivial ?_;have Q:(rf Td).inRound l=rf (Tc l):=rfl;rw[Q,<-Fx { tmps:=pE a.tmps ps vs,defers:=[] }];refine wpIn_mono (Fs G f _ _ _ H B d _ s2) ?_;rintro ex a1 w1 ⟨Y,C,h1,a0,rfl,rfl,s1,A⟩;cases ex with
  |normal=>
   obtain⟨J,N⟩:=A;have s:(mk B C h1).heap[l]?=Tc (.loop (rec .ready Td)):=J;have I:=run_beginRound (P:=P) s (by rw[b]);refine⟨_,I,?_⟩;have k:({ rec .ready Td with state:=.busy }:Loop)=rec .busy Td:=by rw[b]
   rw[k];refine wpIn_mono (Fs G bd _ _ _ N B C a0 s1) ?_;rintro ex a2 w2 ⟨U,q,r,a3,rfl,rfl,V,t⟩;cases ex with
   |normal=>
    obtain⟨x,u⟩:=t;have i:(mk B q r).heap[l]?=Tc (.loop (rec .busy Td)):=x;have c:=run_endRound (P:=P) Td i;refine⟨_,_,c,.bool Ta,q,r.setIfInBounds l (.loop (rec .ready Td)),rfl,?_,u⟩;have o:({ rec .busy Td with state:=if(Td:Option Code).isNone then .ready else .done,pending:=Td }:Loop)=rec .ready Td:=by rw[b];rfl
    rw[o];rfl
   |ret=>
    obtain⟨x,u⟩:=t;have i:(mk B q r).heap[l]?=Tc (.loop (rec .busy Td)):=x;have c:=run_endRound (P:=P) (Tc .ret) i;refine⟨_,_,c,.bool Tb,q,r.setIfInBounds l (.loop (rec .done (Tc .ret))),rfl,?_,u⟩;have o:({ rec .busy Td with state:=if(Tc Code.ret:Option Code).isNone then .ready else .done,pending:=Tc .ret }:Loop)=rec .done (Tc .ret):=by rw[b];rfl
    rw[o];rfl
   |_=>exact t.elim
  |_=>exact A.elim
 simp_all[Bi]
def iN:Code->Code
 |.rangeFunc _ _ x _=>x
 |.seq x y=>match iN x with
  |.skip=>iN y
  |c=>c
 |.block _ x=>iN x
 |_=>.skip
def iB:Code->Code
 |.rangeFunc _ _ _ y=>y
 |.seq x y=>match iB x with
  |.skip=>iB y
  |c=>c
 |.block _ x=>iB x
 |_=>.skip
def marks(c:List Nat):List Deferred:=c.map λb=>{ target:=.collected b,args:=#[] }
abbrev iE:=Exit->List Nat->aR->zc->Prop
def PO(K:List Nat->aR->zc->Prop)(Q:iE):iE
 |.normal,ds,e,h=>K ds e h
 |x,ds,e,h=>Q x ds e h
def G7(id:Nat)(Q:iE):iE
 |.exit i,ds,e,h=>bif Nat.beq i id then Q .normal ds e h else Q (.exit i) ds e h
 |x,ds,e,h=>Q x ds e h
def oe(rec:fW)(l:Nat)(N R:zc->Prop)(h:zc):Prop:=
 (h[l]?=Tc (.loop (rec .ready Td))/\N (h.setIfInBounds l (.loop (rec .exhausted Td))))\/(h[l]?=Tc (.loop (rec .done (Tc .ret)))/\R (h.setIfInBounds l (.loop (rec .exhausted (Tc .ret)))))
def Cn(P:Program)(n:Nat)(i k:Nat)(f bd:Code)(v:Value)(Q:iE)(o:List Nat)(e:aR)(h:zc):Prop:=
 bif wh n [] (Tc i)&&wh n [] (Tc k)then(∃g lb,v=.func (.func g) #[] lb/\zx P g=Ta/\∀rec:fW,
  (∀{m l:Value} {b:zc} {K:Value->zc->Prop},b[h.size+1]?=Tc (.loop (rec .ready Td))->iF P n f bd rec (h.size+1) K (putO (putO e (Tc i) [] m) (Tc k) [] l) b->YX P (h.size+1) #[m,l] b K) ->
  jG P g (#[.func (.yield (h.size+1)) #[] #[]]++lb) ((h.push (.deferred (Tc []))).push (.loop (rec .ready Td))) λ_ p=>oe rec (h.size+1) (λc=>Q .normal (h.size::o) e c) (λc=>Q .ret (h.size::o) e c) p)else False
def AY(P:Program)(n:Nat)(i:Nat)(f bd:Code)(v:Value)(Q:iE)(l:List Nat)(e:aR)(h:zc):Prop:=
 bif wh n [] (Tc i)then(∃g lb,v=.func (.func g) #[] lb/\zx P g=Ta/\∀rec:fW,
  (∀{k:Value} {b:zc} {K:Value->zc->Prop},b[h.size+1]?=Tc (.loop (rec .ready Td))->iF P n f bd rec (h.size+1) K (putO e (Tc i) [] k) b->YX P (h.size+1) #[k] b K) ->
  jG P g (#[.func (.yield (h.size+1)) #[] #[]]++lb) ((h.push (.deferred (Tc []))).push (.loop (rec .ready Td))) λ_ m=>oe rec (h.size+1) (λc=>Q .normal (h.size::l) e c) (λc=>Q .ret (h.size::l) e c) m)else False
def lW(e:aR):Nat->Nat->aR
 |0,_=>[]
 |f+1,i=>match jO e i with
  |some v=>(i,[],v)::lW e f (i+1)
  |none=>lW e f (i+1)
theorem vN{e:aR}:∀{f i:Nat} {x:Nat×qc×Value},x∈lW e f i->x.2.1=[]/\jO e x.1=Tc x.2.2
 |0,_,_,h=>nomatch h
 |f+1,i,x,h=>by unfold lW at h;split at h;rename_i v b;rcases YS.1 h with rfl|h;simp_all;exact vN h;exact vN h
theorem qL(h:Sat n e a)(f i:Nat):Sat n (lW e f i) a:=⟨h.defers,h.size,λx l=>by obtain⟨k,c,v⟩:=x;obtain⟨h1,b⟩:=vN l;have h1:c=[]:=h1;subst h1;exact⟨λ_=>Ya h b,λm=>absurd trivial m⟩⟩
def WD(P:Program)(n:Nat)(pl:List (Nat×fD)):Code->iE->List Nat->aR->zc->Prop
 |.skip,Q,f,e,h=>Q .normal f e h
 |.ret,Q,f,e,h=>Q .ret f e h
 |.exit id,Q,f,e,h=>Q (.exit id) f e h
 |.region _ ops draw,Q,f,e,h=>nH P n ops draw (λe h=>Q .normal f e h) e h
 |.seq x y,Q,f,e,h=>WD P n pl x (PO (λf e h=>WD P n pl y Q f e h) Q) f e h
 |.cond c x y,Q,f,e,h=>match X0 e [] c with
  |some (.bool b)=>(b=Ta->WD P n pl x Q f e h)/\(b=Tb->WD P n pl y Q f e h)
  |_=>False
 |.block id x,Q,f,e,h=>WD P n pl x (G7 id Q) f e h
 |.rangeFunc g ps asg bd,Q,f,e,h=>match X0 e [] g,ps.toList with
  |some v,[p1,p2]=>Cn P n p1 p2 asg bd v Q f (lW e n 0) h
  |some v,[p1]=>AY P n p1 asg bd v Q f (lW e n 0) h
  |_,_=>False
 |.loop x,Q,f,e,h=>WL P n pl (.loop x) (λex e h=>Q ex f e h) e h
 |_,_,_,_,_=>False
def AR(n:Nat)(B:World)(Q:iE):Exit->Act->World->Prop:=
 λx a w=>∃b e d h a0,a=Y5 (marks b) a0/\w=mk B d h/\Sat n e a0/\Q x b e h
theorem CV(w:1<=m){ps:Array Nat}{i bd:Code}{o:FuncId}{lb:Array Value}(C:zx P o=Ta){g:Operand}{Q:iE}{k:List Nat}(y:Sat n e a)(H:(Y5 (marks k) a).eval g=.func (.func o) #[] lb) (D:∀fn (rec:fW),rec=(λst t=>{ state:=st,pending:=t,fn:=fn,tmps:=a.tmps,params:=ps,assign:=i,body:=bd,defers:=h.size }) -> jG P o (#[.func (.yield (h.size+1)) #[] #[]]++lb) ((h.push (.deferred (Tc []))).push (.loop (rec .ready Td))) λ_ r=>oe rec (h.size+1) (λz=>Q .normal (h.size::k) e z) (λz=>Q .ret (h.size::k) e z) r)
  (B:World) (d:Nat):(Code.rangeFunc g ps i bd).wpIn (rf Td) m P (AR n B Q) (Y5 (marks k) a) (mk B d h):=by
 refine wpIn_rangeFunc λp _=>?_;obtain⟨rec,b⟩:∃rec:fW,rec=λst t=>{ state:=st,pending:=t,fn:=p,tmps:=a.tmps,params:=ps,assign:=i,body:=bd,defers:=h.size }:=⟨_,rfl⟩;have u:=D p rec b;refine⟨h.size+1,[{ target:=.collected h.size,args:=#[] }],mk B d ((h.push (.deferred (Tc []))).push (.loop (rec .ready Td))),{ target:=.fn (.func o) lb,args:=#[.func (.yield (h.size+1)) #[] #[]] },mk B d ((h.push (.deferred (Tc []))).push (.loop (rec .ready Td))),o,#[.func (.yield (h.size+1)) #[] #[]]++lb,mk B d ((h.push (.deferred (Tc []))).push (.loop (rec .ready Td))),?_,?_,λ_ _=>trivial,?_,λ_=>w,?_⟩;rw[b];exact run_enterLoop_outer _ _ _ _ _;simp only[resolve,H];simp[go_sem,zcw];simp only[invoke];exact wY C _ _;have F:({ Y5 (marks k) a with defers:=[{ target:=.collected h.size,args:=#[] }]++(Y5 (marks k) a).defers }:Act)=Y5 (marks (h.size::k)) a:=by unfold Y5 marks;simp only[y.defers];rfl
 rw[F];refine CallsIn.mono (u (m-1) B d) ?_;rintro e' w' ⟨v,s,r,rfl,rfl,l⟩;rcases l with⟨f,G⟩|⟨f,E⟩;have c:(mk B s r).heap[h.size+1]?=Tc (.loop (rec .ready Td)):=f;have q:=run_endLoop (P:=P) c (by simp_all);have A:({ rec .ready Td with state:=.exhausted }:Loop)=rec .exhausted Td:=by rw[b]
 have x:(rec .ready Td).pending=Td:=by rw[b]
 rw[A,x]at q;exact⟨Td,_,q,_,e,s,_,a,rfl,rfl,y,G⟩;have c:(mk B s r).heap[h.size+1]?=Tc (.loop (rec .done (Tc .ret))):=f;have q:=run_endLoop (P:=P) c (by simp_all);have A:({ rec .done (Tc .ret)with state:=.exhausted }:Loop)=rec .exhausted (Tc .ret):=by rw[b]
 have x:(rec .done (Tc .ret)).pending=Tc .ret:=by rw[b]
 rw[A,x]at q;exact⟨Tc .ret,_,q,wpIn_ret ⟨_,e,s,_,a,rfl,rfl,y,E⟩⟩
theorem KQ(E:P.follows .mixedOrders=Ta)(D:1<=m){pl:List (Nat×fD)}:∀(c:Code) (Q:iE) (k:List Nat) (e:aR) (h:zc),WD P n pl c Q k e h ->
  ∀(B:World) (d:Nat) (a:Act),Sat n e a->c.wpIn (rf Td) m P (AR n B Q) (Y5 (marks k) a) (mk B d h):=by
 intro c;induction c with
 |skip=>exact λQ k e h H B d a f=>wpIn_skip ⟨k,e,d,h,a,rfl,rfl,f,H⟩
 |ret=>exact λQ k e h H B d a f=>wpIn_ret ⟨k,e,d,h,a,rfl,rfl,f,H⟩
 |exit id=>exact λQ k e h H B d a f=>wpIn_exit ⟨k,e,d,h,a,rfl,rfl,f,H⟩
 |region id ops S=>exact λQ k e h H B d a f=>zO E H B d f λe' a' d' h' l _ q2=>⟨k,e',d',h',a',rfl,rfl,l,q2⟩
 |seq x y A t=>
  intro Q k e h H B d a f;refine wpIn_seq (wpIn_mono (A _ _ _ _ H B d a f) ?_);rintro ex a1 w1 ⟨p,z,r,h1,a0,rfl,rfl,s1,l⟩;cases ex with
  |normal=>exact t _ _ _ _ l B r a0 s1
  |_=>exact⟨p,z,r,h1,a0,rfl,rfl,s1,l⟩
 |cond c x y A t=>intro Q k e h H B d a f;simp only[WD]at H;split at H;rename_i b C;have Z:(Y5 (marks k) a).eval c=.bool b:=yc f (c:=[]) trivial C;exact wpIn_cond_split Z (λL=>A _ _ _ _ (H.1 L) B d a f) (λF=>t _ _ _ _ (H.2 F) B d a f);exact H.elim
 |block id x ih=>
  intro Q k e h H B d a f;refine wpIn_block (wpIn_mono (ih _ _ _ _ H B d a f) ?_);rintro ex a1 w1 ⟨p,z,r,h1,a0,rfl,rfl,s1,l⟩;cases ex with
  |exit i=>simp only[G7]at l;simp only[Exit.inBlock];by_cases C:Nat.beq i id=Ta;rw[zb (YT C)];simp only[C,zF]at l;exact⟨p,z,r,h1,a0,rfl,rfl,s1,l⟩;rw[za (λhe=>C (by rw[he];simp))];simp only[C,zG]at l;exact⟨p,z,r,h1,a0,rfl,rfl,s1,l⟩
  |_=>exact⟨p,z,r,h1,a0,rfl,rfl,s1,l⟩
 |rangeFunc g ps V bd Y aa=>
  intro Q k e h H B d a f;simp only[WD]at H;split at H;rename_i v u G O w;have o:ps=#[u,G]:=by rw[<-Array.toList_inj];exact w
  subst o;unfold Cn at H;cases hok:(wh n [] (Tc u)&&wh n [] (Tc G))with
  |false=>simp_all
  |true=>rw[hok]at H;rw[ZE]at hok;obtain⟨gf,lb,rfl,I,M⟩:=H;exact CV D I (qL f n 0) (yc f (c:=[]) trivial O) (λfn rec q=>M rec (λ {J v2 U K} N s=>Bb E (ps:=[u,G]) (vs:=[J,v2]) (by simp_all) q rfl (qL f n 0) N s)) B d
  rename_i v u O w;have o:ps=#[u]:=by rw[<-Array.toList_inj];exact w
  subst o;unfold AY at H;cases hok:wh n [] (Tc u)with
  |false=>simp_all
  |true=>rw[hok]at H;obtain⟨gf,lb,rfl,I,M⟩:=H;exact CV D I (qL f n 0) (yc f (c:=[]) trivial O) (λfn rec q=>M rec (λ {J U K} N s=>Bb E (ps:=[u]) (vs:=[J]) (by simp_all) q rfl (qL f n 0) N s)) B d
  exact H.elim
 |loop x _=>intro Q k e h H B d a f;refine wpIn_mono (Im E (.loop x) _ _ _ H B d a f) ?_;rintro ex a1 w1 ⟨z,r,h1,a0,rfl,rfl,s1,_,l⟩;exact⟨k,z,r,h1,a0,rfl,rfl,s1,l⟩
 |_=>exact λQ k e h H=>H.elim
def takeD:List Nat->(zc->Prop)->zc->Prop
 |[],K,h=>K h
 |b::ds,K,h=>h[b]?=Tc (.deferred (Tc []))/\takeD ds K (h.setIfInBounds b (.deferred Td))
def MU(P:Program)(rs:List ResultVar)(R:Value->zc->Prop):iE
 |.normal,ds,e,h=>takeD ds (λh'=>iR P h' e rs λvs=>R (iQ vs) h') h
 |.ret,ds,e,h=>takeD ds (λh'=>iR P h' e rs λvs=>R (iQ vs) h') h
 |_,_,_,_=>False
theorem uw{P:Program}{fn:Func}{n:Nat}{rs:List ResultVar}(i:fn.results.toList=rs){e:aR}{a:Act}(k:Sat n e a){B:World}{R:Value->zc->Prop}{D:Nat}:∀(c:List Nat) (d:Nat) (h:zc),takeD c (λh'=>iR P h' e rs λvs=>R (iQ vs) h') h ->
  LeavesInM Fence.wide D P fn a.tmps (λe w'=>∃v l h',e=.returned v/\w'=mk B l h'/\R v h') (marks c) .returning (mk B d h)
 |[],d,h,H=>by obtain⟨v,o,m⟩:=Yb k i H;exact⟨v,m B d,v,d,h,rfl,rfl,o⟩
 |b::c,d,h,⟨h1,H⟩=>by have f:(mk B d h).heap[b]?=Tc (.deferred (Tc [])):=h1;exact⟨by simp,.inl ⟨_,_,rfl,run_takeDeferred (P:=P) f,uw i k c d _ H⟩⟩
theorem Fi(y:P.follows .mixedOrders=Ta)(vs:List Value){f:FuncId}{fn:Func}{rs:List ResultVar}(t:P.funcs[f]?=Tc fn)(c:Yc fn=Ta)(q:fn.results.toList=rs)(x:fn.ntmps=n)(s:Nat.ble vs.length n=Ta){R:Value->zc->Prop}{F:Prop}(H:F)(pl:List (Nat×fD):=[])(r:F=WD P n pl (codeOf fn) (MU P rs R) [] (iM 0 vs) h):XC P f vs.toArray h R:=by
 have k:fn.body=Tc (codeOf fn):=by unfold Yc at c;unfold codeOf;split at c;omega;cases c
 intro B d;refine callsIn_wide.1 (callsIn_of_wp_marks (F:=Fence.wide) (n:=1) t k trivial ?_ rfl);subst x;have A:vs.length<=fn.ntmps:=zaw s;have u:Sat fn.ntmps (iM 0 vs) { tmps:=vs.toArray++zar (fn.ntmps-vs.toArray.size) undef,defers:=[] }:=by
  refine⟨rfl,by simp;omega,?_⟩;refine sh vs.toArray _ vs 0 λj v z=>?_;have i:j<vs.length:=by rcases zad j vs.length with h|h;exact h;simp_all
  simp only[ZP,zay];rw[zbs (by simpa using i)];simp[z]
 have:=KQ y (m:=1) (by omega) (codeOf fn) _ [] _ _ (r ▸ H) B d _ u;rw[show marks []=[]from rfl,Fx]at this;refine wpIn_mono this ?_;rintro ex a w ⟨b,C,p,h1,a0,rfl,rfl,s1,e⟩;have l:(Y5 (marks b) a0).defers=marks b:=by unfold Y5;rw[s1.defers];rfl
 have o:(Y5 (marks b) a0).tmps=a0.tmps:=rfl;cases ex with
 |normal=>show LeavesInM _ _ _ _ _ _ _ _ _;rw[l,o];exact uw q s1 b p h1 e
 |ret=>show LeavesInM _ _ _ _ _ _ _ _ _;rw[l,o];exact uw q s1 b p h1 e
 |_=>exact e.elim
end
section
theorem IT(c:Nat)(c1:Addr)(h:zc)(R:Value->zc->Prop) (H:∃x:Bt,ze h c1=Tc (.string x)/\((decide ((((x).size:Int):Int)>65536))=Ta->YX Tp c #[.agg #[.int .i64 0,.int .i64 0,.int .i64 0],.int .i64 3] h (λG F=>∃z:Bool,G=.bool z/\R (.tuple #[]) F))/\((decide ((((x).size:Int):Int)>65536))=Tb->∃(A:Int->zc->Prop) (E:Int->zc->Nat),A 0 h/\∀e:Int,∀w:zc,A e w->(∃k:Bt,ze w c1=Tc (.string k)/\((decide ((e:Int)<((k).size:Int)))=Ta->∃s:Bt,ze w c1=Tc (.string s)/\XC Tp 274 #[.string s,.int .i64 e] w (λD l=>∃m:Int,∃t:Int,∃r:Int,∃b:Int,D=.tuple #[.agg #[.int .i64 m,.int .i64 t,.int .i64 r],.int .i64 b]/\let B:zc:=za9 l (.cells #[.int .i64 0,.int .i64 0,.int .i64 0] 171);XRunU Tp (YN 171 (.pointer (Tc ⟨ZK l,0,Td⟩)) (.agg #[.int .i64 m,.int .i64 t,.int .i64 r])) B (λy=>∃p:Int,∃o:Int,∃u:Int,zd y ⟨ZK l,0,Td⟩ 0 [.int .i64 p,.int .i64 o,.int .i64 u]/\YX Tp c #[.agg #[.int .i64 p,.int .i64 o,.int .i64 u],.int .i64 b] y (λC q=>∃f:Bool,C=.bool f/\((bif (!f)then Ta else((b:Int) != 0))=Ta->R (.tuple #[]) q)/\((bif (!f)then Ta else((b:Int) != 0))=Tb->∃i:Int,ze q (YK (YK ⟨ZK l,0,Td⟩ 1) 1)=Tc (.int .i64 i)/\(A i q/\E i q<E e w))))))/\((decide ((e:Int)<((k).size:Int)))=Tb->R (.tuple #[]) w)))):
  jG Tp 273 #[.func (.yield c) #[] #[],.pointer (Tc c1)] h R:=
 GU Tryz.mixed ⟨[],[(3,[(3,.one (.int .i64))])],[]⟩ [.func (.yield c) #[] #[],.pointer (Tc c1)] (rs:=[]) (n:=34) Tryz.func273 (by kernel_rfl) (by kernel_rfl) (by kernel_rfl) (by kernel_rfl) (Eq.mp (by kernel_rfl) H)
theorem V6(C:Bt)(h:zc)(R:Value->zc->Prop) (H:let q:zc:=za9 h (.cells #[.slice Td 0 0] 162);let p:zc:=za9 q (.cells #[.int .i64 0] 3);let A:zc:=za9 p (.cells #[.int .i64 0] 30);let G:zc:=za9 A (.cells #[.slice Td 0 0] 162);XC Tp 209 #[.string C] G (λI c=>∃o:Value,I=o/\∃(r:FuncId) (m:Array Value),o=.func (.func r) #[] m/\zx Tp r=Ta/\∀k:fW,(∀{x u:Value} {B:zc} {y:Value->zc->Prop},B[(ZK c+1)]?=Tc (.loop (k .ready Td))->iF Tp 25 (iN (codeOf Tryz.f145)) (iB (codeOf Tryz.f145)) k (ZK c+1) y (putO (putO [(0,[],.string C),(2,[],.pointer (Tc ⟨ZK h,0,Td⟩)),(3,[],.pointer (Tc ⟨ZK q,0,Td⟩)),(4,[],.pointer (Tc ⟨ZK p,0,Td⟩)),(5,[],.pointer (Tc ⟨ZK A,0,Td⟩)),(8,[],.string C),(9,[],o)] (Tc 10) [] x) (Tc 11) [] u) B->YX Tp (ZK c+1) #[x,u] B y)->jG Tp r (#[.func (.yield (ZK c+1)) #[] #[]]++m) (za9 (za9 c (.deferred (Tc []))) (.loop (k .ready Td))) λ_ F=>oe k (ZK c+1) (λe=>∃b:Sl,ze e ⟨ZK A,0,Td⟩=Tc (.slice b.a b.len b.cap)/\XRunU Tp (YN 162 (.pointer (Tc ⟨ZK h,0,Td⟩)) (.slice b.a b.len b.cap)) e (λD=>XRunU Tp (YN 3 (.pointer (Tc ⟨ZK q,0,Td⟩)) (.int .i64 ((C).size:Int))) D (λE=>XRunU Tp (YN 30 (.pointer (Tc ⟨ZK p,0,Td⟩)) (.int .i64 0)) E (λl=>(l)[ZK c]?=Tc (.deferred (Tc []))/\∃i:Sl,ze (Array.setIfInBounds l (ZK c) (.deferred Td)) ⟨ZK h,0,Td⟩=Tc (.slice i.a i.len i.cap)/\∃z:Int,ze (Array.setIfInBounds l (ZK c) (.deferred Td)) ⟨ZK q,0,Td⟩=Tc (.int .i64 z)/\∃s:Int,ze (Array.setIfInBounds l (ZK c) (.deferred Td)) ⟨ZK p,0,Td⟩=Tc (.int .i64 s)/\R (.tuple #[.slice i.a i.len i.cap,.int .i64 z,.int .i64 s]) (Array.setIfInBounds l (ZK c) (.deferred Td)))))) (λe=>(e)[ZK c]?=Tc (.deferred (Tc []))/\∃f:Sl,ze (Array.setIfInBounds e (ZK c) (.deferred Td)) ⟨ZK h,0,Td⟩=Tc (.slice f.a f.len f.cap)/\∃w:Int,ze (Array.setIfInBounds e (ZK c) (.deferred Td)) ⟨ZK q,0,Td⟩=Tc (.int .i64 w)/\∃t:Int,ze (Array.setIfInBounds e (ZK c) (.deferred Td)) ⟨ZK p,0,Td⟩=Tc (.int .i64 t)/\R (.tuple #[.slice f.a f.len f.cap,.int .i64 w,.int .i64 t]) (Array.setIfInBounds e (ZK c) (.deferred Td))) F)):
  XC Tp 145 #[.string C] h R:=
 Fi Tryz.mixed [.string C] (rs:=[.cell 2 162,.cell 3 3,.cell 4 30]) (n:=25) Tryz.func145 (by kernel_rfl) (by kernel_rfl) (by kernel_rfl) (by kernel_rfl) H (pl:=[]) (by kernel_rfl)
theorem BY(x0:Value)(E:Addr)(D:Addr)(C:Addr)(B:Addr)(x8:Value)(x9:Value)(n:Int)(o:Int)(p:Int)(q:Int)(rec:fW)(l:Nat)(K:Value->zc->Prop)(h:zc) (H:let w:zc:=za9 h (.cells #[.int .i64 0,.int .i64 0,.int .i64 0] 171);XRunU Tp (YN 171 (.pointer (Tc ⟨ZK h,0,Td⟩)) (.agg #[.int .i64 n,.int .i64 o,.int .i64 p])) w (λr=>(r)[l]?=Tc (.loop (rec .ready Td))/\let e:zc:=Array.setIfInBounds r l (.loop (rec .busy Td));(((q:Int) != 0)=Ta->∃f:Int,ze e (YK (YK ⟨ZK h,0,Td⟩ 1) 0)=Tc (.int .i64 f)/\XRunU Tp (YN 162 (.pointer (Tc E)) (.slice Td 0 0)) e (λt=>(t)[((YK (YK ⟨ZK h,0,Td⟩ 1) 0):Addr).block]?=(e)[((YK (YK ⟨ZK h,0,Td⟩ 1) 0):Addr).block]?/\XRunU Tp (YN 3 (.pointer (Tc D)) (.int .i64 f)) t (λA=>XRunU Tp (YN 30 (.pointer (Tc C)) (.int .i64 q)) A (λu=>(u)[l]?=Tc (.loop (rec .busy Td))/\K (.bool Tb) (Array.setIfInBounds u l (.loop (rec .done (Tc .ret))))))))/\(((q:Int) != 0)=Tb->∃c:Sl,ze e B=Tc (.slice c.a c.len c.cap)/\∃m:Int,∃k:Int,∃i:Int,zd e ⟨ZK h,0,Td⟩ 0 [.int .i64 m,.int .i64 k,.int .i64 i]/\let y:zc:=za9 e (.cells #[.int .i64 m,.int .i64 k,.int .i64 i] 171);xd Tp (YY #[162,162] 162 #[.slice c.a c.len c.cap,.slice (Tc ⟨ZK e,0,Td⟩) 1 1]) y (λx z=>∃b:Sl,x=.slice b.a b.len b.cap/\XRunU Tp (YN 162 (.pointer (Tc B)) (.slice b.a b.len b.cap)) z (λs=>(s)[l]?=Tc (.loop (rec .busy Td))/\K (.bool Ta) (Array.setIfInBounds s l (.loop (rec .ready Td)))))))):
  iF Tp 25 (iN (codeOf Tryz.f145)) (iB (codeOf Tryz.f145)) rec l K [(11,[],.int .i64 q),(10,[],.agg #[.int .i64 n,.int .i64 o,.int .i64 p]),(0,[],x0),(2,[],.pointer (Tc E)),(3,[],.pointer (Tc D)),(4,[],.pointer (Tc C)),(5,[],.pointer (Tc B)),(8,[],x8),(9,[],x9)] h:=
 Eq.mp (by kernel_rfl) H
end
end Go.X
end
