/- A part of the proof: nothing is stated here for its own sake. -/
import Derived.Test.YtjkbohnbckpmdaaGreatDoorPnE
open _root_.Go.Addr renaming add->YK
open _root_.Array renaming getElem?_toList->zav,push->za9,size->ZK,size_push->ZI,size_setIfInBounds->zah
open _root_.Bool renaming and_eq_true->ZE,and_true->zbp,eq_iff_iff->ZR,true_and->zao
open _root_.Go.Builtin renaming append_->YY,firstCells->zbk,zeroCells->zc8
open _root_.ByteArray renaming empty->zc1
open _root_.Go.Instr renaming index->zdc,storeAt->YN
open _root_.Int renaming toNat_natCast->YO
open _root_.Go.IntKind renaming wrap->YJ
open _root_.List renaming all_cons->zbo,all_eq_false->zcj,all_eq_true->ZJ,append_assoc->zbh,append_nil->ZY,drop_eq_getElem_cons->ZM,drop_eq_nil_of_le->zac,drop_length->zbm,drop_zero->za5,eq_nil_of_length_eq_zero->zaa,filter_cons->zb9,flatMap_cons->zcs,getD_eq_getElem?_getD->zbv,getElem?_append_left->zbn,getElem?_append_right->zbw,getElem?_eq_getElem->YR,getElem?_eq_some_iff->ZH,getElem?_map->zai,getElem?_take->ZQ,getElem?_toArray->zb4,getElem_map->zcb,getElem_mem->YW,length->zam,length_append->ZC,length_cons->ZV,length_drop->zab,length_map->ZA,length_nil->zb7,length_pos_iff->ZX,length_take->za0,map_append->ZZ,map_cons->zae,map_map->za8,mem_append->ZG,mem_append_left->YZ,mem_append_right->ZL,mem_cons->YS,mem_cons_of_mem->YU,mem_cons_self->ZB,mem_filter->zcq,mem_flatMap->zbf,mem_iff_getElem->zbr,mem_map->za6,mem_range->zbc,mem_singleton->zaf,nil_append->zba,pairwise_cons->za2,range->zak,take_append_drop->zax,take_length->ZO,take_of_length_le->zag,take_succ_eq_append_getElem->YP
open _root_.List.cons renaming injEq->za4
open _root_.Nat renaming add_zero->zco,eq_zero_or_pos->zcd,le_refl->YM,le_trans->zaj,min_eq_left->zcz,mul_le_mul_right->ZF,mul_one->zb1,sub_zero->zc7,zero_add->ZP,zero_le->ZN
open _root_.Go.Op renaming bytesLess->zbi
open _root_.Option renaming map_some->zc0
open _root_.Option.some renaming inj->ZS,injEq->YL
open _root_.Go.Value renaming slice->zdh,string->ZD
open _root_.Go.Value.slice renaming injEq->ZU
set_option linter.all false
set_option maxRecDepth 100000
namespace Go.X
end Go.X
namespace Go.Proofs
end Go.Proofs
open Go Go.X Go.Proofs
open _root_.Bool renaming true->Ta,false->Tb
open _root_.Option renaming some->Tc,none->Td
section
namespace Go.X
section
theorem Rh(b:Int)(c:Bt)(d:Sl)(e:Sl)(h:zc)(R:Value->zc->Prop) (H:let f:=h.push (.cells #[iV b,.string c,aK d,aK e] 25);let g:=f.push (.cells tC 25);∃i,ze g (YK ⟨h.size,0,Td⟩ 0)=Tc (iV i)/\∃j,ze g (YK ⟨h.size,0,Td⟩ 1)=Tc (.string j)/\let k:=g.push (.cells tC 25);XRunU Tp (YN 25 (.pointer (Tc ⟨g.size,0,Td⟩)) (.agg #[iV i,.string j,.slice Td 0 0,.slice Td 0 0])) k (λl=>let m:=l.push (.cells #[] 9);∃n,ze m (YK ⟨h.size,0,Td⟩ 2)=Tc (aK n)/\xd Tp (YY #[22,22] 22 #[.slice (Tc ⟨l.size,0,Td⟩) 0 0,aK n]) m (λo p=>∃q,o=aK q/\∃(r:Sl->zc->Prop) (s:Sl->zc->Nat),r q p/\∀t:Sl,∀u:zc,r t u->(∃w,ze u (YK ⟨h.size,0,Td⟩ 0)=Tc (iV w)/\((bif (w==6)then(decide ((t.len:Int)>0))else Tb)=Ta->∃(x:Int->Int->zc->Prop) (y:Int->Int->zc->Nat),x 0 1 u/\∀z A:Int,∀B:zc,x z A B->((decide (A<t.len)=Ta->∃C,(t.a=Tc C/\0<=A/\A<t.len)/\∃D,ze B (C.add (A.toNat*1))=Tc (.string D)/\∃E,(t.a=Tc E/\0<=z/\z<t.len)/\∃F,ze B (E.add (z.toNat*1))=Tc (.string F)/\((zbi D.toList F.toList)=Ta->(x A (YJ .i64 (A+1)) B/\y A (YJ .i64 (A+1)) B<y z A B))/\((zbi D.toList F.toList)=Tb->(x z (YJ .i64 (A+1)) B/\y z (YJ .i64 (A+1)) B<y z A B)))/\(decide (A<t.len)=Tb->∃G,ze B (YK ⟨g.size,0,Td⟩ 2)=Tc (aK G)/\∃I,(t.a=Tc I/\0<=z/\z<t.len)/\∃J,ze B (I.add (z.toNat*1))=Tc (.string J)/\let L:=B.push (.cells #[.string J] 9);(L)[((YK ⟨g.size,0,Td⟩ 2):Addr).block]?=(B)[((YK ⟨g.size,0,Td⟩ 2):Addr).block]?/\xd Tp (YY #[22,22] 22 #[aK G,.slice (Tc ⟨B.size,0,Td⟩) 1 1]) L (λM N=>∃O,M=aK O/\XRunU Tp (YN 22 (.pointer (Tc (YK ⟨g.size,0,Td⟩ 2))) (aK O)) N (λP=>∃Q,ze P (YK ⟨g.size,0,Td⟩ 3)=Tc (aK Q)/\∃S,ze P (YK ⟨h.size,0,Td⟩ 3)=Tc (aK S)/\∃T U V W,zd P ⟨h.size,0,Td⟩ 0 (tL T U V W)/\∃X,(t.a=Tc X/\0<=z/\z<t.len)/\∃Y,ze P (X.add (z.toNat*1))=Tc (.string Y)/\XC Tp 328 #[tA T U V W,.string Y] P (λZ aa=>∃ab,Z=iV ab/\∃ac,(S.a=Tc ac/\0<=ab/\ab<S.len)/\(aa)[((YK ⟨h.size,0,Td⟩ 3):Addr).block]?=(P)[((YK ⟨h.size,0,Td⟩ 3):Addr).block]?/\(aa)[((YK ⟨g.size,0,Td⟩ 3):Addr).block]?=(P)[((YK ⟨g.size,0,Td⟩ 3):Addr).block]?/\∃ad ae af ag,zd aa (ac.add (ab.toNat*4)) 0 (tL ad ae af ag)/\(aa)[((YK ⟨g.size,0,Td⟩ 3):Addr).block]?=(P)[((YK ⟨g.size,0,Td⟩ 3):Addr).block]?/\XC Tp 272 #[tA ad ae af ag] aa (λah ai=>∃aj ak al am,ah=tA aj ak al am/\(ai)[((YK ⟨g.size,0,Td⟩ 3):Addr).block]?=(P)[((YK ⟨g.size,0,Td⟩ 3):Addr).block]?/\let an:=ai.push (.cells #[iV aj,.string ak,aK al,aK am] 25);(an)[((YK ⟨g.size,0,Td⟩ 3):Addr).block]?=(P)[((YK ⟨g.size,0,Td⟩ 3):Addr).block]?/\xd Tp (YY #[23,23] 23 #[aK Q,.slice (Tc ⟨ai.size,0,Td⟩) 1 1]) an (λao ap=>∃aq,ao=aK aq/\XRunU Tp (YN 23 (.pointer (Tc (YK ⟨g.size,0,Td⟩ 3))) (aK aq)) ap (λar=>((Tc (iV z):Option Value)=Td\/∃v,(Tc (iV z):Option Value)=Tc v)/\(0<=(0:Int)/\(0:Int)<=z/\z<=z/\z<=t.cap)/\((Td:Option Value)=Td\/∃v,(Td:Option Value)=Tc v)/\(0<=(YJ .i64 (z+1))/\(YJ .i64 (z+1))<=(t.len:Int)/\(t.len:Int)<=(t.cap:Int)/\(t.cap:Int)<=(t.cap:Int))/\xd Tp (YY #[22,22] 22 #[.slice (fF t.a 1 ((0:Int).toNat) z.toNat) (z.toNat-(0:Int).toNat) (z.toNat-(0:Int).toNat),.slice (fF t.a 1 ((YJ .i64 (z+1)).toNat) ((t.cap:Int).toNat)) ((t.len:Int).toNat-(YJ .i64 (z+1)).toNat) ((t.cap:Int).toNat-(YJ .i64 (z+1)).toNat)]) ar (λau av=>∃aw,au=aK aw/\(r aw av/\s aw av<s t u)))))))))))/\((bif (w==6)then(decide ((t.len:Int)>0))else Tb)=Tb->∃(ax:Int->zc->Prop) (ay:Int->zc->Nat),ax 0 u/\∀az:Int,∀aA:zc,ax az aA->(∃aB,ze aA (YK ⟨h.size,0,Td⟩ 3)=Tc (aK aB)/\∃aC,(decide (az<aB.len)=Ta->ze aA (YK ⟨h.size,0,Td⟩ 0)=Tc (iV aC))/\((bif (decide (az<aB.len))then(aC != 6)else Tb)=Ta->∃aD,ze aA (YK ⟨g.size,0,Td⟩ 3)=Tc (aK aD)/\∃aE,ze aA (YK ⟨h.size,0,Td⟩ 3)=Tc (aK aE)/\∃aF,(aE.a=Tc aF/\0<=az/\az<aE.len)/\∃aG aH aI aJ,zd aA (aF.add (az.toNat*4)) 0 (tL aG aH aI aJ)/\XC Tp 272 #[tA aG aH aI aJ] aA (λaL aM=>∃aN aO aP aQ,aL=tA aN aO aP aQ/\(aM)[((YK ⟨g.size,0,Td⟩ 3):Addr).block]?=(aA)[((YK ⟨g.size,0,Td⟩ 3):Addr).block]?/\let aS:=aM.push (.cells #[iV aN,.string aO,aK aP,aK aQ] 25);(aS)[((YK ⟨g.size,0,Td⟩ 3):Addr).block]?=(aA)[((YK ⟨g.size,0,Td⟩ 3):Addr).block]?/\xd Tp (YY #[23,23] 23 #[aK aD,.slice (Tc ⟨aM.size,0,Td⟩) 1 1]) aS (λaT aU=>∃aV,aT=aK aV/\XRunU Tp (YN 23 (.pointer (Tc (YK ⟨g.size,0,Td⟩ 3))) (aK aV)) aU (λaW=>(ax (YJ .i64 (az+1)) aW/\ay (YJ .i64 (az+1)) aW<ay az aA)))))/\((bif (decide (az<aB.len))then(aC != 6)else Tb)=Tb->∃aX aY aZ a0,zd aA ⟨g.size,0,Td⟩ 0 (tL aX aY aZ a0)/\XRunU Tp (YN 25 (.pointer (Tc ⟨f.size,0,Td⟩)) (tA aX aY aZ a0)) aA (λa1=>∃a2 a3 a4 a5,zd a1 ⟨f.size,0,Td⟩ 0 (tL a2 a3 a4 a5)/\R (tA a2 a3 a4 a5) a1)))))))):
  XC Tp 272 #[.agg #[.int .i64 b,.string c,.slice d.a d.len d.cap,.slice e.a e.len e.cap]] h R:=
 XF ⟨[(10,8000),(11,8000),(12,8000),(16,8000)],[(3,[(4,.one (.sl))]),(6,[(5,.one (.int .i64)),(6,.one (.int .i64))]),(14,[(7,.one (.int .i64))])],[]⟩ [.cell 2 25] 99 Tryz.func272 H
end
end Go.X
end
section
namespace Go.X
open Go Go.X Go.Proofs Go.RowKit
section
variable {g':zc} {bv:Nat} {x:Tr} {K:Value -> zc -> Prop} {xk xi:Sl}
structure VbM (lo:Nat) (h0:zc) (M0:Fr) (b:Nat) (k:Int) (z2 z3:Sl) (g:zc) (M:Fr) (ks:List Bt) (xs:List Tr) (sk si:Sl) (bk bi:List Nat):Prop where
 L:Later h0 M0 g M
 box:Blk g b #[.int .i64 k,.string ⟨#[]⟩,aK z2,aK z3]
 keys:ORow lo g M .str ks sk bk
 items:ORow lo g M .tree xs si bi
 dj:∀c∈bk,c∉bi
 hb:h0.size<=b
 bl:b<lo
 lg:lo<=g.size
 nB:M b=Td
section
variable {lo : Nat} {h0 : zc} {M0 : Fr} {b : Nat} {k : Int} {z2 z3 : Sl} {g : zc} {M : Fr} {ks : List Bt} {xs : List Tr} {sk si : Sl} {bk bi : List Nat}
theorem VbM.call(V:VbM lo h0 M0 b k z2 z3 g M ks xs sk si bk bi){M':Fr}(L:Later g M g' M'):VbM lo h0 M0 b k z2 z3 g' M' ks xs sk si bk bi:= ⟨V.L.trans L,V.box.keep (L.keep.get b V.box.lt),V.keys.call L,V.items.call L,V.dj,V.hb,V.bl,by have:=V.lg;have:=L.keep.size;omega,by rw[L.old b V.box.lt];exact V.nB⟩
theorem VbM.push(V:VbM lo h0 M0 b k z2 z3 g M ks xs sk si bk bi)(o:Obj):VbM lo h0 M0 b k z2 z3 (g.push o) M ks xs sk si bk bi:=V.call (Later.push V.L.ag o)
theorem VbM.key(V:VbM lo h0 M0 b k z2 z3 g M ks xs sk si bk bi)(q:ks.length<=1000000){x:Bt}(t:Blk g bv #[.string x]) (n:∀s' g' m,VbM lo h0 M0 b k z2 z3 g' M (ks++[x]) xs s' si m bi->g.size<=g'.size->(∀j,j<g.size->j∉bk->g'[j]?=g[j]?)->K (aK s') g'):
  xd Tp (YY #[22,22] 22 #[aK sk,.slice (Tc ⟨bv,0,Td⟩) 1 1]) g K:=by
 have u:=V.bl;have o:=V.lg;have p:=V.hb;refine ORow.app Fq (by omega) V.L.ag V.keys V.lg (vs:=[.string x]) t rfl q λs' g' c' r z w f=>n s' g' c' ⟨⟨⟨by have:=V.L.keep.size;omega,λj s=>?_⟩,V.L.le,V.L.old,λc cs e=>?_⟩,V.box.keep (f b V.box.lt λi=>?_),r,V.items.frame (λc l=>f c (V.items.own c l).2.1 λi=>V.dj c i l) (Fr.le.refl _) (λc l=>(V.items.own c l).2.2),λc l i=>?_,V.hb,V.bl,by omega,V.nB⟩ z f;rw[f j (by omega) λi=>by have:=(V.keys.own j i).1;omega];exact V.L.keep.get j s;rw[f c (V.L.ag.lt e) λi=>by have:=(V.keys.own c i).2.2;rw[this]at e;cases e];exact V.L.ag c cs e;have:=(V.keys.own b i).1;omega;rcases w c l with h|h;exact V.dj c h i;have:=(V.items.own c i).2.1;omega
theorem C0{M:Fr}(b:RdV M .tree x (.agg #[.int .i64 x.kind,.string x.text,aK xk,aK xi])):Rd M .tree x [.int .i64 x.kind,.string x.text,aK xk,aK xi]:=by
 unfold RdV at b;simp only[fe,if_true]at b;obtain⟨cs,e,c⟩:=b;injection e with e;have:cs=[.int .i64 x.kind,.string x.text,aK xk,aK xi]:=by have:=congrArg Array.toList e;simpa using this.symm
 rw[<-this];exact c
theorem VbM.item(V:VbM lo h0 M0 b k z2 z3 g M ks xs sk si bk bi)(s:xs.length<=1000000)(u:Blk g bv #[.int .i64 x.kind,.string x.text,aK xk,aK xi])(q:RdV M .tree x (.agg #[.int .i64 x.kind,.string x.text,aK xk,aK xi])) (n:∀s' g' m,VbM lo h0 M0 b k z2 z3 g' M ks (xs++[x]) sk s' bk m->g.size<=g'.size->(∀j,j<g.size->j∉bi->g'[j]?=g[j]?)->K (aK s') g'):
  xd Tp (YY #[23,23] 23 #[aK si,.slice (Tc ⟨bv,0,Td⟩) 1 1]) g K:=by
 have y:=V.bl;have o:=V.lg;have p:=V.hb;refine ORow.app sj (by omega) V.L.ag V.items V.lg (vs:=[.int .i64 x.kind,.string x.text,aK xk,aK xi]) u (C0 q) s λs' g' c' r z w f=>n s' g' c' ⟨⟨⟨by have:=V.L.keep.size;omega,λj t=>?_⟩,V.L.le,V.L.old,λc cs e=>?_⟩,V.box.keep (f b V.box.lt λi=>?_),V.keys.frame (λc l=>f c (V.keys.own c l).2.1 λi=>V.dj c l i) (Fr.le.refl _) (λc l=>(V.keys.own c l).2.2),r,λc l i=>?_,V.hb,V.bl,by omega,V.nB⟩ z f;rw[f j (by omega) λi=>by have:=(V.items.own j i).1;omega];exact V.L.keep.get j t;rw[f c (V.L.ag.lt e) λi=>by have:=(V.items.own c i).2.2;rw[this]at e;cases e];exact V.L.ag c cs e;have:=(V.items.own b i).1;omega;rcases w c i with h|h;exact V.dj c l h;have:=(V.keys.own c l).2.1;omega
theorem VbM.turn(V:VbM lo h0 M0 b k z2 z3 g M ks xs sk si bk bi){l:Int}{i h:Sl}(B:Blk g' b #[.int .i64 l,.string ⟨#[]⟩,aK i,aK h])(z:g'.size=g.size)(f:∀j,j≠b->g'[j]?=g[j]?):VbM lo h0 M0 b l i h g' M ks xs sk si bk bi:=by have m:=V.bl;exact⟨Later.stay V.L V.hb V.nB f z,B,V.keys.frame (λc e=>f c (by have:=(V.keys.own c e).1;omega)) (Fr.le.refl _) (λc e=>(V.keys.own c e).2.2),V.items.frame (λc e=>f c (by have:=(V.items.own c e).1;omega)) (Fr.le.refl _) (λc e=>(V.items.own c e).2.2),V.dj,V.hb,V.bl,by rw[z];exact V.lg,V.nB⟩
theorem VbM.st2(V:VbM lo h0 M0 b k z2 z3 g M ks xs sk si bk bi){K:zc->Prop}(c:∀g',VbM lo h0 M0 b k sk z3 g' M ks xs sk si bk bi->g'.size=g.size->(∀j,j≠b->g'[j]?=g[j]?)->K g'):
  XRunU Tp (YN 22 (.pointer (Tc (YK ⟨b,0,Td⟩ 2))) (aK sk)) g K:=by
 rw[zw];exact yr vZ xT V.box (by show 2<4;omega) rfl λg' B z f=>c g' (V.turn B z f) z f
theorem VbM.st3(V:VbM lo h0 M0 b k z2 z3 g M ks xs sk si bk bi){K:zc->Prop}(c:∀g',VbM lo h0 M0 b k z2 si g' M ks xs sk si bk bi->g'.size=g.size->(∀j,j≠b->g'[j]?=g[j]?)->K g'):
  XRunU Tp (YN 23 (.pointer (Tc (YK ⟨b,0,Td⟩ 3))) (aK si)) g K:=by
 rw[zw];exact yr te sC V.box (by show 3<4;omega) rfl λg' B z f=>c g' (V.turn B z f) z f
theorem VbM.fin(V:VbM lo h0 M0 b k z2 z3 g M ks xs sk si bk bi)(f:ks.length<=1000000/\xs.length<=1000000):Later h0 M0 g (MxL M g (bk++bi))/\RdV (MxL M g (bk++bi)) .tree (.mk k ⟨#[]⟩ ks xs) (.agg #[.int .i64 k,.string ⟨#[]⟩,aK sk,aK si]):=by have l:=V.bl;have i:=V.hb;refine⟨Later.own V.L λc e=>?_,zj (v:=.mk k ⟨#[]⟩ ks xs) (V.keys.rd V.L.ag (λc e=>YZ _ e) f.1) (V.items.rd V.L.ag (λc e=>ZL _ e) f.2)⟩;rcases ZG.1 e with h|h;have:=(V.keys.own c h).1;omega;have:=(V.items.own c h).1;omega
end
end
end Go.X
end
section
namespace Go.X
open Go Go.Lib
section
variable {L:List Bt} {m:Nat}
theorem Bw{α:Type}(L:List α)(m:Nat):L.take m++L.drop (m+1)=L.eraseIdx m:=(List.eraseIdx_eq_take_drop_succ L m).symm
theorem QS(k:m<L.length)(h:∀x∈L,lb L[m]<=lb x):wa L=L[m]::wa (L.eraseIdx m):=by
 have i:L.Perm (L[m]::L.eraseIdx m):=by
  have e:L=L.take m++L[m]::L.drop (m+1):=by rw[<-ZM k,zax]
  rw[<-Bw];exact(List.Perm.of_eq e).trans List.perm_middle
 have tr:∀a b c:List UInt8,decide (a<=b)=Ta->decide (b<=c)=Ta->decide (a<=c)=Ta:=λa b c h1 n=>by grind
 have f:∀a b:List UInt8,(decide (a<=b)||decide (b<=a))=Ta:=λa b=>by grind
 have e:((L[m]::L.eraseIdx m).map lb).mergeSort (λx y=>decide (x<=y))=lb L[m]::((L.eraseIdx m).map lb).mergeSort (λx y=>decide (x<=y)):=by refine List.Perm.eq_of_pairwise (le:=λa b=>decide (a<=b)=Ta) (λa b _ _ h1 n=>?_) (List.pairwise_mergeSort tr f _) (za2.2 ⟨λa l=>?_,List.pairwise_mergeSort tr f _⟩) ?_;grind;rw[(List.mergeSort_perm _ _).mem_iff,za6]at l;grind;rw[zae];exact(List.mergeSort_perm _ _).trans (List.Perm.cons _ (List.mergeSort_perm _ _).symm)
 rw[FO i];unfold wa;simp_all
theorem RN{m k:Nat}(c:m<L.length)(f:k<L.length)(h:∀j (b:j<L.length),j<k->lb L[m]<=lb L[j]):
  (zbi L[k].toList L[m].toList=Ta->∀j (b:j<L.length),j<k+1->lb L[k]<=lb L[j])/\(zbi L[k].toList L[m].toList=Tb->∀j (b:j<L.length),j<k+1->lb L[m]<=lb L[j]):=by
 have e:zbi L[k].toList L[m].toList=decide (lb L[k]<lb L[m]):=by rw[Go.Proofs.bytesLess_eq,xj,xj]
 grind
end
end Go.X
end
section
namespace Go.X
open Go Go.X Go.Proofs Go.Sort Go.Lib
section
variable {v:Tr} {i k n:Nat} {t:Ty} {h g:zc} {src s:Sl} {K:Value -> zc -> Prop} {M:Fr}
theorem CG(a b:Bt):(a.toList==b.toList)=decide (a=b):=by rw[ZR];simp only[ByteArray.toList_eq,beq_iff_eq,zA];constructor;intro h;cases a;simp_all;grind
theorem IA(h:zn v=Ta)(b:v.kind=6):v.keys.length=v.items.length:=by unfold zn at h;simp_all
theorem V1{α:Type}{l:List α}(h:l.Nodup){i j:Nat}(hi:i<l.length)(c:j<l.length)(e:l[i]=l[j]):i=j:=by
 induction l generalizing i j with
 |nil=>simp at hi
 |cons a l b=>grind
theorem Hx(h:zn v=Ta)(b:v.kind=6):v.keys.Nodup/\v.keys.length=v.items.length:=by refine⟨?_,IA h b⟩;unfold zn at h;simp[b]at h;have:=h.1.1;unfold ym at this;simp_all
theorem DL{keys:List Bt}{x:Bt}(b:k<keys.length):idxFromS (keys.drop k) x k=if keys[k]=x then(k:Int)else idxFromS (keys.drop (k+1)) x (k+1):=by rw[ZM b,idxFromS]
theorem NV{gl:Fr}{key:Bt}(m:v.keys.length<=1000000000){R:Int->Prop}(h:R (idxOfS v.keys key)):PC Tp gl 328 [Arg.mk .tree v,Arg.mk .str key] [.int .i64] R:=by
 apply Xv;refine⟨λi=>∃k:Nat,i=k/\k<=v.keys.length/\idxOfS v.keys key=idxFromS (v.keys.drop k) key k,λi=>v.keys.length-i.toNat,⟨0,rfl,ZN _,by rw[za5];rfl⟩,?_⟩;rintro i ⟨k,rfl,l,e⟩;refine⟨λf=>?_,λf=>?_⟩;have b:k<v.keys.length:=by simp at f;omega
 refine⟨v.keys[k],⟨by omega,by simp⟩,λc=>?_,λc=>?_⟩;simp_all[CG,DL];rw[CG]at c;rw[DL b,za (by simpa using c)]at e;grind [qd,YO];have b:k=v.keys.length:=by simp at f;omega
 subst b;rw[zbm,idxFromS]at e;grind
theorem Md{l:List Bt}(h:l.Nodup)(hi:i<l.length):idxOfS l l[i]=(i:Int):=by rcases oO l[i] l 0 with⟨_,b⟩|⟨k,h1,b,c⟩;simp_all;unfold idxOfS;grind [YR,V1,ZS]
theorem Lk{P:Program}{t e:TypeId}{z:Value}{sz bytes:Nat}(T:ElemT P t e z sz bytes){ty:TypeId}{p:Addr}{n N:Nat}{olds:List Value}(E:olds.length=n*sz)(k:∀j v,olds[j]?=Tc v->ze h (p.add j)=Tc v){news:List Value}(I:Arr N h src.a news)(F:news.length=src.len*sz)(f:(n+src.len)*bytes<=140737488355328)(A:n+src.len<=4611686018427387904) (h0:src.len=0->K (.slice (Tc p) n n) h) (C:∀(c:Nat) (h':zc) (l:Array Value),0<src.len->n+src.len<=c->Blk h' h.size l->l.toList.take (olds++news).length=olds++news->Keep h.size h h'->K (.slice (Tc ⟨h.size,0,Td⟩) (n+src.len) c) h'):
  xd P (YY #[t,t] ty #[.slice (Tc p) n n,.slice src.a src.len src.cap]) h K:=by
 intro B d;obtain⟨i,hi,D,r,s⟩:=T.info;have y:=T.slice;subst r s;by_cases x:src.len=0;refine⟨_,d,h,?_,h0 x⟩;rw[x];generalize src.a=q;cases q <;> simp[YY,run_underlying y,sizeOf,typeInfo,hi,Builtin.lenOf,zbk,loadCells,loadCellsFrom,storeCells];rcases I with m|⟨b,o,m,M,L⟩;subst m;have:=Nat.mul_pos (Nat.pos_of_ne_zero x) T.pos;grind;rw[m];have G:=run_append_grow (P:=P) (ty:=ty) (w:=mk B d h) t e i z y hi D p n n olds E (λj v J=>k j v J) ⟨b,o,Td⟩ src.len src.cap news F (λj u H=>by rw[zw];exact L j u H) (by omega) (by omega) (growslice_fits (by omega) f);refine⟨_,_,_,G,C _ _ (olds.toArray++news.toArray++zc8 z.cells (grownCap (mk B d h) (n+src.len) n e-(n+src.len))) (by omega) (grownCap_ge _ _ _ _) (Blk.new h _ e) ?_ (Keep.push _ _ (YM _))⟩;grind
theorem OW(ag:AgM M h){ks:List Bt}(H:Rd M (.row .str) ks [aK s]):Arr h.size h s.a (ks.map ZD):=by
 obtain⟨w,e,a,c,q,u,m⟩:=H;simp only[za4,and_true]at e;subst e;simp only[aK,ZU]at q;obtain⟨h1,_,_⟩:=q;rcases m with rfl|⟨b,o,cs,n,l,p⟩;exact .inl rfl;refine .inr ⟨b,o,by rw[h1,n],ag.lt l,λi v f=>?_⟩;rw[zai]at f;cases hk:ks[i]? with
 |none=>simp_all
 |some k=>
  rw[hk]at f;simp only[zc0,YL]at f;subst f;obtain⟨hi,e⟩:=ZH.1 hk;have:=p i hi;rw[e]at this;have r:cut cs (o+i) 1=[.string k]:=by have t:cut cs (o+i*sz .str) (sz .str)=[.string k]:=this;simpa[sz]using t
  exact nM ag l r
theorem vP(ag:AgM M g){p:Addr}{olds news:List Bt}(h0:Rd M (.row .str) olds [aK ⟨Tc p,n,n⟩])(s:Rd M (.row .str) news [aK src])(E:olds.length+news.length<=2000000) (r:∀(s':Sl) (g':zc) (M2:Fr),Later g M g' M2->Rd M2 (.row .str) (olds++news) [aK s']->K (aK s') g'):
  xd Tp (YY #[22,22] 22 #[.slice (Tc p) n n,aK src]) g K:=by
 have w:n=olds.length:=(rowLen h0).1;obtain⟨A,_,_⟩:=rowLen s;refine Lk Fq (olds:=olds.map ZD) (news:=news.map ZD) (N:=g.size) (by simp[sz,w]) (λj v m=>?_) (OW ag s) (by simp[sz,A]) (by omega) (by omega) (λF=>?_) λc g' f h1 C B t k=>?_;rw[zai]at m;cases e:olds[j]? with
 |none=>simp_all
 |some x=>rw[e]at m;obtain⟨h,rfl⟩:=ZH.1 e;cases m;obtain⟨b,o,cs,y,u,z⟩:=Go.X.rowAt h0 h;cases y;rw[zw];have:=nM ag u (v:=.string olds[j]) (o:=o+j*sz .str) z;simpa[sz]using this
 have:news=[]:=zaa (by omega);subst this;exact r ⟨Tc p,n,n⟩ g M (Later.refl ag) (by simp_all);refine r ⟨Tc ⟨g.size,0,Td⟩,n+src.len,c⟩ g' (MxL M g' [g.size]) (Later.own (Later.same ag k) λc C=>by grind) ⟨_,rfl,Tc ⟨g.size,0,Td⟩,c,?_,⟨by grind,by simp_all⟩,.inr ⟨g.size,0,f,rfl,MxL.at (by simp) B,λi hi=>?_⟩⟩;show zdh _ _ _=zdh _ _ _;simp_all;show cut f (0+i*1) 1=[.string (olds++news)[i]];refine lc rfl λq D=>?_;have l:q=0:=by omega
 subst l;have e:(f.toList.take (olds.map ZD++news.map ZD).length)[i]?=(olds.map ZD++news.map ZD)[i]?:=by rw[t]
 grind
theorem AT{xs:List (El t)}(h:Rd M (.row t) xs [aK s]):xs=[]\/∃b o cs,s.a=Tc ⟨b,o,Td⟩/\M b=Tc cs/\∀i (hi:i<xs.length),Rd M t xs[i] (cut cs (o+i*sz t) (sz t)):=by obtain⟨w,e,a,c,q,k,f⟩:=h;simp only[za4,and_true]at e;subst e;simp only[aK,ZU]at q;simp_all
theorem LP{xs:List (El t)}(h:Rd M (.row t) xs [aK s])(c:k<=xs.length):Rd M (.row t) (xs.take k) [aK ⟨s.a,k,k⟩]:=by
 obtain⟨h1,f,e⟩:=rowLen h;have b:(xs.take k).length=k:=by rw[za0];omega
 refine⟨_,rfl,s.a,k,?_,⟨by omega,by omega⟩,?_⟩;show zdh _ _ _=zdh _ _ _;rw[b];grind [AT]
theorem JW{xs:List (El t)}(h:Rd M (.row t) xs [aK s])(r:k<=xs.length):Rd M (.row t) (xs.drop k) [aK ⟨fF s.a (sz t) k s.cap,s.len-k,s.cap-k⟩]:=by
 obtain⟨h1,p,q⟩:=rowLen h;have c:(xs.drop k).length=s.len-k:=by rw[zab];omega
 refine⟨_,rfl,fF s.a (sz t) k s.cap,s.cap-k,?_,⟨by omega,by omega⟩,?_⟩;show zdh _ _ _=zdh _ _ _;rw[c];by_cases l:xs.drop k=[];grind;have n:=ZX.2 l;rcases AT h with e|⟨b,o,cs,f,m,u⟩;simp_all;refine .inr ⟨b,o+k*sz t,cs,?_,m,λi hi=>?_⟩;unfold fF;rw[za (by omega),f,zc0,qo];grind
theorem sB{M M2:Fr}{r o:Nat}{k:Int}{s:Bt}{sk si:Sl}(R:Blk g r #[.int .i64 0,.string ⟨#[]⟩,.slice Td 0 0,.slice Td 0 0])(O:Blk g o #[.int .i64 k,.string s,aK sk,aK si])(L:Later h M g M2)(u:h.size<=r)(t:M2 r=Td){w:Tr}(rd:RdV M2 .tree w (.agg #[.int .i64 k,.string s,aK sk,aK si])){Q:Tr->Prop}(x:Q w):
  ∃(n:Int) (f:Bt) (i c:Sl),zd g ⟨o,0,Td⟩ 0 [.int .i64 n,.string f,aK i,aK c]/\XRunU Tp (YN 25 (.pointer (Tc ⟨r,0,Td⟩)) (.agg #[.int .i64 n,.string f,aK i,aK c])) g λb=>
   ∃(e:Int) (p:Bt) (m l:Sl),zd b ⟨r,0,Td⟩ 0 [.int .i64 e,.string p,aK m,aK l]/\∃M2 q,Later h M b M2/\Yf M2 [.tree] q (.agg #[.int .i64 e,.string p,aK m,aK l])/\Q q:=
 ⟨k,s,sk,si,O.ld (cs:=[_,_,aK sk,aK si]),Yn R λA y z2 z=>⟨k,s,sk,si,z.ld (cs:=[_,_,aK sk,aK si]),M2,w,Later.stay L u t y z2,Yu.2 rd,x⟩⟩
theorem CZ(h:zn v=Ta)(b:v.kind=5\/v.kind=6):v.text=⟨#[]⟩:=by unfold zn at h;rcases b with k|k;simp[k]at h;exact ByteArray.ext h.1;simp[k]at h;exact ByteArray.ext h.2
theorem Gj(h:zn v=Ta)(b:v.kind≠6):v.keys=[]/\(v.kind≠5->v.items=[]):=by unfold zn at h;grind
set_option maxRecDepth 100000 in
set_option maxHeartbeats 4000000 in
theorem FV:∀(n:Nat) (v:Tr),n<=1000000->bK v<=n->Q4 zn v=Ta->∀(h:zc) (M:Fr) (u:Value),AgM M h->RdV M .tree v u->PX Tp 272 #[u] h M [.tree] (λq=>q=zu v)
 |0,v,_,hz,_=>by have:=Jc v;omega
 |n+1,v,hn,hz,hok=>by
  intro h M u ag hu;obtain⟨sk,si,rfl,rk,ri⟩:=ye hu;have s:=hok;rw[Yj,ZE]at s;have O:=s.1;have ca:v.items.length<=1000000:=by have:=Zo v.items;rw[Zu]at hz;omega
  have ih:∀(i:Nat) (hi:i<v.items.length) (h:zc) (M:Fr) (u:Value),AgM M h->RdV M .tree v.items[i] u->PX Tp 272 #[u] h M [.tree] (λq=>q=zu v.items[i]):=λi hi=>by
   have J:=YW hi;have hs:=q9 J;have a6:Q4 zn v.items[i]=Ta:=by rw[wo,ZJ]at s;exact s.2 _ J
   exact FV n v.items[i] (by omega) (by omega) a6
  obtain⟨li,_,_⟩:=rowLen ri;obtain⟨lk,_,_⟩:=rowLen rk;have bP:v.keys.length<=1000000:=by by_cases h6:v.kind=6;have:=(Hx O h6).2;omega;rw[(Gj O h6).1];simp
  apply PX.of;apply Rh v.kind v.text sk si;intro h1;obtain⟨k1,z1,B1⟩:=jo (g:=h1) rfl;clear_value h1;intro B;obtain⟨k2,z2,R2⟩:=jo (g:=B) rfl;clear_value B;have B2:=B1.ofKeep k2;refine⟨v.kind,B2.cellAdd (o:=0) (k:=0) rfl,v.text,B2.cellAdd (o:=0) (k:=1) rfl,?_⟩;intro h5;obtain⟨k5,z5,O5⟩:=jo (g:=h5) rfl;clear_value h5;refine Yn (sk:=⟨Td,0,0⟩) (si:=⟨Td,0,0⟩) O5 λh6 f6 z6 O6=>?_;have k6:Keep B.size B h6:=⟨by omega,λj I=>by rw[f6 j (by omega)];exact k5.get j I⟩;have bB:Keep h.size h h6:=(k1.trans k2 (by omega)).trans k6 (by omega);intro h7;obtain⟨k7,z7,_⟩:=jo (g:=h7) rfl;clear_value h7;have L7:Later h M h7 M:=Later.same ag (bB.trans k7 (by omega));have B7:=(B2.ofKeep k6).ofKeep k7;have R7:=(R2.ofKeep k6).ofKeep k7;have O7:=O6.ofKeep k7;refine⟨sk,B7.cellAdd (o:=0) (k:=2) rfl,?_⟩;refine vP L7.ag (olds:=[]) (news:=v.keys) (n:=0) (p:=⟨h6.size,0,Td⟩) ⟨_,rfl,_,_,rfl,⟨by simp,by simp⟩,.inl rfl⟩ rk (by simp;omega) λaP b M2 G aV=>?_;rw[zba]at aV;refine⟨aP,rfl,?_⟩;have bQ:=G.keep.size;have LL:=L7.trans G;have ab:=B7.keep (G.keep.get _ (by omega));have aM:=R7.keep (G.keep.get _ (by omega));have bj:=O7.keep (G.keep.get _ (by omega));have nO:M2 B.size=Td:=by rw[G.old _ (by omega)];exact ag.none (by omega)
  have nR:M2 h1.size=Td:=by rw[G.old _ (by omega)];exact ag.none (by omega)
  have V0:v.text=⟨#[]⟩->VbM b.size h M B.size v.kind ⟨Td,0,0⟩ ⟨Td,0,0⟩ b M2 [] [] ⟨Td,0,0⟩ ⟨Td,0,0⟩ [] []:=λet=>⟨LL,by simp_all,ORow.nil,ORow.nil,λc t=>(by cases t),by omega,by omega,YM _,nO⟩;by_cases C:v.kind=6;have et:=CZ O (.inr C);obtain⟨bM,bD⟩:=Hx O C;have hS:zu v=.mk v.kind v.text (wa v.keys) ((wa v.keys).map λq=>fY (v.keys.zip (v.items.map zu)) q):=by rw[Q6,zb C]
  refine⟨λleft g=>∃(L D:List Bt) (M':Fr) (zk H:Sl) (bk bi:List Nat),Rd M' (.row .str) L [aK left]/\VbM b.size h M B.size v.kind zk H g M' D (D.map λq=>fY (v.keys.zip (v.items.map zu)) q) zk H bk bi/\wa v.keys=D++wa L/\(∀q∈L,q∈v.keys)/\M' h1.size=Td/\(∀j,j<b.size->j≠B.size->g[j]?=b[j]?),λleft _=>left.len,⟨v.keys,[],M2,⟨Td,0,0⟩,⟨Td,0,0⟩,[],[],aV,V0 et,rfl,λq hq=>hq,nR,λ_ _ _=>rfl⟩,?_⟩;rintro left g ⟨L,D,M',zk,H,bk,bi,rL,V,eD,az,ai,fg⟩;have N:=V.L.ag;have br:=V.lg;obtain⟨lL,_,_⟩:=rowLen rL;have b8:D.length+L.length=v.keys.length:=by have:=congrArg zam eD;rw[vy,ZC,vy]at this;omega
  have Bg:=ab.keep (fg h.size (by omega) (by omega));have Rg:=aM.keep (fg h1.size (by omega) (by omega));refine⟨v.kind,Bg.cellAdd (o:=0) (k:=0) rfl,λt=>?_,λt=>?_⟩;have ay:0<L.length:=by have:=zB (o4.1 t).2;omega
  refine⟨λm i g'=>∃(e ii:Nat),m=(e:Int)/\i=(ii:Int)/\g'=g/\ii<=L.length/\∃J:e<L.length,∀j (I:j<L.length),j<ii->lb L[e]<=lb L[j],λ_ i _=>L.length-i.toNat,⟨0,1,rfl,rfl,rfl,ay,ay,λj I bY=>by simp_all⟩,?_⟩;rintro m i g' ⟨e,ii,rfl,rfl,rfl,b9,f,ax⟩;refine⟨λaG=>?_,λaG=>?_⟩;have hi:ii<L.length:=by have:=rX aG;omega
  obtain⟨a,ha,x,hx,ex⟩:=jt N rL hi (i:=(ii:Int)) rfl (L:=left.len) rfl (Q:=λx=>x=L[ii]) rfl;obtain⟨a',bN,y,hy,ey⟩:=jt N rL f (i:=(e:Int)) rfl (L:=left.len) rfl (Q:=λx=>x=L[e]) rfl;subst ex;subst ey;obtain⟨s1,s2⟩:=RN f hi ax;have hw:=qd hi (by omega);exact⟨a,ha,_,hx,a',bN,_,hy,λhl=>⟨⟨ii,ii+1,rfl,hw,rfl,hi,hi,s1 hl⟩,by simp;omega⟩,λhl=>⟨⟨e,ii+1,rfl,hw,rfl,hi,f,s2 hl⟩,by simp;omega⟩⟩;have bm:ii=L.length:=by have:=uz aG;omega
  subst bm;have es:=QS f λx hx=>by obtain⟨j,I,rfl⟩:=zbr.1 hx;exact ax j I I
  have hq:=az _ (YW f);obtain⟨am,bH,x,bq,ex⟩:=jt N rL f (i:=(e:Int)) rfl (L:=left.len) rfl (Q:=λx=>x=L[e]) rfl;subst ex;refine⟨zk,V.box.cellAdd (o:=0) (k:=2) rfl,am,bH,_,bq,?_⟩;have aF:=V.box.lt;intro aE;obtain⟨k29,b6,bA⟩:=jo (g:=aE) rfl;have aT:VbM b.size h M B.size v.kind zk H aE M' D (D.map λq=>fY (v.keys.zip (v.items.map zu)) q) zk H bk bi:=V.push _;clear_value aE;refine⟨by rw[zw];exact k29.get _ aF,?_⟩;refine aT.key (by omega) bA λap cb a1 a7 b7 bE=>⟨ap,rfl,?_⟩;refine a7.st2 λaY ah bT bL=>?_;have S:∀j,j<b.size->j≠B.size->aY[j]?=g'[j]?:=λj I h0=>by rw[bL j h0,bE j (by omega) λJ=>by have:=(aT.keys.own j J).1;omega];exact k29.get j (by omega)
  have aN:=Bg.keep (S h.size (by omega) (by omega));have aU:=Rg.keep (S h1.size (by omega) (by omega));have au:=ah.L.ag;obtain⟨bG,bF,x,be,ex⟩:=jt au rL f (i:=(e:Int)) rfl (L:=left.len) rfl (Q:=λx=>x=L[e]) rfl;subst ex;refine⟨H,ah.box.cellAdd (o:=0) (k:=3) rfl,si,aN.cellAdd (o:=0) (k:=3) rfl,v.kind,v.text,sk,si,aN.ld (cs:=[_,_,aK sk,aK si]),bG,bF,_,be,?_⟩;have aa:=ah.L.le;refine(NV (gl:=M') (v:=v) (key:=L[e]) (by omega) (R:=λr=>r=Lib.idxOfS v.keys L[e]) rfl).go (Fr.le.refl _) au (zm (a:=Arg.mk .tree v) (zj (rk.mono aa) (ri.mono aa)) (zm (a:=Arg.mk .str L[e]) (rdStr _) zz)) λw bU cc r P z hr=>?_;rw[i3 z,hr];obtain⟨j,j1,j2,e1,e2,_⟩:=x6 L[e] v.keys (v.items.map zu) (by rw[ZA];exact bD) hq;rw[ZA]at j2;have ej:Lib.idxOfS v.keys L[e]=(j:Int):=by rw[<-e1];exact Md bM j1
  rw[ej];have bZ:=P.keep.size;obtain⟨ba,ck,ci,ea,aB,t1,t2⟩:=Xt P.ag (ri.mono (aa.trans P.le)) j2;have U:=ah.box.lt;have ae:=P.keep;refine⟨(j:Int),rfl,ba,⟨ea,by omega,by omega⟩,by rw[zw];exact ae.get _ aN.lt,by rw[zw];exact ae.get _ U,v.items[j].kind,v.items[j].text,ck,ci,by rw[YO];exact aB,by rw[zw];exact ae.get _ U,?_⟩;refine(ih j j2 _ _ _ P.ag (zj t1 t2)).go λw bh aj q E z aL=>?_;subst aL;obtain⟨xk,xi,rfl,y1,y2⟩:=ye (Yu.1 z);have l:=P.trans E;have A:=l.keep.get _ U;have bI:=l.keep.size;refine⟨_,_,xk,xi,rfl,by rw[zw];exact A,?_⟩;intro F;obtain⟨Y,bo,aC⟩:=jo (g:=F) rfl;have af:VbM b.size h M B.size v.kind ap H F aj (D++[L[e]]) (D.map λq=>fY (v.keys.zip (v.items.map zu)) q) ap H a1 bi:=(ah.call l).push _;clear_value F;refine⟨by rw[zw];exact(Y.get B.size (by omega)).trans A,?_⟩;refine af.item (by rw[ZA];omega) aC (zj y1 y2) λZ bz aJ aH a8 aI=>⟨Z,rfl,?_⟩;refine aH.st3 λaQ an bn aO=>?_;have aS:∀j,j<b.size->j≠B.size->aQ[j]?=g'[j]?:=λj I h0=>by
   have bO:g'.size<=aY.size:=by omega
   rw[aO j h0,aI j (by omega) λJ=>by have:=(af.items.own j J).1;omega,Y.get j (by omega),l.keep.get j (by omega)];exact S j I h0
  have hw:=qd f (by omega);rw[hw];refine⟨.inr ⟨_,rfl⟩,⟨by omega,by omega,by omega,by omega⟩,.inl rfl,⟨by omega,by omega,by omega,by omega⟩,?_⟩;simp only[YO,Int.toNat_zero,zc7,Fu];have ar:Fr.le M' aj:=l.le;obtain⟨pb,po,bS,ep,_⟩:=Go.X.rowAt rL f;have rT:=LP (rL.mono ar) (k:=e) (by omega);have rD:=JW (rL.mono ar) (k:=e+1) f;rw[ep]at rT;rw[ep];rw[ep]at rD;have app:=λK=>vP (K:=K) an.L.ag rT rD (by rw[za0,zab];omega);refine app _ λbJ bV bC aA aZ=>⟨bJ,rfl,⟨L.eraseIdx e,D++[L[e]],bC,ap,Z,a1,aJ,?_,?_,?_,?_,?_,?_⟩,?_⟩;rw[<-Bw];exact aZ;have:=an.call aA;rw[ZZ,zae,List.map_nil,e2,zcb];exact this;rw[zbh,eD,es];rfl;exact λq hq=>az q (List.mem_of_mem_eraseIdx hq);rw[aA.old _ (by have:=aU.lt;omega),l.old _ aU.lt];exact ai;intro j I h0;rw[aA.keep.get j (by omega),aS j I h0];exact fg j I h0;have:=(rowLen aZ).1;rw[ZC,za0,zab]at this;omega;have hL:L=[]:=by rcases FD.1 t with h|h;simp_all;simp_all
  subst hL;rw[show wa []=[]from List.Perm.eq_nil (Q5 []),ZY]at eD;refine⟨λi g'=>i=0/\g'=g,λ_ _=>0,⟨rfl,rfl⟩,?_⟩;rintro i g' ⟨rfl,rfl⟩;refine⟨si,Bg.cellAdd (o:=0) (k:=3) rfl,v.kind,λ_=>Bg.cellAdd (o:=0) (k:=0) rfl,λt=>?_,λt=>?_⟩;have:=(o4.1 t).2;simp[C]at this;have bu:D.length<=1000000:=by omega
  obtain⟨Lf,rf⟩:=V.fin ⟨bu,by simp_all⟩;refine sB Rg V.box Lf (by omega) ?_ rf ?_;unfold MxL;rw[za λJ=>?_];exact ai;rcases ZG.1 J with h|h;have:=(V.keys.own _ h).1;omega;have:=(V.items.own _ h).1;omega;rw[hS,eD,et];refine⟨λleft g=>left=aP/\g=b,λ_ _=>0,⟨rfl,rfl⟩,?_⟩;rintro left g ⟨rfl,rfl⟩;refine⟨v.kind,ab.cellAdd (o:=0) (k:=0) rfl,λt=>?_,λ_=>?_⟩;have:=(o4.1 t).1;simp[C]at this;have hS:zu v=.mk v.kind v.text [] (v.items.map zu):=by rw[Q6,za C]
  by_cases h5:v.kind=5;have et:=CZ O (.inl h5);refine⟨λi g'=>∃(m:Nat) (M':Fr) (H:Sl) (bi:List Nat),i=(m:Int)/\m<=v.items.length/\VbM g.size h M B.size v.kind ⟨Td,0,0⟩ H g' M' [] ((v.items.take m).map zu) ⟨Td,0,0⟩ H [] bi/\M' h1.size=Td/\(∀j,j<g.size->j≠B.size->g'[j]?=g[j]?),λi _=>v.items.length-i.toNat,⟨0,M2,⟨Td,0,0⟩,[],rfl,ZN _,V0 et,nR,λ_ _ _=>rfl⟩,?_⟩;rintro i g' ⟨m,M',H,bi,rfl,J,V,ai,fg⟩;have br:=V.lg;have N:=V.L.ag;have Bg:=ab.keep (fg h.size (by omega) (by omega));have Rg:=aM.keep (fg h1.size (by omega) (by omega));refine⟨si,Bg.cellAdd (o:=0) (k:=3) rfl,v.kind,λ_=>Bg.cellAdd (o:=0) (k:=0) rfl,λt=>?_,λt=>?_⟩;have ak:m<v.items.length:=by have:=rX (o4.1 t).1;omega
  obtain⟨a,ck,ci,ea,aB,t1,t2⟩:=Xt N (ri.mono V.L.le) ak;have aF:=V.box.lt;refine⟨H,V.box.cellAdd (o:=0) (k:=3) rfl,si,Bg.cellAdd (o:=0) (k:=3) rfl,a,⟨ea,by omega,by omega⟩,v.items[m].kind,v.items[m].text,ck,ci,by rw[YO];exact aB,?_⟩;refine(ih m ak _ _ _ N (zj t1 t2)).go λw bh aj q E z aL=>?_;subst aL;obtain⟨xk,xi,rfl,y1,y2⟩:=ye (Yu.1 z);have A:=E.keep.get _ aF;have bI:=E.keep.size;refine⟨_,_,xk,xi,rfl,by rw[zw];exact A,?_⟩;intro F;obtain⟨Y,bo,aC⟩:=jo (g:=F) rfl;have af:VbM g.size h M B.size v.kind ⟨Td,0,0⟩ H F aj [] ((v.items.take m).map zu) ⟨Td,0,0⟩ H [] bi:=(V.call E).push _;clear_value F;refine⟨by rw[zw];exact(Y.get B.size (by omega)).trans A,?_⟩;refine af.item (by rw[ZA,za0];omega) aC (zj y1 y2) λZ bz aJ aH a8 aI=>⟨Z,rfl,?_⟩;have hw:=qd ak (by omega);refine aH.st3 λaQ an bn aO=>⟨⟨m+1,aj,Z,aJ,hw,ak,?_,?_,λj I h0=>?_⟩,by rw[hw];simp only[YO];omega⟩;rw[YP ak,ZZ];exact an;rw[E.old _ Rg.lt];exact ai;rw[aO j h0,aI j (by omega) λJ=>by have:=(af.items.own j J).1;omega,Y.get j (by omega),E.keep.get j (by omega)];exact fg j I h0;have bg:m=v.items.length:=by rcases FD.1 t with h|h;have:=uz h;omega;simp[h5]at h
  subst bg;rw[ZO]at V;obtain⟨Lf,rf⟩:=V.fin ⟨ZN _,by simp_all⟩;refine sB Rg V.box Lf (by omega) ?_ rf ?_;unfold MxL;rw[za λJ=>?_];exact ai;rcases ZG.1 J with h|h;cases h;have:=(V.items.own _ h).1;omega;rw[hS,et];have e0:=(Gj O C).2 h5;refine⟨λi g'=>i=0/\g'=g,λ_ _=>0,⟨rfl,rfl⟩,?_⟩;rintro i g' ⟨rfl,rfl⟩;refine⟨si,ab.cellAdd (o:=0) (k:=3) rfl,v.kind,λ_=>ab.cellAdd (o:=0) (k:=0) rfl,λt=>?_,λt=>?_⟩;have:=rX (o4.1 t).1;rw[li,e0]at this;exact absurd this (by decide);exact sB aM bj LL (by omega) nR (w:=.mk v.kind v.text [] []) (zj (v:=.mk v.kind v.text [] []) py py) (by rw[hS,e0];rfl)
end
end Go.X
end
section
namespace Go.X
section
theorem WE(h:zc)(R:Value->zc->Prop) (H:let a:=h.push (.cells #[.string (⟨#[]⟩:Bt),.string (⟨#[]⟩:Bt),.string (⟨#[]⟩:Bt),.string (⟨#[]⟩:Bt),.string (⟨#[]⟩:Bt),.string (⟨#[]⟩:Bt),.string (⟨#[]⟩:Bt),.string (⟨#[]⟩:Bt),.string (⟨#[]⟩:Bt),.string (⟨#[]⟩:Bt),.string (⟨#[]⟩:Bt),.string (⟨#[]⟩:Bt),.string (⟨#[]⟩:Bt)] 70);XRunU Tp (YN 70 (.pointer (Tc ⟨h.size,0,Td⟩)) (.agg #[.string (⟨#[116,121,112,101]⟩:Bt),.string (⟨#[101,110,117,109]⟩:Bt),.string (⟨#[108,101,97,115,116]⟩:Bt),.string (⟨#[109,111,115,116]⟩:Bt),.string (⟨#[115,104,111,114,116]⟩:Bt),.string (⟨#[108,111,110,103]⟩:Bt),.string (⟨#[110,101,101,100]⟩:Bt),.string (⟨#[99,108,111,115,101,100]⟩:Bt),.string (⟨#[105,116,101,109,115]⟩:Bt),.string (⟨#[109,101,109,98,101,114,115]⟩:Bt),.string (⟨#[97,108,108]⟩:Bt),.string (⟨#[97,110,121]⟩:Bt),.string (⟨#[110,111,116]⟩:Bt)])) a (λb=>∃c d e f g i j k l m n o p,zd b ⟨h.size,0,Td⟩ 0 [.string c,.string d,.string e,.string f,.string g,.string i,.string j,.string k,.string l,.string m,.string n,.string o,.string p]/\R (.agg #[.string c,.string d,.string e,.string f,.string g,.string i,.string j,.string k,.string l,.string m,.string n,.string o,.string p]) b)):
  XC Tp 55 #[] h R:=
 XF ⟨[],[],[]⟩ [.cell 0 70] 2 Tryz.func55 H
theorem Xl(k:Option Addr)(i:Bt)(h:zc)(R:Value->zc->Prop) (H:((i.toList==(⟨#[116,121,112,101]⟩:Bt).toList)=Ta->R (.func (.func 151) #[.pointer k] #[]) h)/\((i.toList==(⟨#[116,121,112,101]⟩:Bt).toList)=Tb->((i.toList==(⟨#[101,110,117,109]⟩:Bt).toList)=Ta->R (.func (.func 152) #[.pointer k] #[]) h)/\((i.toList==(⟨#[101,110,117,109]⟩:Bt).toList)=Tb->∀a:Bool->zc->Prop,(∀b:Bool,∀c:zc,((b=Ta->R (.func (.func 153) #[.pointer k] #[]) c)/\(b=Tb->∀d:Bool->zc->Prop,(∀e:Bool,∀f:zc,((e=Ta->R (.func (.func 154) #[.pointer k] #[]) f)/\(e=Tb->((i.toList==(⟨#[110,101,101,100]⟩:Bt).toList)=Ta->R (.func (.func 155) #[.pointer k] #[]) f)/\((i.toList==(⟨#[110,101,101,100]⟩:Bt).toList)=Tb->((i.toList==(⟨#[99,108,111,115,101,100]⟩:Bt).toList)=Ta->R (.func (.func 156) #[.pointer k] #[]) f)/\((i.toList==(⟨#[99,108,111,115,101,100]⟩:Bt).toList)=Tb->((i.toList==(⟨#[105,116,101,109,115]⟩:Bt).toList)=Ta->R (.func (.func 157) #[.pointer k] #[]) f)/\((i.toList==(⟨#[105,116,101,109,115]⟩:Bt).toList)=Tb->((i.toList==(⟨#[109,101,109,98,101,114,115]⟩:Bt).toList)=Ta->R (.func (.func 158) #[.pointer k] #[]) f)/\((i.toList==(⟨#[109,101,109,98,101,114,115]⟩:Bt).toList)=Tb->((i.toList==(⟨#[97,108,108]⟩:Bt).toList)=Ta->R (.func (.func 159) #[.pointer k] #[]) f)/\((i.toList==(⟨#[97,108,108]⟩:Bt).toList)=Tb->((i.toList==(⟨#[97,110,121]⟩:Bt).toList)=Ta->R (.func (.func 160) #[.pointer k] #[]) f)/\((i.toList==(⟨#[97,110,121]⟩:Bt).toList)=Tb->R (.func (.func 161) #[.pointer k] #[]) f))))))))->d e f)->((i.toList==(⟨#[115,104,111,114,116]⟩:Bt).toList)=Ta->d (i.toList==(⟨#[115,104,111,114,116]⟩:Bt).toList) c)/\((i.toList==(⟨#[115,104,111,114,116]⟩:Bt).toList)=Tb->d (i.toList==(⟨#[108,111,110,103]⟩:Bt).toList) c)))->a b c)->((i.toList==(⟨#[108,101,97,115,116]⟩:Bt).toList)=Ta->a (i.toList==(⟨#[108,101,97,115,116]⟩:Bt).toList) h)/\((i.toList==(⟨#[108,101,97,115,116]⟩:Bt).toList)=Tb->a (i.toList==(⟨#[109,111,115,116]⟩:Bt).toList) h)))):
  XC Tp 91 #[.pointer k,.string i] h R:=
 XF ⟨[],[],[(8,[(14,.one (.bool))]),(11,[(19,.one (.bool))])]⟩ [.tmp 4] 50 Tryz.func91 H
theorem X9(q:Option Addr)(p:Bt)(b:Int)(c:Bt)(d:Sl)(e:Sl)(h:zc)(R:Value->zc->Prop) (H:let f:=h.push (.cells #[iV b,.string c,aK d,aK e] 25);∃g,q=Tc g/\∃i,ze f (YK (YK g 4) 0)=Tc (iV i)/\∃j,ze f (YK ⟨h.size,0,Td⟩ 1)=Tc (.string j)/\XC Tp 166 #[.string j] f (λk l=>∃m,k=iV m/\(l)[((YK (YK g 4) 0):Addr).block]?=(f)[((YK (YK g 4) 0):Addr).block]?/\XC Tp 218 #[.pointer q,.string p,.bool (i==m)] l (λn o=>n=.tuple #[]/\R (.tuple #[]) o))):
  XC Tp 151 #[.pointer q,.string p,.agg #[.int .i64 b,.string c,.slice d.a d.len d.cap,.slice e.a e.len e.cap]] h R:=
 XF ⟨[(1,8000)],[],[]⟩ [] 18 Tryz.func151 H
theorem TQ(q:Option Addr)(p:Bt)(b:Int)(c:Bt)(d:Sl)(e:Sl)(h:zc)(R:Value->zc->Prop) (H:let f:=h.push (.cells #[.pointer q] 118);let g:=f.push (.cells #[iV b,.string c,aK d,aK e] 25);∃i:Option Addr,ze g ⟨h.size,0,Td⟩=Tc (.pointer i)/\∃j,ze g (YK ⟨f.size,0,Td⟩ 3)=Tc (aK j)/\(g)[((YK ⟨f.size,0,Td⟩ 3):Addr).block]?=(g)[((YK ⟨f.size,0,Td⟩ 3):Addr).block]?/\(g)[(⟨h.size,0,Td⟩:Addr).block]?=(g)[(⟨h.size,0,Td⟩:Addr).block]?/\XC Tp 99 #[aK j,.func (.func 219) #[] #[.pointer (Tc ⟨h.size,0,Td⟩)]] g (λk l=>∃m,k=.bool m/\(l)[(⟨h.size,0,Td⟩:Addr).block]?=(g)[(⟨h.size,0,Td⟩:Addr).block]?/\XC Tp 218 #[.pointer i,.string p,.bool m] l (λn o=>n=.tuple #[]/\R (.tuple #[]) o))):
  XC Tp 152 #[.pointer q,.string p,.agg #[.int .i64 b,.string c,.slice d.a d.len d.cap,.slice e.a e.len e.cap]] h R:=
 XF ⟨[(1,8000)],[],[]⟩ [] 13 Tryz.func152 H
theorem Xm(B:Option Addr)(A:Bt)(b:Int)(c:Bt)(d:Sl)(e:Sl)(h:zc)(R:Value->zc->Prop) (H:let f:=h.push (.cells #[iV b,.string c,aK d,aK e] 25);∃g,B=Tc g/\∃i j k l,zd f (YK g 4) 0 (tL i j k l)/\∃m n o p,zd f ⟨h.size,0,Td⟩ 0 (tL m n o p)/\XC Tp 197 #[tA i j k l,tA m n o p] f (λq r=>∃s,q=iV s/\∀t:Int->zc->Prop,(∀u:Int,∀v:zc,(∃w,B=Tc w/\∃x,ze v (YK (YK w 4) 0)=Tc (iV x)/\XC Tp 218 #[.pointer B,.string A,.bool (bif (x != 3)then Ta else(decide (u>=0)))] v (λy z=>y=.tuple #[]/\R (.tuple #[]) z))->t u v)->((A.toList==(⟨#[109,111,115,116]⟩:Bt).toList)=Ta->t (YJ .i64 (0-s)) r)/\((A.toList==(⟨#[109,111,115,116]⟩:Bt).toList)=Tb->t s r))):
  XC Tp 153 #[.pointer B,.string A,.agg #[.int .i64 b,.string c,.slice d.a d.len d.cap,.slice e.a e.len e.cap]] h R:=
 XF ⟨[(1,8000)],[],[(4,[(6,.one (.int .i64))])]⟩ [] 30 Tryz.func153 H
theorem Wa(B:Option Addr)(A:Bt)(b:Int)(c:Bt)(d:Sl)(e:Sl)(h:zc)(R:Value->zc->Prop) (H:let f:=h.push (.cells #[iV b,.string c,aK d,aK e] 25);∃g i j k,zd f ⟨h.size,0,Td⟩ 0 (tL g i j k)/\XC Tp 167 #[tA g i j k] f (λl m=>∃n o,l=.tuple #[iV n,.bool o]/\∃p,B=Tc p/\∃q r s t,zd m (YK p 4) 0 (tL q r s t)/\XC Tp 220 #[tA q r s t] m (λu v=>∃w x,u=.tuple #[iV w,.bool x]/\XC Tp 218 #[.pointer B,.string A,.bool (bif (bif (!x)then Ta else(w==n))then Ta else(decide (w>n)==(A.toList==(⟨#[115,104,111,114,116]⟩:Bt).toList)))] v (λy z=>y=.tuple #[]/\R (.tuple #[]) z)))):
  XC Tp 154 #[.pointer B,.string A,.agg #[.int .i64 b,.string c,.slice d.a d.len d.cap,.slice e.a e.len e.cap]] h R:=
 XF ⟨[],[],[]⟩ [] 41 Tryz.func154 H
theorem LS(G:Option Addr)(F:Bt)(b:Int)(c:Bt)(d:Sl)(e:Sl)(h:zc)(R:Value->zc->Prop) (H:let f:=h.push (.cells #[iV b,.string c,aK d,aK e] 25);∃g,G=Tc g/\∃i,ze f (YK (YK g 4) 0)=Tc (iV i)/\((i != 6)=Ta->R (.tuple #[]) f)/\((i != 6)=Tb->∃j,ze f (YK ⟨h.size,0,Td⟩ 3)=Tc (aK j)/\∃(k:Int->zc->Prop) (l:Int->zc->Nat),k 0 f/\∀m:Int,∀n:zc,k m n->((decide (m<j.len)=Ta->∃o,(j.a=Tc o/\0<=m/\m<j.len)/\∃p q r s,zd n (o.add (m.toNat*4)) 0 (tL p q r s)/\let t:=n.push (.cells tC 25);XRunU Tp (YN 25 (.pointer (Tc ⟨n.size,0,Td⟩)) (tA p q r s)) t (λu=>∃v,G=Tc v/\∃w,ze u (YK (YK v 4) 2)=Tc (aK w)/\∃x,ze u (YK ⟨n.size,0,Td⟩ 1)=Tc (.string x)/\XC Tp 56 #[aK w,.string x] u (λy z=>∃A,y=.bool A/\((!A)=Ta->∃B,ze z (YK ⟨n.size,0,Td⟩ 1)=Tc (.string B)/\let C:=z.push (.cells #[.string B] 9);XC Tp 221 #[.pointer G,.string F,.slice (Tc ⟨z.size,0,Td⟩) 1 1] C (λD E=>D=.tuple #[]/\(k (YJ .i64 (m+1)) E/\l (YJ .i64 (m+1)) E<l m n)))/\((!A)=Tb->(k (YJ .i64 (m+1)) z/\l (YJ .i64 (m+1)) z<l m n)))))/\(decide (m<j.len)=Tb->R (.tuple #[]) n)))):
  XC Tp 155 #[.pointer G,.string F,.agg #[.int .i64 b,.string c,.slice d.a d.len d.cap,.slice e.a e.len e.cap]] h R:=
 XF ⟨[(5,8000)],[(3,[(17,.one (.int .i64))])],[]⟩ [] 37 Tryz.func155 H
theorem Wb(Y:Option Addr)(V:Bt)(b:Int)(c:Bt)(d:Sl)(e:Sl)(h:zc)(R:Value->zc->Prop) (H:let f:=h.push (.cells #[iV b,.string c,aK d,aK e] 25);∃g,Y=Tc g/\∃i j k l,zd f (YK g 0) 0 (tL i j k l)/\XC Tp 90 #[tA i j k l,.string (⟨#[109,101,109,98,101,114,115]⟩:Bt)] f (λm n=>∃o p q r s,m=.tuple #[tA o p q r,.bool s]/\let t:=n.push (.cells tC 25);XRunU Tp (YN 25 (.pointer (Tc ⟨n.size,0,Td⟩)) (tA o p q r)) t (λu=>∃v,Y=Tc v/\∃w,ze u (YK (YK v 4) 2)=Tc (aK w)/\∃(x:Int->zc->Prop) (y:Int->zc->Nat),x 0 u/\∀z:Int,∀A:zc,x z A->((decide (z<w.len)=Ta->∃B,(w.a=Tc B/\0<=z/\z<w.len)/\∃C,ze A (B.add (z.toNat*1))=Tc (.string C)/\∃D,ze A (YK ⟨h.size,0,Td⟩ 1)=Tc (.string D)/\∃E,((D.toList==(⟨#[116,114,117,101]⟩:Bt).toList)=Ta->ze A (YK ⟨n.size,0,Td⟩ 2)=Tc (aK E))/\∃F:Value->zc->Prop,((D.toList==(⟨#[116,114,117,101]⟩:Bt).toList)=Ta->XC Tp 56 #[aK E,.string C] A (λG I=>∃J,G=.bool J/\F (.bool J) I))/\((D.toList==(⟨#[116,114,117,101]⟩:Bt).toList)=Tb->∃L,F (.bool L) A)/\((D.toList==(⟨#[116,114,117,101]⟩:Bt).toList)=Ta->∀M N,F M N->∃O,M=.bool O)/\∀P:Bool,∀Q,F (.bool P) Q->((bif (D.toList==(⟨#[116,114,117,101]⟩:Bt).toList)then(!P)else Tb)=Ta->let S:=Q.push (.cells #[.string C] 9);XC Tp 221 #[.pointer Y,.string V,.slice (Tc ⟨Q.size,0,Td⟩) 1 1] S (λT U=>T=.tuple #[]/\(x (YJ .i64 (z+1)) U/\y (YJ .i64 (z+1)) U<y z A)))/\((bif (D.toList==(⟨#[116,114,117,101]⟩:Bt).toList)then(!P)else Tb)=Tb->(x (YJ .i64 (z+1)) Q/\y (YJ .i64 (z+1)) Q<y z A)))/\(decide (z<w.len)=Tb->R (.tuple #[]) A))))):
  XC Tp 156 #[.pointer Y,.string V,.agg #[.int .i64 b,.string c,.slice d.a d.len d.cap,.slice e.a e.len e.cap]] h R:=
 XF ⟨[],[(3,[(24,.one (.int .i64))])],[]⟩ [] 44 Tryz.func156 H
theorem Xn(M:Option Addr)(N:Bt)(b:Int)(c:Bt)(d:Sl)(e:Sl)(h:zc)(R:Value->zc->Prop) (H:let f:=h.push (.cells #[iV b,.string c,aK d,aK e] 25);∃g,M=Tc g/\∃i,ze f (YK (YK g 4) 0)=Tc (iV i)/\((i != 5)=Ta->R (.tuple #[]) f)/\((i != 5)=Tb->∃j,M=Tc j/\∃k,ze f (YK (YK j 4) 3)=Tc (aK k)/\∃(l:Int->zc->Prop) (m:Int->zc->Nat),l 0 f/\∀n:Int,∀o:zc,l n o->((decide (n<k.len)=Ta->∃p,(k.a=Tc p/\0<=n/\n<k.len)/\∃q r s t,zd o (p.add (n.toNat*4)) 0 (tL q r s t)/\let u:=o.push (.cells tC 25);XRunU Tp (YN 25 (.pointer (Tc ⟨o.size,0,Td⟩)) (tA q r s t)) u (λv=>∃w x y z,zd v ⟨h.size,0,Td⟩ 0 (tL w x y z)/\∃A B C D,zd v ⟨o.size,0,Td⟩ 0 (tL A B C D)/\XC Tp 106 #[iV n] v (λE F=>∃G,E=.string G/\(F)[(⟨o.size,0,Td⟩:Addr).block]?=(v)[(⟨o.size,0,Td⟩:Addr).block]?/\(F)[(⟨h.size,0,Td⟩:Addr).block]?=(v)[(⟨h.size,0,Td⟩:Addr).block]?/\let I:=F.push (.cells #[.string G] 9);(I)[(⟨o.size,0,Td⟩:Addr).block]?=(v)[(⟨o.size,0,Td⟩:Addr).block]?/\(I)[(⟨h.size,0,Td⟩:Addr).block]?=(v)[(⟨h.size,0,Td⟩:Addr).block]?/\XC Tp 222 #[.pointer M,tA w x y z,tA A B C D,.slice (Tc ⟨F.size,0,Td⟩) 1 1] I (λJ L=>J=.tuple #[]/\(l (YJ .i64 (n+1)) L/\m (YJ .i64 (n+1)) L<m n o)))))/\(decide (n<k.len)=Tb->R (.tuple #[]) o)))):
  XC Tp 157 #[.pointer M,.string N,.agg #[.int .i64 b,.string c,.slice d.a d.len d.cap,.slice e.a e.len e.cap]] h R:=
 XF ⟨[(5,8000)],[(3,[(20,.one (.int .i64))])],[]⟩ [] 33 Tryz.func157 H
theorem Je(U:Option Addr)(V:Bt)(b:Int)(c:Bt)(d:Sl)(e:Sl)(h:zc)(R:Value->zc->Prop) (H:let f:=h.push (.cells #[iV b,.string c,aK d,aK e] 25);∃g,U=Tc g/\∃i,ze f (YK (YK g 4) 2)=Tc (aK i)/\∃(j:Int->zc->Prop) (k:Int->zc->Nat),j 0 f/\∀l:Int,∀m:zc,j l m->((decide (l<i.len)=Ta->∃n,(i.a=Tc n/\0<=l/\l<i.len)/\∃o,ze m (n.add (l.toNat*1))=Tc (.string o)/\∃p q r s,zd m ⟨h.size,0,Td⟩ 0 (tL p q r s)/\XC Tp 90 #[tA p q r s,.string o] m (λt u=>∃v w x y z,t=.tuple #[tA v w x y,.bool z]/\let A:=u.push (.cells tC 25);XRunU Tp (YN 25 (.pointer (Tc ⟨u.size,0,Td⟩)) (tA v w x y)) A (λB=>(z=Ta->∃C D E F,zd B ⟨u.size,0,Td⟩ 0 (tL C D E F)/\∃G,U=Tc G/\∃I,ze B (YK (YK G 4) 3)=Tc (aK I)/\∃J,(I.a=Tc J/\0<=l/\l<I.len)/\∃L M N O,zd B (J.add (l.toNat*4)) 0 (tL L M N O)/\let P:=B.push (.cells #[.string o] 9);(P)[((J.add (l.toNat*4)):Addr).block]?=(B)[((J.add (l.toNat*4)):Addr).block]?/\(P)[((YK (YK G 4) 3):Addr).block]?=(B)[((YK (YK G 4) 3):Addr).block]?/\(P)[(⟨u.size,0,Td⟩:Addr).block]?=(B)[(⟨u.size,0,Td⟩:Addr).block]?/\XC Tp 222 #[.pointer U,tA C D E F,tA L M N O,.slice (Tc ⟨B.size,0,Td⟩) 1 1] P (λQ S=>Q=.tuple #[]/\(j (YJ .i64 (l+1)) S/\k (YJ .i64 (l+1)) S<k l m)))/\(z=Tb->(j (YJ .i64 (l+1)) B/\k (YJ .i64 (l+1)) B<k l m)))))/\(decide (l<i.len)=Tb->R (.tuple #[]) m))):
  XC Tp 158 #[.pointer U,.string V,.agg #[.int .i64 b,.string c,.slice d.a d.len d.cap,.slice e.a e.len e.cap]] h R:=
 XF ⟨[(6,8000)],[(2,[(16,.one (.int .i64))])],[]⟩ [] 42 Tryz.func158 H
theorem VI(E:Option Addr)(F:Bt)(b:Int)(c:Bt)(d:Sl)(e:Sl)(h:zc)(R:Value->zc->Prop) (H:let f:=h.push (.cells #[iV b,.string c,aK d,aK e] 25);∃g,ze f (YK ⟨h.size,0,Td⟩ 3)=Tc (aK g)/\∃(i:Int->zc->Prop) (j:Int->zc->Nat),i 0 f/\∀k:Int,∀l:zc,i k l->((decide (k<g.len)=Ta->∃m,(g.a=Tc m/\0<=k/\k<g.len)/\∃n o p q,zd l (m.add (k.toNat*4)) 0 (tL n o p q)/\let r:=l.push (.cells tC 25);XRunU Tp (YN 25 (.pointer (Tc ⟨l.size,0,Td⟩)) (tA n o p q)) r (λs=>∃t u v w,zd s ⟨l.size,0,Td⟩ 0 (tL t u v w)/\∃x,E=Tc x/\∃y z A B,zd s (YK x 4) 0 (tL y z A B)/\XC Tp 222 #[.pointer E,tA t u v w,tA y z A B,.slice Td 0 0] s (λC D=>C=.tuple #[]/\(i (YJ .i64 (k+1)) D/\j (YJ .i64 (k+1)) D<j k l))))/\(decide (k<g.len)=Tb->R (.tuple #[]) l))):
  XC Tp 159 #[.pointer E,.string F,.agg #[.int .i64 b,.string c,.slice d.a d.len d.cap,.slice e.a e.len e.cap]] h R:=
 XF ⟨[(4,8000)],[(2,[(11,.one (.int .i64))])],[]⟩ [] 23 Tryz.func159 H
theorem TR(q:Option Addr)(p:Bt)(b:Int)(c:Bt)(d:Sl)(e:Sl)(h:zc)(R:Value->zc->Prop) (H:let f:=h.push (.cells #[.pointer q] 118);let g:=f.push (.cells #[iV b,.string c,aK d,aK e] 25);∃i:Option Addr,ze g ⟨h.size,0,Td⟩=Tc (.pointer i)/\∃j,ze g (YK ⟨f.size,0,Td⟩ 3)=Tc (aK j)/\(g)[((YK ⟨f.size,0,Td⟩ 3):Addr).block]?=(g)[((YK ⟨f.size,0,Td⟩ 3):Addr).block]?/\(g)[(⟨h.size,0,Td⟩:Addr).block]?=(g)[(⟨h.size,0,Td⟩:Addr).block]?/\XC Tp 99 #[aK j,.func (.func 223) #[] #[.pointer (Tc ⟨h.size,0,Td⟩)]] g (λk l=>∃m,k=.bool m/\(l)[(⟨h.size,0,Td⟩:Addr).block]?=(g)[(⟨h.size,0,Td⟩:Addr).block]?/\XC Tp 218 #[.pointer i,.string p,.bool m] l (λn o=>n=.tuple #[]/\R (.tuple #[]) o))):
  XC Tp 160 #[.pointer q,.string p,.agg #[.int .i64 b,.string c,.slice d.a d.len d.cap,.slice e.a e.len e.cap]] h R:=
 XF ⟨[(1,8000)],[],[]⟩ [] 13 Tryz.func160 H
theorem Tg(x:Option Addr)(w:Bt)(b:Int)(c:Bt)(d:Sl)(e:Sl)(h:zc)(R:Value->zc->Prop) (H:let f:=h.push (.cells #[iV b,.string c,aK d,aK e] 25);∃g i j k,zd f ⟨h.size,0,Td⟩ 0 (tL g i j k)/\∃l,x=Tc l/\∃m n o p,zd f (YK l 4) 0 (tL m n o p)/\XC Tp 49 #[tA g i j k,tA m n o p,.slice Td 0 0] f (λq r=>∃s,q=aK s/\XC Tp 218 #[.pointer x,.string w,.bool (decide ((s.len:Int)>0))] r (λt u=>t=.tuple #[]/\R (.tuple #[]) u))):
  XC Tp 161 #[.pointer x,.string w,.agg #[.int .i64 b,.string c,.slice d.a d.len d.cap,.slice e.a e.len e.cap]] h R:=
 XF ⟨[(1,8000)],[],[]⟩ [] 17 Tryz.func161 H
theorem LQ(s:Bt)(h:zc)(R:Value->zc->Prop) (H:XC Tp 228 #[] h (λa b=>∃c d e f g i j,a=.agg #[.string c,.string d,.string e,.string f,.string g,.string i,.string j]/\let k:=b.push (.cells #[.string (⟨#[]⟩:Bt),.string (⟨#[]⟩:Bt),.string (⟨#[]⟩:Bt),.string (⟨#[]⟩:Bt),.string (⟨#[]⟩:Bt),.string (⟨#[]⟩:Bt),.string (⟨#[]⟩:Bt)] 224);XRunU Tp (YN 224 (.pointer (Tc ⟨b.size,0,Td⟩)) (.agg #[.string c,.string d,.string e,.string f,.string g,.string i,.string j])) k (λl=>∃(m:Int->zc->Prop) (n:Int->zc->Nat),m 0 l/\∀o:Int,∀p:zc,m o p->((decide (o<7)=Ta->∃q,(decide (o>0)=Ta->(Tc (⟨b.size,0,Td⟩:Addr)=Tc q/\0<=o/\o<((7:Nat):Int)))/\∃r,(decide (o>0)=Ta->ze p (q.add (o.toNat*1))=Tc (.string r))/\((bif (decide (o>0))then(r.toList==s.toList)else Tb)=Ta->R (iV o) p)/\((bif (decide (o>0))then(r.toList==s.toList)else Tb)=Tb->(m (YJ .i64 (o+1)) p/\n (YJ .i64 (o+1)) p<n o p)))/\(decide (o<7)=Tb->R (iV 0) p))))):
  XC Tp 166 #[.string s] h R:=
 XF ⟨[],[(3,[(6,.one (.int .i64))])],[]⟩ [.tmp 2] 20 Tryz.func166 H
theorem Mc(b:Int)(c:Bt)(d:Sl)(e:Sl)(h:zc)(R:Value->zc->Prop) (H:let f:=h.push (.cells #[iV b,.string c,aK d,aK e] 25);∃g,ze f (YK ⟨h.size,0,Td⟩ 3)=Tc (aK g)/\XC Tp 99 #[aK g,.func (.func 229) #[] #[]] f (λi j=>∃k,i=.bool k/\R (.bool (!k)) j)):
  XC Tp 168 #[.agg #[.int .i64 b,.string c,.slice d.a d.len d.cap,.slice e.a e.len e.cap]] h R:=
 XF ⟨[],[],[]⟩ [.tmp 2] 7 Tryz.func168 H
theorem SN(b:Int)(c:Bt)(d:Sl)(e:Sl)(h:zc)(R:Value->zc->Prop) (H:let f:=h.push (.cells #[iV b,.string c,aK d,aK e] 25);∃g,ze f (YK ⟨h.size,0,Td⟩ 3)=Tc (aK g)/\XC Tp 99 #[aK g,.func (.func 230) #[] #[]] f (λi j=>∃k,i=.bool k/\R (.bool (!k)) j)):
  XC Tp 169 #[.agg #[.int .i64 b,.string c,.slice d.a d.len d.cap,.slice e.a e.len e.cap]] h R:=
 XF ⟨[],[],[]⟩ [.tmp 2] 7 Tryz.func169 H
theorem U9(f:Option Addr)(c:Bt)(e:Bool)(h:zc)(R:Value->zc->Prop) (H:((!e)=Ta->XC Tp 221 #[.pointer f,.string c,.slice Td 0 0] h (λa b=>a=.tuple #[]/\R (.tuple #[]) b))/\((!e)=Tb->R (.tuple #[]) h)):
  XC Tp 218 #[.pointer f,.string c,.bool e] h R:=
 XF ⟨[],[],[]⟩ [] 11 Tryz.func218 H
theorem Wc(b:Int)(c:Bt)(d:Sl)(e:Sl)(c1:Addr)(h:zc)(R:Value->zc->Prop) (H:let f:=h.push (.cells #[iV b,.string c,aK d,aK e] 25);∃g i j k,zd f ⟨h.size,0,Td⟩ 0 (tL g i j k)/\∃l:Option Addr,ze f c1=Tc (.pointer l)/\∃m,l=Tc m/\∃n o p q,zd f (YK m 4) 0 (tL n o p q)/\XC Tp 198 #[tA g i j k,tA n o p q] f (λr s=>∃t,r=.bool t/\R (.bool t) s)):
  XC Tp 219 #[.agg #[.int .i64 b,.string c,.slice d.a d.len d.cap,.slice e.a e.len e.cap],.pointer (Tc c1)] h R:=
 XF ⟨[(1,8000)],[],[]⟩ [.tmp 3] 10 Tryz.func219 H
theorem WM(s:Option Addr)(r:Bt)(q:Sl)(h:zc)(R:Value->zc->Prop) (H:∃b,s=Tc b/\∃c,ze h (YK b 9)=Tc (aK c)/\∃d,s=Tc d/\∃e,ze h (YK d 8)=Tc (aK e)/\let f:=h.push (.cells #[aK e,aK q] 22);(f)[((YK b 9):Addr).block]?=(h)[((YK b 9):Addr).block]?/\XC Tp 277 #[.slice (Tc ⟨h.size,0,Td⟩) 2 2] f (λg i=>∃j,g=aK j/\(i)[((YK b 9):Addr).block]?=(h)[((YK b 9):Addr).block]?/\(i)[((YK b 9):Addr).block]?=(h)[((YK b 9):Addr).block]?/\let k:=i.push (.cells #[aK j,.string r] 35);(k)[((YK b 9):Addr).block]?=(h)[((YK b 9):Addr).block]?/\xd Tp (YY #[29,29] 29 #[aK c,.slice (Tc ⟨i.size,0,Td⟩) 1 1]) k (λl m=>∃n,l=aK n/\∃o,s=Tc o/\XRunU Tp (YN 29 (.pointer (Tc (YK o 9))) (aK n)) m (λp=>R (.tuple #[]) p)))):
  XC Tp 221 #[.pointer s,.string r,.slice q.a q.len q.cap] h R:=
 XF ⟨[(0,8000)],[],[]⟩ [] 24 Tryz.func221 H
theorem Jf(N:Option Addr)(b:Int)(c:Bt)(d:Sl)(e:Sl)(f:Int)(g:Bt)(i:Sl)(j:Sl)(M:Sl)(h:zc)(R:Value->zc->Prop) (H:let k:=h.push (.cells #[iV b,.string c,aK d,aK e] 25);let l:=k.push (.cells #[iV f,.string g,aK i,aK j] 25);∃m,N=Tc m/\∃n,ze l (YK m 9)=Tc (aK n)/\∃o p q r,zd l ⟨h.size,0,Td⟩ 0 (tL o p q r)/\∃s t u v,zd l ⟨k.size,0,Td⟩ 0 (tL s t u v)/\∃w,N=Tc w/\∃x,ze l (YK w 8)=Tc (aK x)/\let y:=l.push (.cells #[aK x,aK M] 22);(y)[(⟨k.size,0,Td⟩:Addr).block]?=(l)[(⟨k.size,0,Td⟩:Addr).block]?/\(y)[(⟨h.size,0,Td⟩:Addr).block]?=(l)[(⟨h.size,0,Td⟩:Addr).block]?/\(y)[((YK m 9):Addr).block]?=(l)[((YK m 9):Addr).block]?/\XC Tp 277 #[.slice (Tc ⟨l.size,0,Td⟩) 2 2] y (λz A=>∃B,z=aK B/\(A)[(⟨k.size,0,Td⟩:Addr).block]?=(l)[(⟨k.size,0,Td⟩:Addr).block]?/\(A)[(⟨h.size,0,Td⟩:Addr).block]?=(l)[(⟨h.size,0,Td⟩:Addr).block]?/\(A)[((YK m 9):Addr).block]?=(l)[((YK m 9):Addr).block]?/\XC Tp 49 #[tA o p q r,tA s t u v,aK B] A (λC D=>∃E,C=aK E/\(D)[((YK m 9):Addr).block]?=(l)[((YK m 9):Addr).block]?/\xd Tp (YY #[29,29] 29 #[aK n,aK E]) D (λF G=>∃I,F=aK I/\∃J,N=Tc J/\XRunU Tp (YN 29 (.pointer (Tc (YK J 9))) (aK I)) G (λL=>R (.tuple #[]) L))))):
  XC Tp 222 #[.pointer N,.agg #[.int .i64 b,.string c,.slice d.a d.len d.cap,.slice e.a e.len e.cap],.agg #[.int .i64 f,.string g,.slice i.a i.len i.cap,.slice j.a j.len j.cap],.slice M.a M.len M.cap] h R:=
 XF ⟨[(1,8000)],[],[]⟩ [] 26 Tryz.func222 H
theorem Xo(b:Int)(c:Bt)(d:Sl)(e:Sl)(c1:Addr)(h:zc)(R:Value->zc->Prop) (H:let f:=h.push (.cells #[iV b,.string c,aK d,aK e] 25);∃g i j k,zd f ⟨h.size,0,Td⟩ 0 (tL g i j k)/\∃l:Option Addr,ze f c1=Tc (.pointer l)/\∃m,l=Tc m/\∃n o p q,zd f (YK m 4) 0 (tL n o p q)/\XC Tp 49 #[tA g i j k,tA n o p q,.slice Td 0 0] f (λr s=>∃t,r=aK t/\R (.bool ((t.len:Int)==0)) s)):
  XC Tp 223 #[.agg #[.int .i64 b,.string c,.slice d.a d.len d.cap,.slice e.a e.len e.cap],.pointer (Tc c1)] h R:=
 XF ⟨[(1,8000)],[],[]⟩ [.tmp 3] 12 Tryz.func223 H
theorem WK(h:zc)(R:Value->zc->Prop) (H:let a:=h.push (.cells #[.string (⟨#[]⟩:Bt),.string (⟨#[]⟩:Bt),.string (⟨#[]⟩:Bt),.string (⟨#[]⟩:Bt),.string (⟨#[]⟩:Bt),.string (⟨#[]⟩:Bt),.string (⟨#[]⟩:Bt)] 224);XRunU Tp (YN 224 (.pointer (Tc ⟨h.size,0,Td⟩)) (.agg #[.string (⟨#[]⟩:Bt),.string (⟨#[110,117,108,108]⟩:Bt),.string (⟨#[98,111,111,108]⟩:Bt),.string (⟨#[110,117,109,98,101,114]⟩:Bt),.string (⟨#[115,116,114,105,110,103]⟩:Bt),.string (⟨#[97,114,114,97,121]⟩:Bt),.string (⟨#[111,98,106,101,99,116]⟩:Bt)])) a (λb=>∃c d e f g i j,zd b ⟨h.size,0,Td⟩ 0 [.string c,.string d,.string e,.string f,.string g,.string i,.string j]/\R (.agg #[.string c,.string d,.string e,.string f,.string g,.string i,.string j]) b)):
  XC Tp 228 #[] h R:=
 XF ⟨[],[],[]⟩ [.cell 0 224] 2 Tryz.func228 H
theorem Ur(b:Int)(c:Bt)(d:Sl)(e:Sl)(f:Int)(g:Bt)(i:Sl)(j:Sl)(h:zc)(R:Value->zc->Prop) (H:let k:=h.push (.cells #[iV b,.string c,aK d,aK e] 25);let l:=k.push (.cells #[iV f,.string g,aK i,aK j] 25);∃m,ze l (YK ⟨h.size,0,Td⟩ 0)=Tc (iV m)/\∃n,((m==3)=Ta->ze l (YK ⟨k.size,0,Td⟩ 0)=Tc (iV n))/\((bif (m==3)then(n==3)else Tb)=Ta->∃o,ze l (YK ⟨h.size,0,Td⟩ 1)=Tc (.string o)/\XC Tp 102 #[.string o] l (λp q=>∃r s t u,p=.tuple #[.agg #[.bool r,.string s,iV t],.bool u]/\let v:=q.push (.cells #[.bool Tb,.string (⟨#[]⟩:Bt),iV 0] 78);XRunU Tp (YN 78 (.pointer (Tc ⟨q.size,0,Td⟩)) (.agg #[.bool r,.string s,iV t])) v (λw=>∃x,ze w (YK ⟨k.size,0,Td⟩ 1)=Tc (.string x)/\XC Tp 102 #[.string x] w (λy z=>∃A B C D,y=.tuple #[.agg #[.bool A,.string B,iV C],.bool D]/\let E:=z.push (.cells #[.bool Tb,.string (⟨#[]⟩:Bt),iV 0] 78);XRunU Tp (YN 78 (.pointer (Tc ⟨z.size,0,Td⟩)) (.agg #[.bool A,.string B,iV C])) E (λF=>∃G I J,zd F ⟨q.size,0,Td⟩ 0 [.bool G,.string I,iV J]/\∃L M N,zd F ⟨z.size,0,Td⟩ 0 [.bool L,.string M,iV N]/\XC Tp 318 #[.agg #[.bool G,.string I,iV J],.agg #[.bool L,.string M,iV N]] F (λO P=>∃Q,O=iV Q/\R (iV Q) P))))))/\((bif (m==3)then(n==3)else Tb)=Tb->∃S,ze l (YK ⟨h.size,0,Td⟩ 0)=Tc (iV S)/\∃T,ze l (YK ⟨k.size,0,Td⟩ 0)=Tc (iV T)/\∃U,ze l (YK ⟨h.size,0,Td⟩ 1)=Tc (.string U)/\∃V,ze l (YK ⟨k.size,0,Td⟩ 1)=Tc (.string V)/\∃W,ze l (YK ⟨h.size,0,Td⟩ 2)=Tc (aK W)/\∃X,ze l (YK ⟨k.size,0,Td⟩ 2)=Tc (aK X)/\XC Tp 320 #[iV S,iV T] l (λY Z=>∃aa,Y=iV aa/\(Z)[((YK ⟨k.size,0,Td⟩ 2):Addr).block]?=(l)[((YK ⟨k.size,0,Td⟩ 2):Addr).block]?/\(Z)[((YK ⟨h.size,0,Td⟩ 2):Addr).block]?=(l)[((YK ⟨h.size,0,Td⟩ 2):Addr).block]?/\(Z)[((YK ⟨k.size,0,Td⟩ 1):Addr).block]?=(l)[((YK ⟨k.size,0,Td⟩ 1):Addr).block]?/\(Z)[((YK ⟨h.size,0,Td⟩ 1):Addr).block]?=(l)[((YK ⟨h.size,0,Td⟩ 1):Addr).block]?/\XC Tp 321 #[.string U,.string V] Z (λab ac=>∃ad,ab=iV ad/\(ac)[((YK ⟨k.size,0,Td⟩ 2):Addr).block]?=(l)[((YK ⟨k.size,0,Td⟩ 2):Addr).block]?/\(ac)[((YK ⟨h.size,0,Td⟩ 2):Addr).block]?=(l)[((YK ⟨h.size,0,Td⟩ 2):Addr).block]?/\XC Tp 322 #[aK W,aK X,.func (.func 321) #[] #[]] ac (λae af=>∃ag,ae=iV ag/\let ah:=af.push (.cells #[iV aa,iV ad,iV ag] 3);XC Tp 319 #[.slice (Tc ⟨af.size,0,Td⟩) 3 3] ah (λai aj=>∃ak,ai=iV ak/\((ak != 0)=Ta->R (iV ak) aj)/\((ak != 0)=Tb->∃al,ze aj (YK ⟨h.size,0,Td⟩ 3)=Tc (aK al)/\∃am,ze aj (YK ⟨k.size,0,Td⟩ 3)=Tc (aK am)/\XC Tp 323 #[aK al,aK am,.func (.func 264) #[] #[]] aj (λan ao=>∃ap,an=iV ap/\R (iV ap) ao)))))))):
  XC Tp 264 #[.agg #[.int .i64 b,.string c,.slice d.a d.len d.cap,.slice e.a e.len e.cap],.agg #[.int .i64 f,.string g,.slice i.a i.len i.cap,.slice j.a j.len j.cap]] h R:=
 XF ⟨[(5,8000)],[],[]⟩ [.tmp 4] 58 Tryz.func264 H
theorem XG(a0:Sl)(b1:Sl)(e:FuncId)(f:Array Value)(i:Array Value)(h:zc)(R:Value->zc->Prop) (H:XC Tp 370 #[aK a0,aK b1,.func (.func e) f i] h (λb c=>∃d,b=iV d/\R (iV d) c)):
  XC Tp 322 #[.slice a0.a a0.len a0.cap,.slice b1.a b1.len b1.cap,.func (.func e) f i] h R:=
 XF ⟨[],[],[]⟩ [.tmp 6] 11 Tryz.func322 H
theorem y8(n:Sl)(o:Sl)(p:FuncId)(r:Array Value)(q:Array Value)(h:zc)(R:Value->zc->Prop) (H:∃(b:Int->zc->Prop) (c:Int->zc->Nat),b 0 h/\∀d:Int,∀e:zc,b d e->((decide (d<n.len)=Ta->∃f,(n.a=Tc f/\0<=d/\d<n.len)/\∃g,ze e (f.add (d.toNat*1))=Tc (.string g)/\(decide (d>=o.len)=Ta->R (iV 1) e)/\(decide (d>=o.len)=Tb->∃i,(o.a=Tc i/\0<=d/\d<o.len)/\∃j,ze e (i.add (d.toNat*1))=Tc (.string j)/\zx Tp p=Ta/\XC Tp p (r++#[.string g,.string j]++q) e (λk l=>∃m,k=iV m/\((m != 0)=Ta->R (iV m) l)/\((m != 0)=Tb->(b (YJ .i64 (d+1)) l/\c (YJ .i64 (d+1)) l<c d e)))))/\(decide (d<n.len)=Tb->(decide ((n.len:Int)<(o.len:Int))=Ta->R (iV (-1)) e)/\(decide ((n.len:Int)<(o.len:Int))=Tb->R (iV 0) e)))):
  XC Tp 370 #[.slice n.a n.len n.cap,.slice o.a o.len o.cap,.func (.func p) r q] h R:=
 XF ⟨[],[(2,[(13,.one (.int .i64))])],[]⟩ [.tmp 6] 39 Tryz.func370 H
theorem Qh(w:Sl)(h:zc)(R:Value->zc->Prop) (H:∃(b:Int->Int->zc->Prop) (c:Int->Int->zc->Nat),b 0 0 h/\∀d e:Int,∀f:zc,b d e f->((decide (e<w.len)=Ta->∃g,(w.a=Tc g/\0<=e/\e<w.len)/\∃i,ze f (g.add (e.toNat*1))=Tc (aK i)/\((decide ((YJ .i64 (d+(i.len:Int)))<0))=Ta->False)/\((decide ((YJ .i64 (d+(i.len:Int)))<0))=Tb->(b (YJ .i64 (d+(i.len:Int))) (YJ .i64 (e+1)) f/\c (YJ .i64 (d+(i.len:Int))) (YJ .i64 (e+1)) f<c d e f)))/\(decide (e<w.len)=Tb->XC Tp 337 #[.slice Td 0 0,iV d] f (λj k=>∃l,j=aK l/\∃(m:Sl->Int->zc->Prop) (n:Sl->Int->zc->Nat),m l 0 k/\∀o:Sl,∀p:Int,∀q:zc,m o p q->((decide (p<w.len)=Ta->∃r,(w.a=Tc r/\0<=p/\p<w.len)/\∃s,ze q (r.add (p.toNat*1))=Tc (aK s)/\xd Tp (YY #[22,22] 22 #[aK o,aK s]) q (λt u=>∃v,t=aK v/\(m v (YJ .i64 (p+1)) u/\n v (YJ .i64 (p+1)) u<n o p q)))/\(decide (p<w.len)=Tb->R (aK o) q)))))):
  XC Tp 277 #[.slice w.a w.len w.cap] h R:=
 XF ⟨[],[(3,[(3,.one (.int .i64)),(11,.one (.int .i64))]),(11,[(6,.one (.sl)),(27,.one (.int .i64))])],[]⟩ [.tmp 2] 36 Tryz.func277 H
theorem Q0(i:Sl)(k:Int)(h:zc)(R:Value->zc->Prop) (H:∀b:zc->Prop,(∀c:zc,(((decide ((YJ .i64 (k-(YJ .i64 ((i.cap:Int)-(i.len:Int)))):Int)>0))=Ta->((Td:Option Value)=Td\/∃v,(Tc (iV (i.cap:Int)):Option Value)=Tc v)/\(0<=(0:Int)/\(0:Int)<=(i.cap:Int)/\(i.cap:Int)<=(i.cap:Int)/\(i.cap:Int)<=(i.cap:Int))/\xd Tp (YY #[22,3] 22 #[.slice (fF i.a 1 ((0:Int).toNat) ((i.cap:Int).toNat)) ((i.cap:Int).toNat-(0:Int).toNat) ((i.cap:Int).toNat-(0:Int).toNat),iV (YJ .i64 (k-(YJ .i64 ((i.cap:Int)-(i.len:Int)))))]) c (λd e=>∃f,d=aK f/\((Td:Option Value)=Td\/∃v,(Tc (iV (i.len:Int)):Option Value)=Tc v)/\(0<=(0:Int)/\(0:Int)<=(i.len:Int)/\(i.len:Int)<=(f.cap:Int)/\(f.cap:Int)<=(f.cap:Int))/\R (.slice (fF f.a 1 ((0:Int).toNat) ((f.cap:Int).toNat)) ((i.len:Int).toNat-(0:Int).toNat) ((f.cap:Int).toNat-(0:Int).toNat)) e))/\((decide ((YJ .i64 (k-(YJ .i64 ((i.cap:Int)-(i.len:Int)))):Int)>0))=Tb->R (aK i) c))->b c)->(decide (k<0)=Ta->False)/\(decide (k<0)=Tb->b h)):
  XC Tp 337 #[.slice i.a i.len i.cap,.int .i64 k] h R:=
 XF ⟨[],[],[(3,[])]⟩ [.tmp 4] 27 Tryz.func337 H
theorem QN(b:Int)(c:Bt)(d:Sl)(e:Sl)(h:zc)(R:Value->zc->Prop) (H:let f:=h.push (.cells #[iV b,.string c,aK d,aK e] 25);∃g i j k,zd f ⟨h.size,0,Td⟩ 0 (tL g i j k)/\XC Tp 17 #[tA g i j k] f (λl m=>∃n,l=.bool n/\((!n)=Ta->R (.slice Td 0 0) m)/\((!n)=Tb->XC Tp 55 #[] m (λo p=>∃q r s t u v w x y z A B C,o=.agg #[.string q,.string r,.string s,.string t,.string u,.string v,.string w,.string x,.string y,.string z,.string A,.string B,.string C]/\∃(D:Sl->Int->zc->Prop) (E:Sl->Int->zc->Nat),D (⟨Td,0,0⟩:Sl) 0 p/\∀F:Sl,∀G:Int,∀I:zc,D F G I->((decide (G<13)=Ta->∃J,(∀L:zc,QExec Tp (zdc 70 (.agg #[.string q,.string r,.string s,.string t,.string u,.string v,.string w,.string x,.string y,.string z,.string A,.string B,.string C]) (iV G)) L (.string J))/\∃M,ze I (YK ⟨h.size,0,Td⟩ 2)=Tc (aK M)/\XC Tp 56 #[aK M,.string J] I (λN O=>∃P,N=.bool P/\(P=Ta->let Q:=O.push (.cells #[.string J] 9);xd Tp (YY #[22,22] 22 #[aK F,.slice (Tc ⟨O.size,0,Td⟩) 1 1]) Q (λS T=>∃U,S=aK U/\(D U (YJ .i64 (G+1)) T/\E U (YJ .i64 (G+1)) T<E F G I)))/\(P=Tb->(D F (YJ .i64 (G+1)) O/\E F (YJ .i64 (G+1)) O<E F G I))))/\(decide (G<13)=Tb->R (aK F) I)))))):
  XC Tp 22 #[.agg #[.int .i64 b,.string c,.slice d.a d.len d.cap,.slice e.a e.len e.cap]] h R:=
 XF ⟨[],[(5,[(3,.one (.sl)),(10,.one (.int .i64))])],[]⟩ [.tmp 2] 23 Tryz.func22 H
theorem Sw(b:Int)(c:Bt)(d:Sl)(e:Sl)(f:Int)(g:Bt)(i:Sl)(j:Sl)(ax:Sl)(h:zc)(R:Value->zc->Prop) (H:let k:=h.push (.cells #[iV b,.string c,aK d,aK e] 25);let l:=k.push (.cells #[iV f,.string g,aK i,aK j] 25);∃m n o p,zd l ⟨h.size,0,Td⟩ 0 (tL m n o p)/\∃q r s t,zd l ⟨k.size,0,Td⟩ 0 (tL q r s t)/\let u:=l.push (.cells #[iV m,.string n,aK o,aK p,iV q,.string r,aK s,aK t,aK ax,.slice Td 0 0] 120);XC Tp 55 #[] u (λv w=>∃x y z A B C D E F G I J L,v=.agg #[.string x,.string y,.string z,.string A,.string B,.string C,.string D,.string E,.string F,.string G,.string I,.string J,.string L]/\∃(M:Int->zc->Prop) (N:Int->zc->Nat),M 0 w/\∀O:Int,∀P:zc,M O P->((decide (O<13)=Ta->∃Q,(∀S:zc,QExec Tp (zdc 70 (.agg #[.string x,.string y,.string z,.string A,.string B,.string C,.string D,.string E,.string F,.string G,.string I,.string J,.string L]) (iV O)) S (.string Q))/\∃T U V W,zd P ⟨h.size,0,Td⟩ 0 (tL T U V W)/\XC Tp 90 #[tA T U V W,.string Q] P (λX Y=>∃Z aa ab ac ad,X=.tuple #[tA Z aa ab ac,.bool ad]/\let ae:=Y.push (.cells tC 25);XRunU Tp (YN 25 (.pointer (Tc ⟨Y.size,0,Td⟩)) (tA Z aa ab ac)) ae (λaf=>(ad=Ta->∃ag ah ai aj,zd af ⟨Y.size,0,Td⟩ 0 (tL ag ah ai aj)/\XC Tp 91 #[.pointer (Tc ⟨l.size,0,Td⟩),.string Q] af (λak al=>∃am:Value,ak=am/\(al)[(⟨Y.size,0,Td⟩:Addr).block]?=(af)[(⟨Y.size,0,Td⟩:Addr).block]?/\mq Tp am #[.string Q,tA ag ah ai aj] (λan ao=>XC Tp an ao al (λap aq=>ap=.tuple #[]/\(M (YJ .i64 (O+1)) aq/\N (YJ .i64 (O+1)) aq<N O P)))))/\(ad=Tb->(M (YJ .i64 (O+1)) af/\N (YJ .i64 (O+1)) af<N O P)))))/\(decide (O<13)=Tb->∃ar:Addr,Tc ⟨l.size,0,Td⟩=Tc ar/\∃au,ze P (YK ar 9)=Tc (aK au)/\R (aK au) P)))):
  XC Tp 49 #[.agg #[.int .i64 b,.string c,.slice d.a d.len d.cap,.slice e.a e.len e.cap],.agg #[.int .i64 f,.string g,.slice i.a i.len i.cap,.slice j.a j.len j.cap],.slice ax.a ax.len ax.cap] h R:=
 XF ⟨[(7,8000)],[(3,[(18,.one (.int .i64))])],[]⟩ [.tmp 6] 39 Tryz.func49 H
end
end Go.X
end
section
namespace Go.X
open Go Go.X Go.Proofs Go.Lib
section
variable {v:Tr} {R:Tr -> Prop} {M:Fr} {b:Nat}
def yy(v x:Tr):Int:=jI (zo (lb v.text)).1 (zo (lb x.text)).1
section
variable {gl : Fr}
theorem lA(h:Zp v=Ta):bK v<=4096/\Q4 zn v=Ta:=by unfold Zp Qs at h;simp only[ZE,zA]at h;exact⟨h.1.1,h.2⟩
theorem DF(f:Sm v)(k:Zp v=Ta)(h:R (zu v)):PC Tp gl 66 [Arg.mk .tree v] [.tree] R:=by
 intro c M vs m ag i
 match vs,i with
 |[u],⟨hu,_⟩=>have l:=lA k;exact PX.of ((C6 (bK v) v (by omega) (YM _) l.2 f c M u ag hu).go λw h' M' q L b e=>⟨M',q,L,b,by rw[e];exact h⟩)
theorem H6(f:Zp v=Ta)(h:R (zu v)):PC Tp gl 272 [Arg.mk .tree v] [.tree] R:=by
 intro c M vs l ag i
 match vs,i with
 |[u],⟨hu,_⟩=>have k:=lA f;exact PX.of ((FV (bK v) v (by omega) (YM _) k.2 c M u ag hu).go λw h' M' q L b e=>⟨M',q,L,b,by rw[e];exact h⟩)
theorem nI(b:Sm v):(lb v.text).length<=1152921504606846976:=by have:=b.text;omega
theorem tF{s:Bs}(b:s.length<=1152921504606846976):(eZ s).1.2.1.length<=4611686018427387904:=jc s b
theorem Kg(i:GL gl){v x:Tr}(m:Sm v)(k:Sm x)(e:Zp v=Ta)(c:Zp x=Ta)(q:v.kind=3)(o:x.kind=3){R:Int->Prop}(h:R (yy v x)):PC Tp gl 208 [Arg.mk .tree v,Arg.mk .tree x] [.int .i64] R:=by apply Vu;simp only[qu];have sv:zu v=v:=Xi (qm (lA e).2) (by omega) (by omega);have p:zu x=x:=Xi (qm (lA c).2) (by omega) (by omega);refine pS i m (pS i k ?_);rw[e,c];refine⟨λb=>(nomatch b),λ_=>H6 e (H6 c ?_)⟩;rw[sv,p];apply Vp;rw[q,o];refine⟨λb=>(nomatch b),λ_=>⟨λ_=>?_,λb=>(nomatch b)⟩⟩;have l:=nI m;have tx:=nI k;have n:=As (gl:=gl) (s:=lb v.text) (R:=λr=>r=(eT (eZ (lb v.text)).1,(eZ (lb v.text)).2)) l rfl;have f:=As (gl:=gl) (s:=lb x.text) (R:=λr=>r=(eT (eZ (lb x.text)).1,(eZ (lb x.text)).2)) tx rfl;rw[gv]at n f;refine n.mono λw t=>f.mono λy u=>?_;subst t u;exact VW (tF l) (tF tx) h
theorem DU{r:(Bool×Bt×Int)×Bool}{w:Value}(h:Yf M [.pair .bool (.pair .str (.int .i64)),.bool] r w):w=.tuple #[.agg #[.bool r.1.1,.string r.1.2.1,.int .i64 r.1.2.2],.bool r.2]:=by
 obtain⟨vs,⟨m,rest,rfl,f,k,rfl,b⟩,rfl⟩:=h;have b:k=.bool r.2:=by have:=(eK rfl).1 b;simpa[Rd]using this
 subst b;unfold RdV at f;simp only[fe,if_true]at f;obtain⟨cs,rfl,c1,c2,rfl,h1,i,l,rfl,c,e⟩:=f;have h1:c1=[.bool r.1.1]:=h1;have c:i=[.string r.1.2.1]:=c;have e:l=[.int .i64 r.1.2.2]:=e;subst h1 c e;rfl
theorem Bh(n:Bool×Bt×Int):RdV M (.pair .bool (.pair .str (.int .i64))) n (.agg #[.bool n.1,.string n.2.1,.int .i64 n.2.2]):=by unfold RdV;simp only[fe,if_true];exact⟨[.bool n.1,.string n.2.1,.int .i64 n.2.2],rfl,[.bool n.1],_,rfl,rfl,[.string n.2.1],_,rfl,rfl,rfl⟩
theorem GR{h:zc}{cs:Array Value}(H:Blk h b cs)(f:cs.size=3)(x:Bool)(s:Bt)(i:Int){K:zc->Prop}
  (l:∀h':zc,Blk h' b #[.bool x,.string s,.int .i64 i]->h'.size=h.size->(∀j,j≠b->h'[j]?=h[j]?)->K h'):XRunU Tp (YN 78 (.pointer (Tc ⟨b,0,Td⟩)) (.agg #[.bool x,.string s,.int .i64 i])) h K:=
 J5 (vs:=[.bool x,.string s,.int .i64 i]) XD H rfl Pp (by rw[f];exact YM _) (by intro u e;simp at e;rcases e with rfl|rfl|rfl <;> rfl) λh' c m k=>l h' (by rw[tu (by rw[f];rfl)]at c;exact c) m k
theorem Vl(x y z:Int):Rd (Mx M b #[.int .i64 x,.int .i64 y,.int .i64 z]) (.row (.int .i64)) [x,y,z] [aK ⟨Tc ⟨b,0,Td⟩,3,3⟩]:=by exact RowC.rd (t:=.int .i64) (xs:=[x,y,z]) (cells:=mA [x,y,z]) (b:=b) (o:=0) (c:=3) (cs:=#[.int .i64 x,.int .i64 y,.int .i64 z]) (RX _ [x,y,z]) (Ql _ _ _) rfl ⟨by simp,by simp⟩
set_option maxHeartbeats 2000000 in
theorem Ns(hg:GL gl){a b:Tr}(ha:Sm a)(hb:Sm b)(kb:b.kind=3)(hk:b.keys=[]){R:Int->Prop}(h3:a.kind=3->R (yy a b))(aa:a.kind≠3->∀r,-1<=r->r<=1->R r):PC Tp gl 264 [Arg.mk .tree a,Arg.mk .tree b] [.int .i64] R:=by
 intro h M vs H ag B
 match vs,B with
 |[u1,u2],⟨E,u,_⟩=>
 have E:RdV M .tree a u1:=E;have u:RdV M .tree b u2:=u;obtain⟨sk,si,rfl,rk,ri⟩:=ye E;obtain⟨tk,ti,rfl,aj,aE⟩:=ye u;apply PX.of;apply Ur a.kind a.text sk si b.kind b.text tk ti;intro h1 h2;obtain⟨k1,z1,B1⟩:=jo (g:=h1) rfl;obtain⟨k2,z2,Y⟩:=jo (g:=h2) rfl;clear_value h2;clear_value h1;have n:=B1.ofKeep k2;have I:Later h M h2 M:=Later.same ag (k1.trans k2 (by omega));refine⟨a.kind,n.cellAdd rfl,b.kind,λ_=>Y.cellAdd rfl,λA=>?_,λA=>?_⟩;have ka:a.kind=3:=by by_cases e:a.kind=3;exact e;simp[e]at A
 have ta:=nI ha;have tb:=nI hb;have d1:=Yk hg (s:=lb a.text) (R:=λr=>r=(eT (eZ (lb a.text)).1,(eZ (lb a.text)).2)) ta rfl;have d2:=Yk hg (s:=lb b.text) (R:=λr=>r=(eT (eZ (lb b.text)).1,(eZ (lb b.text)).2)) tb rfl;rw[gv]at d1 d2;refine⟨a.text,n.cellAdd rfl,d1.go (vs:=[.string a.text]) (H.trans I.le) I.ag (zm (rdStr _) zz) λw h7 M7 r L7 c o=>?_⟩;subst o;refine⟨_,_,_,_,DU c,?_⟩;intro Q;obtain⟨ax,aN,az⟩:=jo (g:=Q) rfl;clear_value Q;have z7:=L7.keep.size;refine GR az rfl _ _ _ λt ai aB aA=>?_;have N:Keep h7.size h7 t:=⟨by omega,λj hj=>by rw[aA j (by omega)];exact ax.get j hj⟩;have G:Later h M t M7:=(I.trans L7).trans (Later.same L7.ag N);have ab:Blk t h1.size _:=(Y.keep (L7.keep.get h1.size (by omega))).keep (N.get _ (by omega));refine⟨b.text,ab.cellAdd rfl,d2.go (vs:=[.string b.text]) (H.trans G.le) G.ag (zm (rdStr _) zz) λw J au r p c o=>?_⟩;subst o;refine⟨_,_,_,_,DU c,?_⟩;intro S;obtain⟨ay,aG,ak⟩:=jo (g:=S) rfl;clear_value S;have aC:=p.keep.size;refine GR ak rfl _ _ _ λD ae aJ an=>?_;have V:Keep J.size J D:=⟨by omega,λj hj=>by rw[an j (by omega)];exact ay.get j hj⟩;have F:Later h M D au:=(G.trans p).trans (Later.same p.ag V);have P:Blk D h7.size _:=(ai.keep (p.keep.get h7.size (by omega))).keep (V.get _ (by omega));refine⟨_,_,_,P.ld (cs:=[_,_,_]),_,_,_,ae.ld (cs:=[_,_,_]),?_⟩;refine(T4 (gl:=gl) (a:=(eZ (lb a.text)).1) (b:=(eZ (lb b.text)).1) (tF ta) (tF tb) (R:=λr=>r=yy a b) rfl).go (H.trans F.le) F.ag (zm (Bh (eT (eZ (lb a.text)).1)) (zm (Bh (eT (eZ (lb b.text)).1)) zz)) λw aM ap r af c o=>?_;subst o;exact⟨_,i3 c,ap,_,F.trans af,Yu.2 (Z2 _ _),h3 ka⟩
 ·have ka:a.kind≠3:=λe=>by rw[e,kb]at A;cases A
  refine⟨a.kind,n.cellAdd rfl,b.kind,Y.cellAdd rfl,a.text,n.cellAdd rfl,b.text,Y.cellAdd rfl,sk,n.cellAdd rfl,tk,Y.cellAdd rfl,?_⟩;refine(xP (gl:=gl) (x:=a.kind) (y:=b.kind) (R:=λr=>r=e9 a.kind b.kind) rfl).go (H.trans I.le) I.ag (zm (Z2 _ _) (zm (Z2 _ _) zz)) λw aH aI r f c o=>?_;subst o;refine⟨_,i3 c,f.keep.get _ (by show h1.size<_;omega),f.keep.get _ (by show h.size<_;omega),f.keep.get _ (by show h1.size<_;omega),f.keep.get _ (by show h.size<_;omega),?_⟩;have LA:=I.trans f;refine(BE (gl:=gl) (a:=a.text) (b:=b.text) (R:=λr=>r=fk (lb a.text) (lb b.text)) rfl).go (H.trans LA.le) LA.ag (zm (rdStr _) (zm (rdStr _) zz)) λw k U r q c o=>?_;subst o;have aF:=f.keep.size;refine⟨_,i3 c,(q.keep.get _ (by show h1.size<_;omega)).trans (f.keep.get _ (by show h1.size<_;omega)),(q.keep.get _ (by show h.size<_;omega)).trans (f.keep.get _ (by show h.size<_;omega)),?_⟩;have LB:=LA.trans q;apply XG;apply y8;have lt:tk.len=0:=by have:=(rowLen aj).1;rw[hk]at this;exact this
  have m:e9 a.kind b.kind≠0:=by unfold e9;split <;> (try split) <;> omega
  have aL:¬((0:Int)<((tk.len:Nat):Int)):=by rw[lt];omega
  have rg:=uj a.kind b.kind;have fin:∀Z:Int,(let z:zc:=za9 k (.cells #[.int .i64 (e9 a.kind b.kind),.int .i64 (fk (lb a.text) (lb b.text)),.int .i64 Z] 3);∀K:Value->zc->Prop,(∀M' g,Later h M g M'->K (.int .i64 (e9 a.kind b.kind)) g)->XC Tp 319 #[.slice (Tc ⟨ZK k,0,Td⟩) 3 3] z K):=λZ=>by intro z K hK;have LC:Later k U z (Mx U k.size #[.int .i64 (e9 a.kind b.kind),.int .i64 (fk (lb a.text) (lb b.text)),.int .i64 Z]):=Later.frz q.ag _ _;have LD:=LB.trans LC;refine(Dv (gl:=gl) (l:=[e9 a.kind b.kind,fk (lb a.text) (lb b.text),Z]) (by simp) (R:=λr=>r=e9 a.kind b.kind) (by unfold jY;rw[zb m])).go (vs:=[aK ⟨Tc ⟨k.size,0,Td⟩,3,3⟩]) (H.trans LD.le) LD.ag (zm ((eK rfl).2 (Vl _ _ _)) zz) λw ar ah r am c o=>?_;subst o;rw[i3 c];exact hK ah ar (LD.trans am)
  have last:∀M' g,Later h M g M'->∃M' r,Later h M g M'/\Yf M' [.int .i64] r (.int .i64 (e9 a.kind b.kind))/\R r:=λM' g L=>⟨M',_,L,Yu.2 (Z2 _ _),aa ka _ (by omega) (by omega)⟩;refine⟨λi g=>i=0/\g=k,λ_ _=>0,⟨rfl,rfl⟩,?_⟩;rintro i g ⟨rfl,rfl⟩;refine⟨λA=>?_,λA=>⟨λC=>absurd (zB C) (by rw[lt];omega),λ_=>⟨0,rfl,0,rfl,fin 0 _ λM' g L=>⟨_,rfl,λ_=>last M' g L,λC=>by simp[m]at C⟩⟩⟩⟩;have O:0<a.keys.length:=by have:=(rowLen rk).1;simp at A;omega
  refine jt LB.ag (Rd.mono LB.le rk) O rfl rfl ⟨λ_=>⟨1,rfl,1,rfl,fin 1 _ λM' g L=>⟨_,rfl,λ_=>last M' g L,λC=>by simp[m]at C⟩⟩,λC=>by simp[lt]at C⟩
end
end
end Go.X
end
section
namespace Go.X
section
abbrev Xp:Ty:=.pair (.row .str) .str
def fE(f:dR):El Xp:=(f.1,bl f.2)
abbrev FA:=List (dR×Sl)
def fC(p:dR×Sl):List Value:=[aK p.2,.string (bl p.1.2)]
theorem Un:ElemT Tp 29 35 (.agg #[.slice Td 0 0,.string ⟨#[]⟩]) 2 40:=⟨by kernel_rfl,⟨Tryz.t35,by kernel_rfl,by kernel_rfl,by kernel_rfl,by kernel_rfl⟩,rfl,by omega⟩
def PB(lo:Nat)(h:zc)(M:Fr)(x:dR×Sl):Prop:=x.1.1≠[]->∃b,x.2.a=Tc ⟨b,0,Td⟩/\lo<=b/\M b≠Td/\∃cs,Blk h b cs
theorem PB.mono{lo f:Nat}{h h':zc}{M M':Fr}{x:dR×Sl}(H:PB lo h M x)(n:f<=lo)(le:Fr.le M M')(g:∀b cs,lo<=b->M b≠Td->Blk h b cs->h'[b]?=h[b]?):PB f h' M' x:=λe=>by
 obtain⟨b,l,m,k,cs,B⟩:=H e;refine⟨b,l,by omega,λi=>?_,cs,B.keep (g b cs m k B)⟩;cases e4:M b with
 |none=>exact k e4
 |some c=>rw[le _ _ e4]at i;cases i
structure FS (lo:Nat) (h:zc) (M:Fr) (na:FA) (sl:Sl):Prop where
 own:Owns h lo 35 2 sl (na.flatMap fC)
 fr:∀p,sl.a=Tc p->M p.block=Td
 nd:∀x∈na,Rd M (.row .str) x.1.1 [aK x.2]/\PB lo h M x
section
variable {lo : Nat} {h h' : zc} {M M' : Fr} {na nb : FA} {sl src : Sl}
theorem yW:∀na:FA,(na.flatMap fC).length=na.length*2
 |[]=>rfl
 |p::na=>by rw[zcs,ZC,yW na,ZV];simp[fC];omega
theorem WN:∀na:FA,∀u∈na.flatMap fC,u.oneCell'=Ta:=λna u b=>by obtain⟨p,_,h⟩:=zbf.1 b;simp[fC]at h;rcases h with rfl|rfl <;> rfl
theorem Aa:∀(na:FA) (i:Nat) (hi:i<na.length) (q:Nat),q<2->(na.flatMap fC)[i*2+q]?=(fC na[i])[q]?
 |[],i,hi,_,_=>by simp at hi
 |p::na,0,hi,q,hq=>by rw[zcs,zbn (by simp[fC];omega)];simp
 |p::na,i+1,hi,q,hq=>by rw[zcs,zbw (by simp[fC];omega),List.getElem_cons_succ,<-Aa na i (by simpa using hi) q hq];congr 1;simp[fC];omega
theorem FS.len(H:FS lo h M na sl):sl.len=na.length:=by have:=H.own.length;rw[yW]at this;omega
theorem FS.nil:FS lo h M [] ⟨Td,0,0⟩:=⟨Owns.nil _ _ _ _,λp b=>(nomatch b),λx c=>(nomatch c)⟩
theorem FS.frame(H:FS lo h M na sl)(f:∀p,sl.a=Tc p->h'[p.block]?=h[p.block]?)(le:Fr.le M M')(e:∀p,sl.a=Tc p->M' p.block=Td)(g:∀b cs,lo<=b->M b≠Td->Blk h b cs->h'[b]?=h[b]?):FS lo h' M' na sl:= ⟨H.own.keep f,e,λx c=>⟨Rd.mono le (H.nd x c).1,(H.nd x c).2.mono (YM _) le g⟩⟩
theorem FS.call(H:FS lo h M na sl)(L:Later h M h' M'):FS lo h' M' na sl:= H.frame (λp c=>L.keep.get _ (H.own.base_le p c).2) L.le (λp c=>by rw[L.old _ (H.own.base_le p c).2];exact H.fr p c) λb cs _ _ B=>L.keep.get b B.lt
theorem FS.app{ty:TypeId}(H:FS lo h M na sl){n:Nat}(C:Arr n h src.a (nb.flatMap fC))(z:src.len=nb.length)(k:∀x∈nb,Rd M (.row .str) x.1.1 [aK x.2]/\PB lo h M x)(ag:AgM M h)(s:lo<=h.size)(F:na.length+nb.length<=1000000000){K:Value->zc->Prop} (w:∀(s':Sl) (h':zc),FS lo h' M (na++nb) s'->AgM M h'->h.size<=h'.size->(∀j,j<h.size->(∀p,sl.a=Tc p->j≠p.block)->h'[j]?=h[j]?)->(∀l,s'.a=Tc l->(∃p,sl.a=Tc p/\l.block=p.block)\/l.block=h.size)->K (.slice s'.a s'.len s'.cap) h'):
  xd Tp (YY #[29,29] ty #[.slice sl.a sl.len sl.cap,.slice src.a src.len src.cap]) h K:=by
 have A:=H.len;refine Jo Un H.own C (by rw[yW,z]) (WN nb) (by omega) (by omega) s λs' h' G y r E t=>?_;have q:AgM M h':=λb c e=>by obtain⟨T,m,e'⟩:=ag b c e;exact⟨T,m,by rw[r b (ag.lt e) λp i u=>by rw[u,H.fr p i]at e;cases e];exact e'⟩
 refine w s' h' ⟨by rw[List.flatMap_append];exact y,λl o=>?_,λx f=>?_⟩ q E r t;rcases t l o with⟨p,i,e⟩|e;rw[e];exact H.fr p i;rw[e];exact ag.none (YM _);have st:∀b cs,lo<=b->M b≠Td->Blk h b cs->h'[b]?=h[b]?:=λb cs _ D B=>r b B.lt λp i e=>D (by rw[e];exact H.fr p i)
 rcases ZG.1 f with f|f;exact⟨(H.nd x f).1,(H.nd x f).2.mono (YM _) (Fr.le.refl _) st⟩;exact⟨(k x f).1,(k x f).2.mono (YM _) (Fr.le.refl _) st⟩
theorem FS.arr(H:FS lo h M na sl):Arr h.size h sl.a (na.flatMap fC):=H.own.arr
theorem FS.rd(H:FS lo h M na sl)(ag:AgM M h)(A:na.length<=1000000000):∃bs:List Nat,(∀b∈bs,lo<=b/\b<h.size)/\Rd (MxL M h bs) (.row Xp) (na.map λx=>fE x.1) [aK sl]:=by
 have o:=H.len;by_cases h0:na=[];subst h0;refine⟨[],λb m=>(nomatch m),_,rfl,sl.a,sl.cap,by rw[aK,o];rfl,⟨by simp,by simp⟩,.inl rfl⟩;have z:=ZX.2 h0;rcases H.own.2 with⟨n,D⟩|⟨g,cap,c,n,l,t,y,p,s,f⟩;omega;simp only[ZU]at n;obtain⟨w,C,B⟩:=n;have r:Blk h g c:=⟨_,t⟩;refine⟨[g],λb m=>by rw[zaf.1 m];exact⟨l,r.lt⟩,_,rfl,sl.a,sl.cap,by rw[aK,o,ZA],⟨by rw[ZA];omega,by rw[ZA];omega⟩,.inr ⟨g,0,c,w,MxL.at (by simp) r,λi hi=>?_⟩⟩;have k:i<na.length:=by simpa using hi
 have p:na[i]∈na:=YW k;rw[ZP,zcb];have e:cut c (i*sz Xp) (sz Xp)=fC na[i]:=by show cut c (i*2) 2=_;refine lc (by simp[fC]) λq u=>?_;rw[<-Aa na i k q u,<-f,ZQ,zb (by omega)]
 rw[e];exact⟨[aK na[i].2],[.string (bl na[i].1.2)],rfl,Rd.mono (Y4 ag [g]) (H.nd _ p).1,rfl⟩
end
end
end Go.X
end
section
namespace Go.X
open Go Go.X Go.Proofs Go.Lib
section
variable {v x:Tr} {n:Nat}
structure Ok (v:Tr):Prop where
 s:Sm v
 o:Zp v=Ta
section
variable {gl : Fr}
theorem Ok.sz(h:Ok v):bK v<=4096:=(lA h.o).1
theorem Ok.nd(h:Ok v):Q4 zn v=Ta:=(lA h.o).2
theorem Ok.dp(h:Ok v):bR v<=32:=by have h:=h.o;unfold Zp Qs at h;simp only[ZE,zA]at h;exact h.1.2
theorem Ok.item(h:Ok v)(b:x∈v.items):Ok x:=by refine⟨h.s.item b,?_⟩;have h1:=q9 b;have e:=jd b;have c:=ql h.nd b;have f:=h.sz;have i:=h.dp;unfold Zp Qs;simp only[ZE,zA];exact⟨⟨by omega,by omega⟩,c⟩
theorem Ok.items(h:Ok v):v.items.length<=4096:=by have h1:=h.sz;have b:=Zo v.items;rw[Zu]at h1;omega
theorem Ok.keys(h:Ok v):v.keys.length<=v.items.length:=by have c:=qm h.nd;by_cases b:v.kind=6;have:=(nf c b).2;omega;rw[Xg c b];exact ZN _
theorem Q1(b:Sm v)(h:yn v=Ta):Ok v:=⟨b,Cg h⟩
theorem kf{y u:Tr}{p:List Bt}(c:Ok y)(b:Ok u):(qi zr yy n y u p).length<=16777216:=by have:=Xj (same:=zr) (cmp:=yy) n y u p c.nd b.nd;have:bK y*bK u<=4096*4096:=Nat.mul_le_mul c.sz b.sz;omega
theorem vt{s x v:Tr}{w:Bs}{p:List Bt}(c:Ok x)(b:Ok v):(fG zr yy (qi zr yy n) s w x v p).length<=16777216:=by have:=Dt (same:=zr) (cmp:=yy) (fl:=qi zr yy n) (s:=s) (w:=w) (p:=p) b.keys (λy e p=>Xj n x y p c.nd (b.item e).nd) (λz f y e p=>Xj n z y p (c.item f).nd (b.item e).nd) (λz f p=>Xj n z v p (c.item f).nd b.nd);have:bK x*bK v<=4096*4096:=Nat.mul_le_mul c.sz b.sz;omega
def mH(gl:Fr)(n:Nat)(y u:Tr):Prop:=∀(p:List Bt),p.length+bR u<=1000->∀{R:List (List Bt×Bt)->Prop},R ((qi zr yy n y u p).map fE)->PC Tp gl 51 [Arg.mk .tree y,Arg.mk .tree u,Arg.mk (.row .str) p] [.row Xp] R
def mR(fl:Tr->Tr->List Bt->List dR)(q:Bs)(x v:Tr):Bool:=
 if q=Yo then decide (v.kind=gE (lb x.text))
 else if q=Xh then x.items.any λy=>zr y v
 else if q=js then decide (v.kind≠3)||decide (0<=yy v x)
 else if q=Yp then decide (v.kind≠3)||decide (yy v x<=0)
 else if q=xb then decide (j7 v<0)||decide ((ww x).1<=j7 v)
 else if q=X8 then decide (j7 v<=(ww x).1)
 else if q=fQ then x.items.any λy=>(fl y v []).isEmpty
 else !(fl x v []).isEmpty
theorem IS{fl:Tr->Tr->List Bt->List dR}{s x v:Tr}{q:Bs}{p:List Bt}(h1:q≠wv)(k:q≠yw)(n:q≠Zg)(l:q≠zq)(m:q≠fX):fG zr yy fl s q x v p=fa (mR fl q x v) p q:=by unfold fG mR;rw[za h1,za k,za n,za l,za m];by_cases c:q=Yo;rw[zb c,zb c];rw[za c,za c];by_cases a2:q=Xh;rw[zb a2,zb a2];rw[za a2,za a2];by_cases f:q=js;rw[zb f,zb f];rw[za f,za f];by_cases b:q=Yp;rw[zb b,zb b];rw[za b,za b];by_cases h:q=xb;rw[zb h,zb h];rw[za h,za h];by_cases i:q=X8;rw[zb i,zb i];rw[za i,za i];by_cases e:q=fQ;rw[zb e,zb e];rw[za e,za e]
theorem Em{α:Type}{p:α->Bool}{l:List α}{k:Nat}(h:k<l.length):(l.take (k+1)).any p=((l.take k).any p||p l[k]):=by rw[YP h,List.any_append];simp
set_option maxHeartbeats 1000000 in
theorem Mo(E:GL gl)(z:Ok x)(u:Ok v){q:Bt}(c:fb (qg n) (lb q) x=Ta)(p:lb q≠wv/\lb q≠yw/\lb q≠Zg/\lb q≠zq/\lb q≠fX)(h0:qg n x=Ta->mH gl n x v)(h1:∀y∈x.items,qg n y=Ta->mH gl n y v){R:Bool->Prop}(h:R (mR (qi zr yy n) (lb q) x v)):PC Tp gl 165 [Arg.mk .str q,Arg.mk .tree x,Arg.mk .tree v] [.bool] R:=by
 apply TV;simp only[jA,qu];have dv:=u.dp;have il:=z.items;have w:(lb q=js\/lb q=Yp)->∀(P:Int->Bool),R (decide (v.kind≠3)||P (yy v x))->∃J:Int->Prop,((!(v.kind != 3))=Ta->PC Tp gl 208 [Arg.mk .tree v,Arg.mk .tree x] [.int .i64] J)/\∀r:Int,((!(v.kind != 3))=Ta->J r)->R (bif (v.kind != 3)then Ta else P r):=λe P B=>by
  have Z:x.kind=3:=by rcases e with e|e;rw[e,sP]at c;simpa using c;rw[e,qM]at c;simpa using c
  refine⟨λr=>r=yy v x,λh3=>Kg E u.s z.s u.o z.o (by simpa using h3) Z rfl,λr M=>?_⟩;by_cases t:v.kind=3;rw[M (by simp[t]),show(v.kind != 3)=Tb by simp[t]];rw[show decide (v.kind≠3)=Tb by simp[t]]at B;exact B;rw[show(v.kind != 3)=Ta by simpa using t];rw[show decide (v.kind≠3)=Ta by simpa using t]at B;exact B
 refine⟨λI=>?_,λV=>⟨λH=>?_,λY=>⟨λt=>?_,λN=>⟨λC=>?_,λS=>⟨λG=>?_,λQ=>⟨λL=>?_,λU=>⟨λD=>?_,λO=>?_⟩⟩⟩⟩⟩⟩⟩;have I:lb q=Yo:=zB I;rw[I]at h;have h:R (decide (v.kind=gE (lb x.text))):=h;refine Gg ?_;rw[fx];exact h;have H:lb q=Xh:=zB H;rw[H]at h;have h:R (x.items.any λy=>zr y v):=h;refine⟨λi=>∃k:Nat,i=k/\k<=x.items.length/\(x.items.take k).any (λy=>zr y v)=Tb,λi=>x.items.length-i.toNat,⟨0,rfl,by omega,by simp⟩,?_⟩;rintro i ⟨k,rfl,hk,f⟩;refine⟨λA=>?_,λA=>?_⟩;have b:k<x.items.length:=by simp at A;omega
 have c:x.items[k]∈x.items:=YW b;refine⟨x.items[k],⟨by omega,jl b⟩,?_⟩;refine OX E (z.item c).s u.s ?_;rw[(z.item c).o,u.o,zao,zao];refine⟨λm=>?_,λm=>?_⟩;have:(x.items.any λy=>zr y v)=Ta:=List.any_eq_true.2 ⟨_,c,m⟩;rw[this]at h;exact h;rw[qd b (by omega)];refine⟨⟨k+1,rfl,by omega,by rw[Em b,f,m];rfl⟩,by simp only[YO];omega⟩;have b:k=x.items.length:=by simp at A;omega
 subst b;rw[ZO]at f;rw[f]at h;exact h;have t:lb q=js:=zB t;rw[t]at h;exact w (.inl t) (λr=>decide (r>=0)) h;have C:lb q=Yp:=zB C;rw[C]at h;exact w (.inr C) (λr=>decide (r<=0)) h;have G:lb q=xb:=zB G;rw[G]at h;have h:R (decide (j7 v<0)||decide ((ww x).1<=j7 v)):=h;refine wC E z.s (xW u.s ⟨λr=>r=j7 v,λ_=>xW u.s rfl,λr M=>?_⟩);by_cases e:j7 v<0;simpa[e]using h;rw[M (by simp[e])];simpa[e]using h;have L:lb q=X8:=zB L;rw[L]at h;exact wC E z.s (xW u.s h);have D:lb q=fQ:=zB D;rw[D]at h;have h:R (x.items.any λy=>(qi zr yy n y v []).isEmpty):=h;have ra:∀y∈x.items,qg n y=Ta:=by rw[D,r9,ZE,ZJ]at c;exact c.2
 refine⟨λi=>∃k:Nat,i=k/\k<=x.items.length/\(x.items.take k).any (λy=>(qi zr yy n y v []).isEmpty)=Tb,λi=>x.items.length-i.toNat,⟨0,rfl,by omega,by simp⟩,?_⟩;rintro i ⟨k,rfl,hk,f⟩;refine⟨λA=>?_,λA=>?_⟩;have b:k<x.items.length:=by simp at A;omega
 have c:x.items[k]∈x.items:=YW b;refine⟨x.items[k],⟨by omega,jl b⟩,?_⟩;refine h1 _ c (ra _ c) [] (by simp;omega) ⟨λm=>?_,λm=>?_⟩;have m:(qi zr yy n x.items[k] v []).isEmpty=Ta:=by rw[ZA]at m;simpa using m
 have:(x.items.any λy=>(qi zr yy n y v []).isEmpty)=Ta:=List.any_eq_true.2 ⟨_,c,m⟩;rw[this]at h;exact h;have m:(qi zr yy n x.items[k] v []).isEmpty=Tb:=by rw[ZA]at m;simpa using m
 rw[qd b (by omega)];refine⟨⟨k+1,rfl,by omega,by rw[Em b,f,m];rfl⟩,by simp only[YO];omega⟩;have b:k=x.items.length:=by simp at A;omega
 subst b;rw[ZO]at f;rw[f]at h;exact h;have h:R (!(qi zr yy n x v []).isEmpty):=by unfold mR at h;rw[za (show lb q≠Yo from zC V),za (show lb q≠Xh from zC Y),za (show lb q≠js from zC N),za (show lb q≠Yp from zC S),za (show lb q≠xb from zC Q),za (show lb q≠X8 from zC U),za (show lb q≠fQ from zC O)]at h;exact h
 have F:lb q=ir:=by by_cases F:lb q=ir;exact F;rw[uF (vd (zC V) (zC Y) (zC N) (zC S) (zC Q) (zC U) p.1 p.2.1 p.2.2.1 F p.2.2.2.1 p.2.2.2.2 (zC O))]at c;cases c
 rw[F,qX]at c;refine h0 c [] (by simp;omega) ?_;rw[ZA];cases hl:qi zr yy n x v []with
 |nil=>rw[hl]at h;exact h
 |cons a l=>rw[hl]at h;simpa using h
end
end
section
variable {α:Type} {k:Nat}
section
variable {gl : Fr}
theorem Xq{l:List α}(h:k<l.length):l.take (k+1)=l.take k++[l[k]]:=YP h
theorem xn{f:α->List dR}{l:List α}(h:k<l.length):(l.take (k+1)).flatMap f=(l.take k).flatMap f++f l[k]:=by rw[Xq h,List.flatMap_append];simp
theorem sn{f:α->List dR}{l:List α}(e:∀x∈l,(f x).length<=16777216):∀k,((l.take k).flatMap f).length<=k*16777216:=λk=>by
 have:∀m:List α,(∀x∈m,(f x).length<=16777216)->(m.flatMap f).length<=m.length*16777216:=λm=>by
  induction m with
  |nil=>simp
  |cons a m i=>intro h;have h1:=i λx b=>h x (YU _ b);have c:=h a ZB;rw[zcs,ZC,ZV];omega
 have h1:=this (l.take k) λx b=>e x (List.mem_of_mem_take b);have c:(l.take k).length<=k:=by rw[za0];exact Nat.min_le_left _ _
 exact zaj h1 (ZF _ c)
theorem EH(p:List Bt)(q:Bt):[((p,q):List Bt×Bt)]=[((p,lb q):dR)].map fE:=by simp[fE]
theorem wb{p:α->Bool}{l:List α}(h:k<l.length):(l.take (k+1)).filter p=(l.take k).filter p++(if p l[k]=Ta then [l[k]]else []):=by rw[Xq h,List.filter_append];congr 1;simp only[zb9,List.filter_nil]
theorem Y6{p:α->Bool}{l:List α}(k:Nat):((l.take k).filter p).length<=k:=zaj (List.length_filter_le _ _) (by simp;omega)
set_option maxHeartbeats 4000000 in
theorem KC(hg:GL gl){n:Nat}{s x v:Tr}(hs:Ok s)(w:Ok x)(z:Ok v){q:Bt}(o:fb (qg n) (lb q) x=Ta){p:List Bt}(hp:p.length+bR v<=1000)(h0:qg n x=Ta->∀u,(u=v\/u∈v.items)->mH gl n x u)(h1:∀y∈x.items,qg n y=Ta->∀u,(u=v\/u∈v.items)->mH gl n y u)
  {R:List (List Bt×Bt)->Prop} (h:R ((fG zr yy (qi zr yy n) s (lb q) x v p).map fE)):PC Tp gl 95 [Arg.mk .tree s,Arg.mk .str q,Arg.mk .tree x,Arg.mk .tree v,Arg.mk (.row .str) p] [.row Xp] R:=by
 apply LH;simp only[jA,qu];have am:=w.items;have an:=z.items;have af:=z.keys;have aj:=z.s.keys;refine⟨λP=>?_,λn1=>⟨λO=>?_,λn2=>⟨λZ=>?_,λM=>⟨λQ=>?_,λV=>⟨λJ=>?_,λU=>?_⟩⟩⟩⟩⟩;have P:lb q=wv:=zB P;rw[P,Ae]at h;by_cases I:v.kind=6;rw[zb I]at h;refine⟨λout i=>∃k:Nat,i=k/\k<=x.items.length/\out=(((x.items.take k).filter λy=>decide (idxOfS v.keys y.text<0)).map λy=>((p++[y.text],wv):dR)).map fE,λ_ i=>x.items.length-i.toNat,⟨0,rfl,ZN _,by simp⟩,?_⟩;rintro out i ⟨k,rfl,A,rfl⟩;refine⟨λf=>?_,λf=>?_⟩;have b:k<x.items.length:=by simp[I]at f;omega
 have D:=Y6 (p:=λy:Tr=>decide (idxOfS v.keys y.text<0)) (l:=x.items) k;refine⟨x.items[k],⟨by omega,jl b⟩,lP (by omega) ⟨λc=>?_,λc=>?_⟩⟩;have c:idxOfS v.keys x.items[k].text<0:=zB c;refine⟨x.items[k],⟨by omega,jl b⟩,Qf (by omega) ⟨by simp only[ZA,ZV,zb7];omega,?_⟩⟩;rw[qd b (by omega)];refine⟨⟨k+1,rfl,by omega,?_⟩,by simp only[YO];omega⟩;rw[wb b,zb (zD c),ZZ,ZZ,EH,P];rfl;have c:¬idxOfS v.keys x.items[k].text<0:=zC c;rw[qd b (by omega)];refine⟨⟨k+1,rfl,by omega,?_⟩,by simp only[YO];omega⟩;rw[wb b,za (by simpa using c),ZY];have b:k=x.items.length:=by simp[I]at f;omega
 subst b;rw[ZO];exact h;rw[za I]at h;refine⟨λout i=>out=[]/\i=0,λ_ _=>0,⟨rfl,rfl⟩,?_⟩;rintro out i ⟨rfl,rfl⟩;have e:(v.kind==6)=Tb:=by simpa using I
 rw[e];exact⟨λf=>by simp[Bool.cond_eq_ite]at f,λ_=>h⟩;have O:lb q=yw:=zB O;rw[O,y4]at h;intro K hK;have B:∀(Y:Int) (S:Bt) (k2:List Bt) (N:List Tr),k2=(((xe s (bl zq)).map Tr.keys).getD [])->k2.length<=1048576->K Y S k2 N:=λY S k2 N ab ah=>hK Y S k2 N (by
  rw[<-ab]at h;by_cases L:lb x.text=[116,114,117,101];rw[zb L]at h;refine⟨λout i=>∃k:Nat,i=k/\k<=v.keys.length/\out=(((v.keys.take k).filter λy=>decide (idxOfS k2 y<0)).map λy=>((p++[y],yw):dR)).map fE,λ_ i=>v.keys.length-i.toNat,⟨0,rfl,ZN _,by simp⟩,?_⟩;rintro out i ⟨k,rfl,A,rfl⟩;refine⟨λf=>?_,λf=>?_⟩;have b:k<v.keys.length:=by simp[Bool.cond_eq_ite]at f;omega
  have D:=Y6 (p:=λy:Bt=>decide (idxOfS k2 y<0)) (l:=v.keys) k;refine⟨v.keys[k],⟨by omega,by simp⟩,lP (v:=.mk Y S k2 N) (show k2.length<=_ by omega) ⟨λc=>?_,λc=>?_⟩⟩;have c:idxOfS k2 v.keys[k]<0:=zB c;refine⟨v.keys[k],⟨by omega,by simp⟩,Qf (by omega) ⟨by rw[ZA,ZA];exact zaj (ZF _ (Nat.add_le_add_right (Y6 k) _)) (by simp;omega),?_⟩⟩;rw[qd b (by omega)];refine⟨⟨k+1,rfl,by omega,?_⟩,by simp only[YO];omega⟩;rw[wb b,zb (zD c),ZZ,ZZ,EH,O];rfl;have c:¬idxOfS k2 v.keys[k]<0:=zC c;rw[qd b (by omega)];refine⟨⟨k+1,rfl,by omega,?_⟩,by simp only[YO];omega⟩;rw[wb b,za (by simpa using c),ZY];have b:k=v.keys.length:=by simp[Bool.cond_eq_ite,L]at f;omega
  subst b;rw[ZO];exact h;rw[za L]at h;refine⟨λout i=>out=[]/\i=0,λ_ _=>0,⟨rfl,rfl⟩,?_⟩;rintro out i ⟨rfl,rfl⟩;have e:decide (lb x.text=(#[116,114,117,101]:Array UInt8).toList)=Tb:=zE L;rw[e];exact⟨λf=>by simp[Bool.cond_eq_ite]at f,λ_=>h⟩)
 have ak:=hs.s.keys;have em:(⟨#[109,101,109,98,101,114,115]⟩:Bt)=bl zq:=rfl;rw[em];refine lP (by omega) ⟨λc=>lP (by omega) ?_,λc=>?_⟩;have c:0<=idxOfS s.keys (bl zq):=zB c;have r:(idxOfS s.keys (bl zq)).toNat<s.items.length:=by
  have:=hs.keys;have e:idxOfS s.keys (bl zq)=(((idxOfS s.keys (bl zq)).toNat:Nat):Int):=by omega
  have:=(ZH.1 (rR e)).1;omega
 refine⟨s.items[(idxOfS s.keys (bl zq)).toNat],⟨c,YR r⟩,B _ _ _ _ ?_ (hs.item (YW r)).s.keys⟩;unfold xe;rw[zb c,YR r];rfl;have c:¬0<=idxOfS s.keys (bl zq):=zC c;refine B _ _ _ _ ?_ (by simp);unfold xe;rw[za c];rfl;have Z:lb q=Zg:=zB Z;rw[Z,xI]at h;have ae:qg n x=Ta:=by rw[Z,rJ]at o;exact o
 by_cases G:v.kind=5;rw[zb G]at h;have gk:∀k,k<v.items.length->(((zak v.items.length).take (k+1)).flatMap λ(i:Nat)=>v.items[i]?.elim [] λy=>qi zr yy n x y (p++[bl (Lib.itoa i)]))=(((zak v.items.length).take k).flatMap λ(i:Nat)=>v.items[i]?.elim [] λy=>qi zr yy n x y (p++[bl (Lib.itoa i)]))++qi zr yy n x (v.items[k]?.getD x) (p++[bl (Lib.itoa k)]):=λk A=>by rw[xn (by simpa using A),List.getElem_range,YR A];rfl
 have t:∀i∈zak v.items.length,(v.items[i]?.elim [] λy=>qi zr yy n x y (p++[bl (Lib.itoa i)])).length<=16777216:=λi hi=>by have hi:=zbc.1 hi;rw[YR hi];exact kf w (z.item (YW hi))
 refine⟨λout i=>∃k:Nat,i=k/\k<=v.items.length/\out=(((zak v.items.length).take k).flatMap λ(i:Nat)=>v.items[i]?.elim [] λy=>qi zr yy n x y (p++[bl (Lib.itoa i)])).map fE,λ_ i=>v.items.length-i.toNat,⟨0,rfl,ZN _,by simp⟩,?_⟩;rintro out i ⟨k,rfl,A,rfl⟩;refine⟨λf=>?_,λf=>?_⟩;have b:k<v.items.length:=by simp[G]at f;omega
 have o:=YW b;have aa:=jd o;have l1:=sn t k;have l2:=kf (n:=n) (p:=p++[bl (Lib.itoa k)]) w (z.item o);refine⟨v.items[k],⟨by omega,jl b⟩,rH (by omega) (by omega) (Qf (by omega) (h0 ae _ (.inr o) _ (by simp;omega) ⟨by simp only[ZA];omega,?_⟩))⟩;rw[qd b (by omega)];refine⟨⟨k+1,rfl,by omega,?_⟩,by simp only[YO];omega⟩;rw[gk k b,ZZ,YR b];rfl;have b:k=v.items.length:=by simp[G]at f;omega
 subst b;rw[show(zak v.items.length).take v.items.length=zak v.items.length by rw[zag (by simp)]];exact h;rw[za G]at h;refine⟨λout i=>out=[]/\i=0,λ_ _=>0,⟨rfl,rfl⟩,?_⟩;rintro out i ⟨rfl,rfl⟩;have e:(v.kind==5)=Tb:=by simpa using G
 rw[e];exact⟨λf=>by simp[Bool.cond_eq_ite]at f,λ_=>h⟩;have Q:lb q=zq:=zB Q;rw[Q,xR]at h;have ra:∀y∈x.items,qg n y=Ta:=by rw[Q,Xk,ZE,ZJ]at o;exact o.2
 have ai:=w.s.keys;have zl:(v.keys.zip v.items).length=v.keys.length:=by rw[List.length_zip];omega
 have t:∀m∈v.keys.zip v.items,((xe x m.1).elim [] λy=>qi zr yy n y m.2 (p++[m.1])).length<=16777216:=λm o=>by
  cases A:xe x m.1 with
  |none=>exact ZN _
  |some y=>exact kf (w.item (wy A)) (z.item (sd o))
 refine⟨λout i=>∃k:Nat,i=k/\k<=v.keys.length/\out=(((v.keys.zip v.items).take k).flatMap λm=>(xe x m.1).elim [] λy=>qi zr yy n y m.2 (p++[m.1])).map fE,λ_ i=>v.keys.length-i.toNat,⟨0,rfl,ZN _,by simp⟩,?_⟩;rintro out i ⟨k,rfl,A,rfl⟩;refine⟨λf=>?_,λf=>?_⟩;have b:k<v.keys.length:=by simp at f;omega
 have H:k<v.items.length:=by omega
 have E:k<(v.keys.zip v.items).length:=by omega
 have hz:(v.keys.zip v.items)[k]=(v.keys[k],v.items[k]):=by simp
 have o:=YW H;have aa:=jd o;have l1:=sn t k;refine⟨v.keys[k],⟨by omega,by simp⟩,lP (by omega) ⟨λc=>?_,λc=>?_⟩⟩;have c:0<=idxOfS x.keys v.keys[k]:=zB c;have r:(idxOfS x.keys v.keys[k]).toNat<x.items.length:=by
  have:=w.keys;have e:idxOfS x.keys v.keys[k]=(((idxOfS x.keys v.keys[k]).toNat:Nat):Int):=by omega
  have:=(ZH.1 (rR e)).1;omega
 have F:xe x v.keys[k]=Tc x.items[(idxOfS x.keys v.keys[k]).toNat]:=by unfold xe;rw[zb c,YR r]
 have C:=YW r;have l2:=kf (n:=n) (p:=p++[v.keys[k]]) (w.item C) (z.item o);refine⟨x.items[(idxOfS x.keys v.keys[k]).toNat],⟨c,YR r⟩,v.items[k],⟨by omega,jl H⟩,v.keys[k],⟨by omega,by simp⟩,?_⟩;refine Qf (by omega) (h1 _ C (ra _ C) _ (.inr o) _ (by simp;omega) ⟨by simp only[ZA];omega,?_⟩);rw[qd b (by omega)];refine⟨⟨k+1,rfl,by omega,?_⟩,by simp only[YO];omega⟩;rw[xn E,ZZ,hz];show _=_++((xe x v.keys[k]).elim [] λy=>qi zr yy n y v.items[k] (p++[v.keys[k]])).map fE;rw[F];rfl;have c:¬0<=idxOfS x.keys v.keys[k]:=zC c;rw[qd b (by omega)];refine⟨⟨k+1,rfl,by omega,?_⟩,by simp only[YO];omega⟩;rw[xn E,ZZ,hz];show _=_++((xe x v.keys[k]).elim [] λy=>qi zr yy n y v.items[k] (p++[v.keys[k]])).map fE;rw[show xe x v.keys[k]=Td by unfold xe;rw[za c]];simp;have b:k=v.keys.length:=by simp at f;omega
 subst b;rw[zag (by omega)];exact h;have J:lb q=fX:=zB J;rw[J,vD]at h;have ra:∀y∈x.items,qg n y=Ta:=by rw[J,qH,ZE,ZJ]at o;exact o.2
 have t:∀y∈x.items,(qi zr yy n y v p).length<=16777216:=λy hy=>kf (w.item hy) z;refine⟨λout i=>∃k:Nat,i=k/\k<=x.items.length/\out=((x.items.take k).flatMap λy=>qi zr yy n y v p).map fE,λ_ i=>x.items.length-i.toNat,⟨0,rfl,ZN _,by simp⟩,?_⟩;rintro out i ⟨k,rfl,A,rfl⟩;refine⟨λf=>?_,λf=>?_⟩;have b:k<x.items.length:=by simp at f;omega
 have o:=YW b;have l1:=sn t k;have l2:=t _ o;refine⟨x.items[k],⟨by omega,jl b⟩,h1 _ o (ra _ o) _ (.inl rfl) _ hp ⟨by simp only[ZA];omega,?_⟩⟩;rw[qd b (by omega)];refine⟨⟨k+1,rfl,by omega,?_⟩,by simp only[YO];omega⟩;rw[xn b,ZZ];have b:k=x.items.length:=by simp at f;omega
 subst b;rw[ZO];exact h;have n1:lb q≠wv:=zC n1;have n2:lb q≠yw:=zC n2;have M:lb q≠Zg:=zC M;have V:lb q≠zq:=zC V;have U:lb q≠fX:=zC U;rw[IS n1 n2 M V U]at h;refine Mo hg w z o ⟨n1,n2,M,V,U⟩ (λhr=>h0 hr v (.inl rfl)) (λy hy hr=>h1 y hy hr v (.inl rfl)) ⟨λc=>?_,λc=>?_⟩;have c:mR (qi zr yy n) (lb q) x v=Tb:=by simpa using c
 rw[c]at h;refine Qf (by omega) ⟨by simp,⟨by omega,by simp⟩,_,rfl,⟨by omega,by omega,by simp;omega⟩,⟨by omega,by simp⟩,_,rfl,?_⟩;have e:List.set [((p++[⟨#[]⟩],q):List Bt×Bt)] (0:Int).toNat (List.drop (0:Int).toNat (List.take (((zam p:Nat):Int)).toNat (p++[⟨#[]⟩])),q)=(fa Tb p (lb q)).map fE:=by simp[fa,fE]
 rw[<-e]at h;exact h;have c:mR (qi zr yy n) (lb q) x v=Ta:=by simpa using c
 rw[c]at h;exact h
end
end
section
variable {s v:Tr} {w:Bt} {n k:Nat} {R:Bool -> Prop}
section
variable {gl : Fr}
theorem FC{R:List Bt->Prop}(h:R (sWords.map bl)):PC Tp gl 57 [] [.row .str] R:=by apply OL;exact h
theorem AS(c:Ok s)(h:0<=idxOfS s.keys w):∃(b:(idxOfS s.keys w).toNat<s.items.length),xe s w=Tc s.items[(idxOfS s.keys w).toNat]:=by
 have b:(idxOfS s.keys w).toNat<s.items.length:=by
  have:=c.keys;have e:idxOfS s.keys w=(((idxOfS s.keys w).toNat:Nat):Int):=by omega
  have:=(ZH.1 (rR e)).1;omega
 refine⟨b,?_⟩;unfold xe;rw[zb h,YR b]
theorem Eb(h:¬0<=idxOfS s.keys w):xe s w=Td:=by unfold xe;rw[za h]
def gW(n:Nat)(s v:Tr)(p:List Bt)(k:Nat):List dR:=(sWords.take k).flatMap λw=>(xe s (bl w)).elim [] λx=>fG zr yy (qi zr yy n) s w x v p
theorem Kf(n:Nat)(s v:Tr)(p:List Bt):gW n s v p 13=qi zr yy (n+1) s v p:=rfl
theorem H8{s v x:Tr}{p:List Bt}(b:k<sWords.length)(h:xe s (bl sWords[k])=Tc x):gW n s v p (k+1)=gW n s v p k++fG zr yy (qi zr yy n) s sWords[k] x v p:=by unfold gW;rw[xn b,h];rfl
theorem Bl{p:List Bt}(b:k<sWords.length)(h:xe s (bl sWords[k])=Td):gW n s v p (k+1)=gW n s v p k:=by unfold gW;rw[xn b,h];simp
theorem G3{p:List Bt}(c:Ok s)(b:Ok v)(k:Nat):(gW n s v p k).length<=k*16777216:=
 sn (λw e=>by
  cases hk:xe s (bl w)with
  |none=>exact ZN _
  |some x=>exact vt (c.item (wy hk)) b) k
set_option maxHeartbeats 1000000 in
theorem Bm(E:GL gl):∀(n:Nat) (s v:Tr),bR s<=n->Ok s->Ok v->qg n s=Ta->mH gl n s v
 |0,s,v,B,_,_,_=>by have:=Xu s;omega
 |n+1,s,v,B,hs,q,m=>λp M {R} h=>by
  apply QL;simp only[qu];refine FC ?_;have L:=hs.s.keys;have o:(sWords.map bl).length=13:=rfl;have F:sWords.length=13:=rfl;rw[<-Kf]at h;have x:∀(k:Nat) (C:k<sWords.length),(sWords.map bl)[k]?=Tc (bl sWords[k]):=λk C=>by simp[C]
  generalize sWords.map bl=W at o x ⊢;rw[o];refine⟨λout i=>∃k:Nat,i=k/\k<=13/\out=(gW n s v p k).map fE,λ_ i=>13-i.toNat,⟨0,rfl,ZN _,rfl⟩,?_⟩;rintro out i ⟨k,rfl,C,rfl⟩;refine⟨λA=>?_,λA=>?_⟩;have e:k<13:=by simp at A;omega
  have b:k<sWords.length:=by omega
  have N:=G3 (n:=n) (p:=p) hs q k;refine⟨bl sWords[k],⟨by omega,by rw[YO,x k b]⟩,lP (by omega) ⟨λl=>?_,λl=>?_⟩⟩;have l:0<=idxOfS s.keys (bl sWords[k]):=zB l;obtain⟨r,f⟩:=AS hs l;have H:=YW r;have I:=jd H;have c:=hs.item H;have t:=v8 m (qm hs.nd) f;have O:=vt (n:=n) (s:=s) (w:=sWords[k]) (p:=p) c q;have D:∀y,bR y<=n->Ok y->qg n y=Ta->∀u,(u=v\/u∈v.items)->mH gl n y u:=λy B J m u z=>Bm E n y u B J (by rcases z with rfl|z;exact q;exact q.item z) m;refine⟨bl sWords[k],⟨by omega,by rw[YO,x k b]⟩,s.items[(idxOfS s.keys (bl sWords[k])).toNat],⟨l,YR r⟩,?_⟩;refine KC (n:=n) E hs c q (by rw[jg];exact t) M (λm=>D _ (by omega) c m) (λy G m=>D y (by have:=jd G;omega) (c.item G) m) ?_;rw[jg];refine⟨by rw[ZA,ZA];omega,?_⟩;rw[qd e (by omega)];exact⟨⟨k+1,rfl,by omega,by rw[H8 b f,ZZ]⟩,by simp only[YO];omega⟩;have l:¬0<=idxOfS s.keys (bl sWords[k]):=zC l;rw[qd e (by omega)];exact⟨⟨k+1,rfl,by omega,by rw[Bl b (Eb l)]⟩,by simp only[YO];omega⟩;have e:k=13:=by simp at A;omega
  subst e;exact h
def Y7(s v:Tr):List dR×Int:=if dK s=Ta/\yn v=Ta then(qi zr yy (bR s) s v [],0)else([],1)
theorem Hl(f:GL gl)(l:Sm s)(i:Sm v){R:List (List Bt×Bt)×Int->Prop}(h:R ((Y7 s v).1.map fE,(Y7 s v).2)):PC Tp gl 15 [Arg.mk .tree s,Arg.mk .tree v] [.row Xp,.int .i64] R:=by
 apply Sz;simp only[qu];unfold Y7 at h;refine vu f l (BQ f i ?_);by_cases h1:dK s=Ta;by_cases b:yn v=Ta;rw[zb ⟨h1,b⟩]at h;rw[h1,b];have os:=Q1 l (t6 h1);have k:=Q1 i b;have:=k.dp;exact⟨λc=>(nomatch c),λ_=>Bm f (bR s) s v (YM _) os k (tX h1 (YM _)) [] (by simp;omega) h⟩;rw[za (λe=>b e.2)]at h;have b:yn v=Tb:=by simpa using b
 rw[h1,b];exact⟨λ_=>h,λc=>(nomatch c)⟩;rw[za (λe=>h1 e.1)]at h;have h1:dK s=Tb:=by simpa using h1
 rw[h1];exact⟨λ_=>h,λc=>(nomatch c)⟩
theorem GZ(s v:Tr):gK zr yy s v=(decide ((Y7 s v).2=0)&&decide ((Y7 s v).1.length=0)):=by unfold gK Y7;by_cases h1:dK s=Ta;by_cases b:yn v=Ta;rw[zb ⟨h1,b⟩,h1,b];cases qi zr yy (bR s) s v [] <;> simp;rw[za (λe=>b e.2)];simp[b];rw[za (λe=>h1 e.1)];simp[h1]
theorem NR(b:GL gl)(c:Sm s)(f:Sm v)(h:R (gK zr yy s v)):PC Tp gl 20 [Arg.mk .tree s,Arg.mk .tree v] [.bool] R:=by
 apply Ve;simp only[qu];refine Hl b c f ?_;rw[GZ]at h;have e:(bif ((Y7 s v).2==0)then((((zam ((Y7 s v).1.map fE):Nat):Int))==0)else Tb)=(decide ((Y7 s v).2=0)&&decide ((Y7 s v).1.length=0)):=by
  rw[fx,fx,ZA];cases decide ((Y7 s v).2=0)with
  |false=>rfl
  |true=>simp
 rw[<-e]at h;exact h
theorem KW(x:GL gl)(q:Sm s){R:List Bt->Prop}(h:R (hH s)):PC Tp gl 23 [Arg.mk .tree s] [.row .str] R:=by
 apply U5;simp only[qu];refine vu x q (FC ?_);have y:=q.keys;have f:(sWords.map bl).length=13:=rfl;have t:sWords.length=13:=rfl;unfold hH at h;by_cases h1:dK s=Ta;rw[zb h1]at h;rw[h1];have o:∀(k:Nat) (n:k<sWords.length),(sWords.map bl)[k]?=Tc (bl sWords[k]):=λk n=>by simp[n]
 generalize sWords.map bl=W at f o ⊢;rw[f];refine⟨λout i=>∃k:Nat,i=k/\k<=13/\out=((sWords.take k).filter λw=>decide (0<=idxOfS s.keys (bl w))).map bl,λ_ i=>13-i.toNat,⟨0,rfl,ZN _,rfl⟩,?_⟩;rintro out i ⟨k,rfl,n,rfl⟩;refine⟨λm=>?_,λm=>?_⟩;have b:k<13:=by simp at m;omega
 have c:k<sWords.length:=by omega
 have r:=Y6 (p:=λw:Bs=>decide (0<=idxOfS s.keys (bl w))) (l:=sWords) k;refine⟨bl sWords[k],⟨by omega,by rw[YO,o k c]⟩,lP (by omega) ⟨λe=>?_,λe=>?_⟩⟩;have e:0<=idxOfS s.keys (bl sWords[k]):=zB e;refine⟨bl sWords[k],⟨by omega,by rw[YO,o k c]⟩,by rw[ZA];exact zaj (ZF _ (Nat.add_le_add_right (Y6 k) _)) (by simp;omega),?_⟩;rw[qd b (by omega)];exact⟨⟨k+1,rfl,by omega,by rw[wb c,zb (zD e),ZZ];rfl⟩,by simp only[YO];omega⟩;have e:¬0<=idxOfS s.keys (bl sWords[k]):=zC e;rw[qd b (by omega)];exact⟨⟨k+1,rfl,by omega,by rw[wb c,za (by simpa using e),ZY]⟩,by simp only[YO];omega⟩;have b:k=13:=by simp at m;omega
 subst b;exact h;have u:dK s=Tb:=by simpa using h1
 rw[za h1]at h;rw[u];refine⟨λout i=>out=[]/\i=0,λ_ _=>0,⟨rfl,rfl⟩,?_⟩;rintro out i ⟨rfl,rfl⟩;exact⟨λm=>by simp[Bool.cond_eq_ite]at m,λ_=>h⟩
theorem OZ{a b:List (List Bt×Bt)}(z:a.length<=1000000000)(s:∀x∈a,x.1.length<=1000000)(h:∀r,(r=Ta↔a=b)->R r):PC Tp gl 16 [Arg.mk (.row Xp) a,Arg.mk (.row Xp) b] [.bool] R:=by
 apply IM;refine⟨λl=>h Tb ⟨λe=>(nomatch e),λe=>by rw[e]at l;simp at l⟩,λl=>?_⟩;have y:a.length=b.length:=by
  have:((a.length:Nat):Int)=((b.length:Nat):Int):=by simpa using l
  omega
 refine⟨λi=>∃k:Nat,i=k/\k<=a.length/\a.take k=b.take k,λi=>a.length-i.toNat,⟨0,rfl,ZN _,rfl⟩,?_⟩;rintro i ⟨k,rfl,w,e⟩;refine⟨λl=>?_,λl=>?_⟩;have c:k<a.length:=by simp at l;omega
 have o:k<b.length:=by omega
 have p:a[((k:Int)).toNat]?=Tc a[k]:=by simp
 have q:b[((k:Int)).toNat]?=Tc b[k]:=by simp
 have t:a[k]≠b[k]->R Tb:=λu=>h Tb ⟨λe=>(nomatch e),λe=>by subst e;exact absurd rfl u⟩;simp only[Xy];refine⟨a[k],⟨by omega,p⟩,b[k],⟨by omega,q⟩,a[k],λ_=>⟨by omega,p⟩,b[k],λ_=>⟨by omega,q⟩,λr=>(r=Ta↔a[k].1=b[k].1),λ_=>oc (s _ (YW c)) λr n=>n,λr n=>⟨λm=>?_,λm=>?_⟩⟩;refine t λe=>?_;have f:a[k].2=b[k].2:=by rw[e]
 have h1:=(n (by simp[f])).2 (by rw[e]);rw[h1]at m;simp[f]at m;have f:a[k].2=b[k].2:=by by_cases f:a[k].2=b[k].2;exact f;simp[f]at m
 have h1:a[k].1=b[k].1:=(n (by simp[f])).1 (by simpa[f]using m);rw[qd c (by omega)];refine⟨⟨k+1,rfl,by omega,?_⟩,by simp only[YO];omega⟩;rw[Xq c,Xq o,e,Prod.ext h1 f];have c:k=a.length:=by simp at l;omega
 subst c;rw[ZO,zag (by omega)]at e;exact h Ta ⟨λ_=>e,λ_=>rfl⟩
end
end
end Go.X
end
section
namespace Go.X
open Go Go.X Go.Proofs Go.Lib Go.RowKit
section
variable {R:Bool -> Prop} {s:Bt} {v:Tr} {h:zc}
section
variable {gl : Fr}
theorem vM{xs:List Bt}{x:Bt}(h:R (decide (0<=idxOfS xs x))):PC Tp gl 56 [Arg.mk (.row .str) xs,Arg.mk .str x] [.bool] R:=by
 intro l M vs y ag k
 match vs,k with
 |[u,v],⟨h1,h2,_⟩=>
  have i:Rd M (.row .str) xs [u]:=by simpa[RdV,fe]using h1
  have c:v=.string x:=by simpa[RdV,fe,Rd]using h2
  subst c;obtain⟨s,rfl,f,A,cells,t,k⟩:=Rd.rowC ag i;have:=Es t;subst this;have key:∀w:World,w.heap=l->Calls Tp 56 #[aK s,.string x] w λe w'=>e=.returned (.bool (decide (0<=idxOfS xs x)))/\w'=w:=by
   intro w n;rcases k with h0|⟨b,o,q,z,r⟩;have p:xs=[]:=by simpa using h0
   subst p;have:=Qg s.a s.cap x w;simp only[aK,f];exact this;have:=J9 b o s.len s.cap xs x w (by omega) (by omega) (λj m=>by have:=r j (.string (xs.getD j zc1)) (by rw[zai,YR m,zbv,YR m];rfl);rw[<-n]at this;exact this);rw[f,ZO]at this;simp only[aK,q,f];exact this
  refine XC.of_calls λB d=>(key (mk B d l) rfl).mono ?_;rintro e w' ⟨rfl,rfl⟩;exact⟨_,rfl,rfl,rfl,rfl,Keep.refl _ _,M,_,Fr.le.refl _,λ_ _=>rfl,ag,rU _,h⟩
theorem K6(w:World)(s:Bt)(p:Nat):Below w.heap.size w (w.iter s p):=⟨rfl,rfl,rfl,by show w.heap.size<=(w.heap.push _).size;rw[ZI];exact Nat.le_succ _,λi hi=>by show(w.heap.push _)[i]?=_;rw[Array.getElem?_push,za (by omega)]⟩
theorem YH(f:s.size<9223372036854775807){R:Int->Prop}(h:R (runeCount s)):PC Tp gl 276 [Arg.mk .str s] [.int .i64] R:= PC.of_scal rfl (λ_=>nE _ _) h λw i=>(J8 s w f).mono λe w' ⟨c,p,b⟩=>⟨c,b ▸ K6 w s p⟩
theorem um(f:Ok v){key:Bt}{R:Tr×Bool->Prop}(h:R ((xe v key).getD (.mk 0 ⟨#[]⟩ [] []),(xe v key).isSome)):PC Tp gl 90 [Arg.mk .tree v,Arg.mk .str key] [.tree,.bool] R:=by apply T2;simp only[qu];refine JZ ⟨λb=>?_,λb=>?_⟩;have b:idxOfS v.keys key<0:=zB b;rw[Eb (by omega)]at h;exact h;have b:¬idxOfS v.keys key<0:=zC b;obtain⟨c,e⟩:=AS f (w:=key) (by omega);rw[e]at h;exact⟨v.items[(idxOfS v.keys key).toNat],⟨by omega,YR c⟩,h⟩
theorem Rw(c:Ok v)(b:v.kind=3):(zo (lb v.text)).2=0:=by have:=qm c.nd;unfold zn at this;simp[b,eZ]at this;exact this.1.1.1
def oo(v:Tr):Int×Bool:=if v.kind=3 then((ww v).1,(ww v).2&&decide (0<=(ww v).1))else(0,Tb)
theorem Ft(n:GL gl)(l:Ok v){R:Int×Bool->Prop}(h:R (oo v)):PC Tp gl 167 [Arg.mk .tree v] [.int .i64,.bool] R:=by
 apply N1;have k:=nI l.s;have i:=od (gl:=gl) (s:=lb v.text) k (R:=λr=>r=(eT (zo (lb v.text)).1,(zo (lb v.text)).2)) rfl;rw[gv]at i;refine i.mono λr m=>?_;subst m;unfold oo at h;by_cases c:v.kind=3;rw[zb c]at h;rw[Rw l c,c];refine⟨λf=>(nomatch f),λ_=>AJ n (jc _ k) ?_⟩;have e:∀b:Bool,(bif b then(decide ((jR (zo (lb v.text)).1).1>=0))else Tb)=(b&&decide (0<=(jR (zo (lb v.text)).1).1)):=λb=>by cases b <;> rfl
 rw[e];exact h;rw[za c]at h;have e:(v.kind != 3)=Ta:=by simpa using c
 rw[e];exact⟨λ_=>h,λf=>(nomatch f)⟩
theorem QW(m:Sm v){R:Int×Bool->Prop}(h:R (if j7 v<0 then(0,Tb)else(j7 v,Ta))):PC Tp gl 220 [Arg.mk .tree v] [.int .i64,.bool] R:=by
 apply QP;have l:=m.text;rw[iz]at l;unfold j7 at h;simp only[fx];refine⟨λe=>YH (by omega) ?_,λe=>?_⟩;have e:v.kind=4:=zB e;have b:¬(v.kind=5\/v.kind=6):=by omega
 simp only[za b,zb e]at h;rw[za (by omega)]at h;exact h;have e:¬v.kind=4:=zC e;intro K i;refine⟨λc=>i _ ⟨λ_=>?_,λk=>by rw[k]at c;cases c⟩,λc=>i _ ⟨λf=>?_,λf=>?_⟩⟩;have c:v.kind=5:=zB c;have b:v.kind=5\/v.kind=6:=.inl c;simp only[zb b]at h;rw[za (by omega)]at h;exact h;have f:v.kind=6:=zB f;have b:v.kind=5\/v.kind=6:=.inr f;simp only[zb b]at h;rw[za (by omega)]at h;exact h;have c:¬v.kind=5:=zC c;have f:¬v.kind=6:=zC f;have b:¬(v.kind=5\/v.kind=6):=by omega
 simp only[za b,za e]at h;rw[zb (by omega)]at h;exact h
def kindC:List Value:=((⟨#[]⟩:Bt)::sKinds.map bl).map ZD
theorem UN:qj Tp 224=Ta:=by kernel_rfl
theorem WZ:yb Tp 224=7:=by kernel_rfl
theorem FP{b:Nat}{cs:Array Value}(H:Blk h b cs)(f:cs.size=7){K:zc->Prop}
  (k:∀h':zc,Blk h' b kindC.toArray->h'.size=h.size->(∀j,j≠b->h'[j]?=h[j]?)->K h'):XRunU Tp (YN 224 (.pointer (Tc ⟨b,0,Td⟩)) (.agg kindC.toArray)) h K:=
 J5 (vs:=kindC) UN H rfl WZ (by rw[f];exact YM _) (by intro u e;simp[kindC,sKinds]at e;rcases e with rfl|rfl|rfl|rfl|rfl|rfl|rfl <;> rfl) λh' c l i=>k h' (by rw[tu (by rw[f];rfl)]at c;exact c) l i
theorem Ih{K:Value->zc->Prop}(i:∀g,Keep h.size h g->K (.agg kindC.toArray) g):XC Tp 228 #[] h K:=by apply WK;intro h1;obtain⟨e,m,l⟩:=jo (g:=h1) rfl;clear_value h1;refine FP l rfl λb k z2 c=>?_;have k2:Keep h.size h b:=⟨by omega,λj f=>by rw[c j (by omega)];exact e.get j f⟩;exact⟨_,_,_,_,_,_,_,k.ld (cs:=[_,_,_,_,_,_,_]),i b k2⟩
theorem BC{R:Int->Prop}(h:R (gE (lb s))):PC Tp gl 166 [Arg.mk .str s] [.int .i64] R:=by
 intro p M vs O ag L
 match vs,L with
 |[u],⟨h1,_⟩=>
  have D:=xt h1;subst D;apply PX.of;apply LQ s;refine Ih λg t=>⟨_,_,_,_,_,_,_,rfl,?_⟩;intro o;obtain⟨x,H,B⟩:=jo (g:=o) rfl;clear_value o;refine FP B rfl λf C N z=>?_;have w:Keep p.size p f:=⟨by have:=t.size;omega,λj J=>by have:=t.size;rw[z j (by omega)];exact(x.get j (by omega)).trans (t.get j J)⟩;have y:Later p M f M:=Later.same ag w;rw[Co]at h;have I:(sKinds.map bl).length=6:=rfl;have E:∀k (A:k<(sKinds.map bl).length),kindC.toArray[0+(k+1)*1]?=Tc (.string (sKinds.map bl)[k]):=λk A=>by rw[ZP,zb1,zb4];unfold kindC;rw[zae,List.getElem?_cons_succ,zai,YR A];rfl
  generalize sKinds.map bl=l at h I E;have fin:∀i:Int,i=idxOfS l s+1->∃M' r,Later p M f M'/\Yf M' [.int .i64] r (.int .i64 i)/\R r:=λi hi=>⟨M,_,y,Yu.2 (Z2 _ _),by rw[hi];exact h⟩;refine⟨λi g'=>∃k:Nat,i=k/\k<=7/\g'=f/\(k=0\/idxOfS l s=idxFromS (l.drop (k-1)) s (k-1)),λi _=>7-i.toNat,⟨0,rfl,ZN _,rfl,.inl rfl⟩,?_⟩;rintro i g' ⟨k,rfl,A,rfl,e⟩;refine⟨λm=>?_,λm=>?_⟩;have c:k<7:=by simp at m;omega
  rcases zcd k with rfl|G;refine⟨⟨0,0,Td⟩,λb=>by simp at b,⟨#[]⟩,λb=>by simp at b,λb=>by simp at b,λ_=>?_⟩;rw[qd c (by omega)];exact⟨⟨1,rfl,by omega,rfl,.inr rfl⟩,by simp only[YO];omega⟩;obtain⟨q,rfl⟩:∃q,k=q+1:=⟨k-1,by omega⟩;have F:q<l.length:=by omega
  have e:idxOfS l s=idxFromS (l.drop q) s q:=by rcases e with e|e;omega;simpa using e
  rw[wu F]at e;have n:decide (((q+1:Nat):Int)>0)=Ta:=zD (by omega);refine⟨⟨g.size,0,Td⟩,λ_=>⟨rfl,by omega,by omega⟩,l[q],λ_=>?_,λb=>?_,λb=>?_⟩;rw[YO,qo];exact C.cell (E q F);rw[n,Xy]at b;rw[zb (by simpa using b)]at e;exact fin _ (by rw[e];omega);rw[n,Xy]at b;rw[za (by simpa using b)]at e;rw[qd c (by omega)];exact⟨⟨q+2,rfl,by omega,rfl,.inr (by simpa using e)⟩,by simp only[YO];omega⟩;have c:k=7:=by simp at m;omega
  subst c;refine fin _ ?_;rcases e with e|e;omega;have e:idxOfS l s=idxFromS (l.drop 6) s 6:=e;rw[zac (by omega),idxFromS]at e;omega
theorem XA(h:R (v.items.all λx=>decide (x.kind=4))):PC Tp gl 168 [Arg.mk .tree v] [.bool] R:=by
 intro l M vs m ag r
 match vs,r with
 |[u],⟨e,_⟩=>
  have e:RdV M .tree v u:=e;obtain⟨sk,si,rfl,B,q⟩:=ye e;apply PX.of;apply Mc v.kind v.text sk si;intro h1;obtain⟨k,z,n⟩:=jo (g:=h1) rfl;clear_value h1;have i:Later l M h1 M:=Later.same ag k;refine⟨si,n.cellAdd rfl,?_⟩;refine(oN (gl:=gl) (A:=#[]) (C:=#[]) i.ag q (p:=λx=>!decide (x.kind=4)) (λx t=>⟨by kernel_rfl,λh' M' u L e=>?_⟩)).go λw y s b o c f=>⟨b,eP c,s,_,i.trans o,Yu.2 (rdBool _),?_⟩;refine PC.px (gl:=gl) (args:=[Arg.mk .tree x]) (vs:=[u]) (Ru gl x _ ?_) (m.trans L.le) L.ag (zm e zz);show(x.kind != 4)=!decide (x.kind=4);rw[bne,fx];have f:b=v.items.any λx=>!decide (x.kind=4):=f;rw[f];have:(!v.items.any λx=>!decide (x.kind=4))=v.items.all λx=>decide (x.kind=4):=by rw[List.all_eq_not_any_not]
  rw[this];exact h
variable {r : Tr -> Bool}
theorem yY(n:∀x∈v.items,∀{R:Bool->Prop},R (r x)->PC Tp gl 52 [Arg.mk .tree x] [.bool] R)(h:R (v.items.all r)):PC Tp gl 169 [Arg.mk .tree v] [.bool] R:=by
 intro l M vs m ag y
 match vs,y with
 |[u],⟨e,_⟩=>
  have e:RdV M .tree v u:=e;obtain⟨sk,si,rfl,E,t⟩:=ye e;apply PX.of;apply SN v.kind v.text sk si;intro h1;obtain⟨k,D,o⟩:=jo (g:=h1) rfl;clear_value h1;have i:Later l M h1 M:=Later.same ag k;refine⟨si,o.cellAdd rfl,?_⟩;refine(oN (gl:=gl) (A:=#[]) (C:=#[]) i.ag t (p:=λx=>!r x) (λx q=>⟨by kernel_rfl,λh' M' u L e=>?_⟩)).go λw B z b s c f=>⟨b,eP c,z,_,i.trans s,Yu.2 (rdBool _),?_⟩;refine PC.px (gl:=gl) (args:=[Arg.mk .tree x]) (vs:=[u]) (Nh gl x _ ?_) (m.trans L.le) L.ag (zm e zz);rw[qu];exact n x q rfl;have f:b=v.items.any λx=>!r x:=f;rw[f];have:(!v.items.any λx=>!r x)=v.items.all r:=by rw[List.all_eq_not_any_not]
  rw[this];exact h
theorem QD(hg:GL gl)(hv:Ok v)(L:∀{R:Bool->Prop},R (r v)->PC Tp gl 52 [Arg.mk .tree v] [.bool] R)
  (N:∀x∈v.items,∀{R:Bool->Prop},R (r x)->PC Tp gl 52 [Arg.mk .tree x] [.bool] R) {q:Bt} (h:R (fb r (lb q) v)):PC Tp gl 96 [Arg.mk .str q,Arg.mk .tree v] [.bool] R:=by
 apply Sa;simp only[jA,qu];have l:∀{k:Int} {f:FuncId} {b:Bool},(∀{R:Bool->Prop},R b->PC Tp gl f [Arg.mk .tree v] [.bool] R)->R (decide (v.kind=k)&&b)->∃J:Bool->Prop,((v.kind==k)=Ta->PC Tp gl f [Arg.mk .tree v] [.bool] J)/\∀x:Bool,((v.kind==k)=Ta->J x)->R (bif (v.kind==k)then x else Tb):=λ {k f b} hf Z=>by refine⟨λx=>x=b,λ_=>hf rfl,λx y=>?_⟩;rw[fx]at y ⊢;by_cases e:v.kind=k;have:=y (by simpa using e);rw[this];simpa[e]using Z;simpa[e]using Z
 refine⟨λQ=>?_,λV=>⟨λu=>?_,λY=>?_⟩⟩;have Q:lb q=Yo:=zB Q;rw[Q,Dj]at h;refine⟨λx=>x=gE (lb v.text),λ_=>BC rfl,λx y=>?_⟩;rw[fx]at y ⊢;by_cases e:v.kind=4;rw[y (by simpa using e)];simpa[e]using h;simpa[e]using h;have u:lb q=Xh:=zB u;rw[u,A8]at h;rw[fx];exact h;intro K c;have V:lb q≠Yo:=zC V;have Y:lb q≠Xh:=zC Y;have yes:(lb q=js\/lb q=Yp)->R (v.kind==3):=λe=>by rw[fx];rcases e with e|e;rw[e,sP]at h;exact h;rw[e,qM]at h;exact h
 refine⟨λS=>c _ ⟨λ_=>yes (.inl (zB S)),λf=>by rw[f]at S;cases S⟩,λD=>c _ ⟨λe4=>yes (.inr (zB e4)),λF=>?_⟩⟩;have D:lb q≠js:=zC D;have F:lb q≠Yp:=zC F;intro K c;have yes:(lb q=xb\/lb q=X8)->PC Tp gl 167 [Arg.mk .tree v] [.int .i64,.bool] (λU:Int×Bool=>R U.2):=λe=>by
  refine Ft hg hv ?_;have u:fb r (lb q) v=(decide (v.kind=3)&&((ww v).2&&decide (0<=(ww v).1))):=by rcases e with e|e;rw[e,yT];rw[e,wV]
  rw[u]at h;unfold oo;by_cases z:v.kind=3;rw[zb z];simpa[z]using h;rw[za z];simpa[z]using h
 refine⟨λA=>c _ ⟨λ_=>yes (.inl (zB A)),λf=>by rw[f]at A;cases A⟩,λB=>c _ ⟨λe6=>yes (.inr (zB e6)),λI=>?_⟩⟩;have B:lb q≠xb:=zC B;have I:lb q≠X8:=zC I;refine⟨λC=>?_,λM=>⟨λO=>?_,λP=>?_⟩⟩;have C:lb q=wv:=zB C;rw[C,Hu]at h;exact l (λ {R} h=>XA h) h;have O:lb q=yw:=zB O;rw[O,HQ]at h;rw[fx];exact h;have M:lb q≠wv:=zC M;have P:lb q≠yw:=zC P;intro K c;have yes:(lb q=Zg\/lb q=ir)->PC Tp gl 52 [Arg.mk .tree v] [.bool] (λw:Bool=>R w):=λe=>by refine L ?_;rcases e with e|e;rw[e,rJ]at h;exact h;rw[e,qX]at h;exact h
 refine⟨λE=>c _ ⟨λ_=>yes (.inl (zB E)),λf=>by rw[f]at E;cases E⟩,λG=>c _ ⟨λH=>yes (.inr (zB H)),λn=>?_⟩⟩;have G:lb q≠Zg:=zC G;have n:lb q≠ir:=zC n;refine⟨λm=>?_,λp=>?_⟩;have m:lb q=zq:=zB m;rw[m,Xk]at h;exact l (λ {R} h=>yY N h) h;have p:lb q≠zq:=zC p;intro K c;refine⟨λi=>c _ ⟨λ_=>?_,λf=>by rw[f]at i;cases i⟩,λs=>c _ ⟨λo=>?_,λt=>?_⟩⟩;have i:lb q=fX:=zB i;rw[i,qH]at h;exact l (λ {R} h=>yY N h) h;have o:lb q=fQ:=zB o;rw[o,r9]at h;exact l (λ {R} h=>yY N h) h;have s:lb q≠fX:=zC s;have t:lb q≠fQ:=zC t;rw[uF (vd V Y D F B I M P G n p s t)]at h;exact h
theorem vE(q:GL gl):∀(n:Nat) (v:Tr),bR v<=n->Ok v->∀{R:Bool->Prop},R (qg n v)->PC Tp gl 52 [Arg.mk .tree v] [.bool] R
 |0,v,hd,_,_,_=>by have:=Xu v;omega
 |n+1,v,hd,hv,R,h=>by
  apply UQ;have m:=hv.keys;have z:=hv.items;rw[qg]at h;refine⟨λi=>∃k:Nat,i=k/\k<=v.keys.length/\((v.keys.take k).zip (v.items.take k)).all (λp=>fb (qg n) (lb p.1) p.2)=Ta,λi=>v.keys.length-i.toNat,⟨0,rfl,by omega,by simp⟩,?_⟩;rintro i ⟨k,rfl,w,f⟩;refine⟨λt=>?_,λt=>?_⟩;have b:k<v.keys.length:=by simp at t;omega
  have c:k<v.items.length:=by omega
  refine⟨v.keys[k],⟨by omega,by simp⟩,v.items[k],⟨by omega,jl c⟩,?_⟩;rw[qu];have l:v.items[k]∈v.items:=YW c;have o:bR v.items[k]<=n:=by have:=jd l;omega
  refine QD (r:=qg n) q (hv.item l) (λ {R} h=>vE q n _ o (hv.item l) h) (λy u {R} h=>vE q n y (by have:=jd u;omega) ((hv.item l).item u) h) ⟨λs=>?_,λs=>?_⟩;have x:(v.keys.zip v.items).all (λp=>fb (qg n) (lb p.1) p.2)=Tb:=by rw[zcj];exact⟨(v.keys[k],v.items[k]),zbr.2 ⟨k,by simp;omega,by simp⟩,by simpa using s⟩
  rw[x,Bool.and_false]at h;exact h;rw[qd b (by omega)];refine⟨⟨k+1,rfl,by omega,?_⟩,by grind⟩;rw[F2 b c,f,zao];simpa using s;have b:k=v.keys.length:=by simp at t;omega
  subst b;have e:(v.keys.take v.keys.length).zip (v.items.take v.keys.length)=v.keys.zip v.items:=by rw[@List.zip_eq_zip_take_min _ _ v.keys v.items,zcz m,ZO]
  rw[e]at f;rw[f,zbp]at h;rw[fx];exact h
theorem tj(b:GL gl)(c:Sm v)(h:R (dK v)):PC Tp gl 17 [Arg.mk .tree v] [.bool] R:=by
 apply Tz;rw[qu];unfold dK at h;refine wx b c ⟨λr=>r=qg (bR v) v,λh1=>vE b _ v (YM _) (Q1 c h1) rfl,λx e=>?_⟩;cases h1:yn v with
 |false=>rw[h1]at h;exact h
 |true=>rw[h1]at h e;rw[e rfl];exact h
end
end
section
variable {h:zc} {K:Value -> zc -> Prop}
theorem Ub{n:Nat}(C:n<=2000000)
  (t:∀(g:zc) (s':Sl),Keep h.size h g->s'.len=0->Owns g h.size 9 1 s' []->K (aK s') g):XC Tp 337 #[.slice Td 0 0,.int .i64 (n:Int)] h K:=by
 apply Q0 ⟨Td,0,0⟩ (n:Int);intro A p;have x:YJ .i64 (((0:Nat):Int)-((0:Nat):Int))=0:=by rw[wrap64 (by omega) (by omega)];rfl
 have z:YJ .i64 ((n:Int)-0)=(n:Int):=by rw[wrap64 (by omega) (by omega)];omega
 refine⟨λl=>absurd (zB l) (by omega),λ_=>p h ?_⟩;show(decide (YJ .i64 ((n:Int)-YJ .i64 (((0:Nat):Int)-((0:Nat):Int)))>0)=Ta->_)/\(decide (YJ .i64 ((n:Int)-YJ .i64 (((0:Nat):Int)-((0:Nat):Int)))>0)=Tb->_);rw[x,z];refine⟨λl=>?_,λl=>t h ⟨Td,0,0⟩ (Keep.refl _ _) rfl (Owns.nil _ _ _ _)⟩;have h0:0<n:=by have:=zB l;omega
 refine⟨.inl rfl,⟨by omega,by omega,by omega,by omega⟩,?_⟩;intro B d;obtain⟨i,hi,y,e,f⟩:=elemStr.info;have b:(zbk i.size 0 (.slice Td 0 0)).run Tp (mk B d h).drew=.ok (([]:List Value)).toArray (mk B d h).drew:=by rw[e];exact Qc (s:=⟨Td,0,0⟩) (n:=h.size) (.inl rfl) rfl (by omega) B (d+1)
 have u:=Lib.run_append_grow_zeros (P:=Tp) (mk B d h) 22 3 22 9 i _ .i64 .i64 elemStr.slice (by kernel_rfl) hi y Td 0 0 [] b n h0 (by rw[e];omega) (by omega) (by omega) (by rw[f];omega) (by rw[f];exact growslice_fits (by omega) (by omega));have w:=grownCap_ge (mk B d h) (0+n) 0 9;have r:=grownCap_le_maxLen (mk B d h) (0+n) 0 9 (by unfold maxLen;omega);generalize grownCap (mk B d h) (0+n) 0 9=c at *;have k:∀m,(zc8 (ZD ⟨#[]⟩).cells m).size=m*1:=λm=>by rw[size_zeroCells,elemStr.zero]
 generalize q:([]:List Value).toArray++zc8 (ZD ⟨#[]⟩).cells n++zc8 (ZD ⟨#[]⟩).cells (c-(0+n))=blk at u;have o:blk.size=c*1:=by rw[<-q,Array.size_append,Array.size_append,k,k];simp;omega
 refine⟨_,d+1,_,u,⟨Tc ⟨h.size,0,Td⟩,0+n,c⟩,rfl,.inl rfl,⟨by omega,by omega,by show((0:Nat):Int)<=((c:Nat):Int);omega,by omega⟩,?_⟩;show K (.slice (fF (Tc ⟨h.size,0,Td⟩) 1 0 c) 0 (c-0)) _;rw[Fu,zc7];exact t _ ⟨Tc ⟨h.size,0,Td⟩,0,c⟩ (Keep.push _ _ (YM _)) rfl ⟨rfl,.inr ⟨h.size,c,blk,rfl,YM _,xq _ _,ZN _,r,o,by simp⟩⟩
set_option maxHeartbeats 1000000 in
theorem FL{M:Fr}(ag:AgM M h){p st:List Bt}{sp ss:Sl}(A:Rd M (.row .str) p [aK sp])(rs:Arr h.size h ss.a (st.map ZD))(J:ss.len=st.length)(hl:p.length+st.length<=1000000){b:Nat}(B:Blk h b #[aK sp,aK ss])
  (hK:∀(g:zc) (s':Sl),Keep h.size h g->s'.len=p.length+st.length->Owns g h.size 9 1 s' ((p++st).map ZD)->K (aK s') g):XC Tp 277 #[.slice (Tc ⟨b,0,Td⟩) 2 2] h K:=by
 obtain⟨O,aa,V⟩:=rowLen A;have L:=B.lt;have I:Arr h.size h sp.a (p.map ZD):=by
  by_cases h0:p=[];exact .inl (by rw[h0];rfl);have hp:=ZX.2 h0;obtain⟨Y,o,cs,y,r,z⟩:=Go.X.rowAt A hp;refine .inr ⟨Y,o,y,ag.lt r,λi v hv=>?_⟩;obtain⟨hi,rfl⟩:=ZH.1 hv;have D:i<p.length:=by simpa using hi
  obtain⟨b2,o2,S,N,Q,G⟩:=Go.X.rowAt A D;rw[y]at N;cases N;rw[r]at Q;cases Q;have G:cut cs (o+i*1) 1=[.string p[i]]:=G;have:=nM ag r G;rw[zb1]at this;rw[zcb];exact this
 apply Qh ⟨Tc ⟨b,0,Td⟩,2,2⟩;have P:∀{g:zc},Keep h.size h g->ze g ((⟨b,0,Td⟩:Addr).add 0)=Tc (aK sp):=λk=>(B.keep (k.get b L)).cellAdd rfl;have c1:∀{g:zc},Keep h.size h g->ze g ((⟨b,0,Td⟩:Addr).add 1)=Tc (aK ss):=λk=>(B.keep (k.get b L)).cellAdd rfl;refine⟨λsz i g=>h=g/\((i=0/\sz=0)\/(i=1/\sz=(p.length:Int))\/(i=2/\sz=((p.length+st.length:Nat):Int))),λ_ i _=>2-i.toNat,⟨rfl,.inl ⟨rfl,rfl⟩⟩,?_⟩;rintro sz i g ⟨rfl,hi⟩;refine⟨λw=>?_,λw=>?_⟩;have n:i<2:=zB w;rcases hi with⟨rfl,rfl⟩|⟨rfl,rfl⟩|⟨rfl,_⟩;refine⟨⟨b,0,Td⟩,⟨rfl,by omega,by omega⟩,sp,P (Keep.refl _ _),?_⟩;rw[O,show YJ .i64 (0+((p.length:Nat):Int))=(p.length:Int)by rw[wrap64 (by omega) (by omega)];omega,show YJ .i64 (0+1)=1 from rfl];exact⟨λE=>absurd (zB E) (by omega),λ_=>⟨⟨rfl,.inr (.inl ⟨rfl,rfl⟩)⟩,by show 2-(1:Int).toNat<2-(0:Int).toNat;decide⟩⟩;refine⟨⟨b,0,Td⟩,⟨rfl,by omega,by omega⟩,ss,c1 (Keep.refl _ _),?_⟩;rw[J,show YJ .i64 ((p.length:Int)+((st.length:Nat):Int))=((p.length+st.length:Nat):Int)by rw[wrap64 (by omega) (by omega)];omega,show YJ .i64 (1+1)=2 from rfl];exact⟨λE=>absurd (zB E) (by omega),λ_=>⟨⟨rfl,.inr (.inr ⟨rfl,rfl⟩)⟩,by show 2-(2:Int).toNat<2-(1:Int).toNat;decide⟩⟩;omega;have n:¬i<2:=zC w;rcases hi with⟨rfl,rfl⟩|⟨rfl,rfl⟩|⟨rfl,rfl⟩;omega;omega;refine Ub (by omega) λg9 Z k9 l9 o9=>⟨Z,rfl,?_⟩
 refine⟨λf i g=>Keep h.size h g/\((i=0/\f.len=0/\Owns g h.size 9 1 f [])\/(i=1/\f.len=p.length/\Owns g h.size 9 1 f (p.map ZD))\/(i=2/\f.len=p.length+st.length/\Owns g h.size 9 1 f ((p++st).map ZD))),λ_ i _=>2-i.toNat,⟨k9,.inl ⟨rfl,l9,o9⟩⟩,?_⟩;rintro f i g ⟨c,hi⟩;have m:∀l:List Bt,∀u∈l.map ZD,u.oneCell'=Ta:=λl u hu=>by obtain⟨x,_,rfl⟩:=za6.1 hu;rfl
 refine⟨λw=>?_,λw=>?_⟩;have n:i<2:=zB w;rcases hi with⟨rfl,H,s⟩|⟨rfl,H,s⟩|⟨rfl,_,_⟩;refine⟨⟨b,0,Td⟩,⟨rfl,by omega,by omega⟩,sp,P c,?_⟩;refine Jo elemStr s (src:=sp) (I.keep c) (by simp[O]) (m p) (by omega) (by omega) c.size λs' g' y r z e4 U=>⟨s',rfl,?_⟩
 have t:Keep h.size h g':=⟨by have:=c.size;omega,λj F=>by rw[z j (by have:=c.size;omega) λq C e=>by have:=(s.base_le q C).1;omega];exact c.get j F⟩;rw[show YJ .i64 (0+1)=1 from rfl];exact⟨⟨t,.inr (.inl ⟨rfl,by omega,by simpa using r⟩)⟩,by show 2-(1:Int).toNat<2-(0:Int).toNat;decide⟩;refine⟨⟨b,0,Td⟩,⟨rfl,by omega,by omega⟩,ss,c1 c,?_⟩;refine Jo elemStr s (src:=ss) (rs.keep c) (by simp[J]) (m st) (by omega) (by omega) c.size λs' g' y r z e4 U=>⟨s',rfl,?_⟩;have t:Keep h.size h g':=⟨by have:=c.size;omega,λj F=>by rw[z j (by have:=c.size;omega) λq C e=>by have:=(s.base_le q C).1;omega];exact c.get j F⟩;rw[show YJ .i64 (1+1)=2 from rfl];exact⟨⟨t,.inr (.inr ⟨rfl,by omega,by rw[ZZ];exact r⟩)⟩,by show 2-(2:Int).toNat<2-(1:Int).toNat;decide⟩;omega;have n:¬i<2:=zC w;rcases hi with⟨rfl,_⟩|⟨rfl,_⟩|⟨rfl,H,s⟩;omega;omega;exact hK g f c H s
end
section
variable {M:Fr} {h g:zc} {sk si vk vi sp s' ss:Sl} {K:Value -> zc -> Prop} {w:Bt} {st:List Bt}
theorem HT{h h':zc}{b:Nat}(ag:AgM M h)(i:M b=Td)(f:∀j,j≠b->h'[j]?=h[j]?):AgM M h':=λc cs e=>by obtain⟨T,m,k⟩:=ag c cs e;exact⟨T,m,by rw[f c (λe'=>by rw[e',i]at e;cases e)];exact k⟩
def uZ(s v:Tr)(sk si vk vi sp sl:Sl):List Value:=[.int .i64 s.kind,.string s.text,aK sk,aK si,.int .i64 v.kind,.string v.text,aK vk,aK vi,aK sp,aK sl]
structure CB (lo:Nat) (h:zc) (M:Fr) (c:Nat) (s v:Tr) (p:List Bt) (na:FA) (sk si vk vi sp sl:Sl):Prop where
 blk:Blk h c (uZ s v sk si vk vi sp sl).toArray
 rsk:Rd M (.row .str) s.keys [aK sk]
 rsi:Rd M (.row .tree) s.items [aK si]
 rvk:Rd M (.row .str) v.keys [aK vk]
 rvi:Rd M (.row .tree) v.items [aK vi]
 rp:Rd M (.row .str) p [aK sp]
 fs:FS lo h M na sl
 nq:∀q,sl.a=Tc q->q.block≠c
structure CK (h0:zc) (M0:Fr) (c:Nat) (s v:Tr) (p:List Bt) (h:zc) (M:Fr) (na:FA):Prop where
 L:Later h0 M0 h M
 lo:h0.size<=c
 nc:M c=Td
 box:∃sk si vk vi sp sl,CB h0.size h M c s v p na sk si vk vi sp sl
section
variable {gl : Fr} {h0 h h' : zc} {M0 M M' : Fr} {c : Nat} {s v : Tr} {p : List Bt} {na : FA}
theorem CB.later{lo:Nat}{sk si vk vi sp sl:Sl}(H:CB lo h M c s v p na sk si vk vi sp sl)(L:Later h M h' M'):CB lo h' M' c s v p na sk si vk vi sp sl:= ⟨H.blk.keep (L.keep.get c H.blk.lt),Rd.mono L.le H.rsk,Rd.mono L.le H.rsi,Rd.mono L.le H.rvk,Rd.mono L.le H.rvi,Rd.mono L.le H.rp,H.fs.call L,H.nq⟩
theorem CK.later(H:CK h0 M0 c s v p h M na)(L:Later h M h' M'):CK h0 M0 c s v p h' M' na:=by obtain⟨sk,si,vk,vi,sp,sl,B⟩:=H.box;exact⟨H.L.trans L,H.lo,by rw[L.old c B.blk.lt];exact H.nc,sk,si,vk,vi,sp,sl,B.later L⟩
def Out(h0:zc)(M0:Fr)(c:Nat)(s v:Tr)(p:List Bt)(M:Fr)(na:FA)(l:List dR)(K:Value->zc->Prop):Prop:=
 ∀(g:zc) (M':Fr) (nb:FA),CK h0 M0 c s v p g M' (na++nb)->nb.map (·.1)=l->Fr.le M M'->K (.tuple #[]) g
theorem ownRd(ag:AgM M h)(k:Keep h.size h g){lo:Nat}(y:h.size<=lo){xs:List Bt}(H:Owns g lo 9 1 s' (xs.map ZD))(p:s'.len=xs.length)(E:xs.length<=1000000):∃M',Later h M g M'/\Rd M' (.row .str) xs [aK s']/\(xs≠[]->∃b,s'.a=Tc ⟨b,0,Td⟩/\lo<=b/\M' b≠Td/\∃cs,Blk g b cs):=by
 by_cases h0:xs=[];subst h0;exact⟨M,Later.same ag k,⟨_,rfl,s'.a,s'.cap,by rw[aK,p],⟨by simp,by simp⟩,.inl rfl⟩,λe=>absurd rfl e⟩;have D:=ZX.2 h0;rcases H.2 with⟨n,C⟩|⟨b,cap,c,n,m,t,z,F,u,f⟩;omega;simp only[ZU]at n;obtain⟨s,B,G⟩:=n;have o:Blk g b c:=⟨_,t⟩;refine⟨MxL M g [b],MxL.later ag k λx w=>by rw[zaf.1 w];omega,⟨_,rfl,s'.a,s'.cap,by rw[aK,p],⟨by omega,by omega⟩,.inr ⟨b,0,c,s,MxL.at (by simp) o,λi hi=>?_⟩⟩,λ_=>⟨b,s,m,(by rw[MxL.at (by simp) o];simp),c,o⟩⟩;have e:cut c (0+i*sz Ty.str) (sz Ty.str)=[.string xs[i]]:=by
  show cut c (0+i*1) 1=_;refine lc rfl λq A=>?_;have l:q=0:=by omega
  subst l;have r:(xs.map ZD)[i]?=Tc (.string xs[i]):=by rw[zai,YR hi];rfl
  rw[<-f,ZQ,zb (by omega)]at r;rw[ZP,zb1,zco,r];rfl
 rw[e];rfl
theorem Kp:qj Tp 29=Ta:=by kernel_rfl
theorem IE:yb Tp 29=1:=by kernel_rfl
theorem CB.put{lo:Nat}{sk si vk vi sp sl:Sl}(H:CB lo h M c s v p na sk si vk vi sp sl){nb:FA}{M':Fr}(f:Fr.le M M')(B:Blk g c (uZ s v sk si vk vi sp sl).toArray)(F:FS lo g M' nb s')(i:∀q,s'.a=Tc q->q.block≠c)(r:M' c=Td){K:zc->Prop}
  (o:∀g':zc,CB lo g' M' c s v p nb sk si vk vi sp s'->g'.size=g.size->(∀j,j≠c->g'[j]?=g[j]?)->K g'):XRunU Tp (YN 29 (.pointer (Tc ((⟨c,0,Td⟩:Addr).add 9))) (aK s')) g K:=by
 rw[qo];refine yr Kp IE B (by show 0+9<10;omega) (by rfl) λg' k l f'=>o g' ⟨k,Rd.mono f H.rsk,Rd.mono f H.rsi,Rd.mono f H.rvk,Rd.mono f H.rvi,Rd.mono f H.rp,F.frame (λq n=>f' _ (i q n)) (Fr.le.refl _) F.fr λb cs _ m _=>f' b λe=>m (e ▸ r),i⟩ l f'
set_option maxHeartbeats 1000000 in
theorem yC(H:CK h0 M0 c s v p h M na)(rs:Arr h.size h ss.a (st.map ZD))(ls:ss.len=st.length)(hl:p.length+st.length<=900000)(hn:na.length<=900000000)(hK:Out h0 M0 c s v p M na [(p++st,lb w)] K):
  XC Tp 221 #[.pointer (Tc ⟨c,0,Td⟩),.string w,aK ss] h K:=by
 obtain⟨sk,si,vk,vi,sp,sl,B⟩:=H.box;have hc:=B.blk.lt;apply WM (Tc ⟨c,0,Td⟩) w ss;refine⟨_,rfl,sl,B.blk.cellAdd (by rfl),_,rfl,sp,B.blk.cellAdd (by rfl),?_⟩;intro V;obtain⟨J,z5,B5⟩:=jo (g:=V) rfl;clear_value V;have I:Later h M V M:=Later.same H.L.ag J;refine⟨J.get _ (by show c<_;omega),?_⟩;refine FL I.ag (Rd.mono I.le B.rp) ((rs.keep J).mono (by omega)) ls (by omega) B5 λF r Q l7 o7=>⟨r,rfl,?_⟩;have K7:Keep h.size h F:=J.trans Q (by omega);obtain⟨m,P,r7,af⟩:=ownRd I.ag Q (YM _) o7 (by rw[l7,ZC]) (by rw[ZC];omega);have U:Later h M F m:=I.trans P;have z7:=Q.size;refine⟨K7.get _ (by show c<_;omega),K7.get _ (by show c<_;omega),?_⟩;intro n;obtain⟨k9,z9,B9⟩:=jo (g:=n) rfl;clear_value n;have f:Later h M n m:=U.trans (Later.same U.ag k9);refine⟨f.keep.get _ (by show c<_;omega),?_⟩;have t:=B.later f;have Y:∀x∈[(((p++st,lb w),r):dR×Sl)],Rd m (.row .str) x.1.1 [aK x.2]/\PB h0.size n m x:=λx hx=>by rw[zaf.1 hx];refine⟨r7,λe=>?_⟩;obtain⟨b,e1,e2,e3,cs,Bk⟩:=af e;exact⟨b,e1,by have:=H.L.keep.size;omega,e3,cs,Bk.keep (k9.get b Bk.lt)⟩
 have y:Arr n.size n (Tc ⟨F.size,0,Td⟩) ([(((p++st,lb w),r):dR×Sl)].flatMap fC):=.inr ⟨F.size,0,rfl,by omega,λi u hu=>B9.cell (by
  rw[ZP,<-zav];have e:[(((p++st,lb w),r):dR×Sl)].flatMap fC=[aK r,.string w]:=by simp[fC]
  rw[e]at hu;exact hu)⟩
 have aj:=H.L.keep.size;refine FS.app (src:=⟨Tc ⟨F.size,0,Td⟩,1,1⟩) t.fs y rfl Y f.ag (by have:=f.keep.size;omega) (by simp;omega) λo aa N z ak G O=>⟨o,rfl,_,rfl,?_⟩;have ab:c<n.size:=by have:=f.keep.size;omega
 have Z:Blk aa c _:=t.blk.keep (G c ab λq D=>(t.nq q D).symm);have A:∀q,o.a=Tc q->q.block≠c:=λq D=>by rcases O q D with⟨q',ah,e⟩|e;rw[e];exact t.nq q' ah;omega
 have l:m c=Td:=by rw[U.old c hc];exact H.nc
 refine t.put (Fr.le.refl _) Z N A l λk ae ai C=>?_;have E:AgM m k:=HT z l C;have S:Keep h0.size h0 k:=⟨by have:=f.keep.size;omega,λj hj=>by have:=f.keep.size;rw[C j (by have:=H.lo;omega),G j (by omega) λq D e=>by have:=(t.fs.own.base_le q D).1;omega];exact(f.keep.get j (by omega)).trans (H.L.keep.get j hj)⟩;exact hK k m [((p++st,lb w),r)] ⟨⟨S,H.L.le.trans f.le,λj hj=>by rw[f.old j (by omega)];exact H.L.old j hj,E⟩,H.lo,l,sk,si,vk,vi,sp,o,ae⟩ rfl f.le
theorem mP(H:CK h0 M0 c s v p h M na){b:Bool}(k:p.length<=900000)(l:na.length<=900000000)(i:Out h0 M0 c s v p M na (fa b p (lb w)) K):
  XC Tp 218 #[.pointer (Tc ⟨c,0,Td⟩),.string w,.bool b] h K:=by
 apply U9 (Tc ⟨c,0,Td⟩) w b;refine⟨λf=>?_,λf=>?_⟩;have f:b=Tb:=by simpa using f
 subst f;refine yC H (st:=[]) (ss:=⟨Td,0,0⟩) (.inl rfl) rfl (by simpa using k) l λg M' nb C e le=>⟨rfl,i g M' nb C ?_ le⟩;rw[e,ZY];rfl;have f:b=Ta:=by simpa using f
 subst f;exact i h M [] (by rw[ZY];exact H) rfl (Fr.le.refl _)
def FlX(gl:Fr)(n:Nat)(y u:Tr):Prop:=∀(p:List Bt),p.length+bR u<=1000->∀(h:zc) (M:Fr),Fr.le gl M->AgM M h->∀(b c:Value),RdV M .tree y b->RdV M .tree u c->∀sp:Sl,Rd M (.row .str) p [aK sp]->∀K:Value->zc->Prop,
 (∀(g:zc) (M':Fr) (nb:FA) (sl:Sl),Later h M g M'->FS h.size g M' nb sl->nb.map (·.1)=qi zr yy n y u p->K (aK sl) g)->XC Tp 49 #[b,c,aK sp] h K
set_option maxHeartbeats 1000000 in
theorem Ak(H:CK h0 M0 c s v p h M na)(hM:Fr.le gl M){n:Nat}{y u:Tr}(hy:Ok y)(hu:Ok u)(F:FlX gl n y u){P Z J ui:Sl}(am:Rd M (.row .str) y.keys [aK P])(aj:Rd M (.row .tree) y.items [aK Z])(an:Rd M (.row .str) u.keys [aK J])(aF:Rd M (.row .tree) u.items [aK ui])(rs:Arr h.size h ss.a (st.map ZD))(ls:ss.len=st.length)(hl:p.length+st.length+bR u<=1000)(hn:na.length<=900000000)(hK:Out h0 M0 c s v p M na (qi zr yy n y u (p++st)) K):
  XC Tp 222 #[.pointer (Tc ⟨c,0,Td⟩),.agg #[.int .i64 y.kind,.string y.text,aK P,aK Z],.agg #[.int .i64 u.kind,.string u.text,aK J,aK ui],aK ss] h K:=by
 obtain⟨sk,si,vk,vi,sp,sl,B⟩:=H.box;have hc:=B.blk.lt;apply Jf (Tc ⟨c,0,Td⟩) y.kind y.text P Z u.kind u.text J ui ss;intro h1 I;obtain⟨k1,z1,B1⟩:=jo (g:=h1) rfl;obtain⟨k2,z2,B2⟩:=jo (g:=I) rfl;clear_value I;clear_value h1;have aE:=B1.ofKeep k2;have L2:Later h M I M:=Later.same H.L.ag (k1.trans k2 (by omega));have C2:=B.later L2;refine⟨_,rfl,sl,C2.blk.cellAdd (by rfl),y.kind,y.text,P,Z,aE.ld (cs:=[_,_,aK P,aK Z]),u.kind,u.text,J,ui,B2.ld (cs:=[_,_,aK J,aK ui]),_,rfl,sp,C2.blk.cellAdd (by rfl),?_⟩;intro r;obtain⟨m,aM,aC⟩:=jo (g:=r) rfl;clear_value r;have o:Later I M r M:=Later.same L2.ag m;have ah:=C2.later o;refine⟨m.get _ (by show h1.size<_;omega),m.get _ (by show h.size<_;omega),m.get _ (by show c<_;omega),?_⟩;have kk:Keep h.size h r:=(L2.trans o).keep;refine FL o.ag ah.rp ((rs.keep kk).mono (by omega)) ls (by omega) aC λD Y E ax au=>⟨Y,rfl,?_⟩;have aJ:=E.size;have t:Keep I.size I D:=m.trans E (by omega);refine⟨t.get _ (by show h1.size<_;omega),t.get _ (by show h.size<_;omega),t.get _ (by show c<_;omega),?_⟩;obtain⟨N,ae,aB,aG⟩:=ownRd o.ag E (YM _) au (by rw[ax,ZC]) (by rw[ZC];omega);have f:Later h M D N:=(L2.trans o).trans ae;refine F (p++st) (by rw[ZC];omega) D N (hM.trans f.le) f.ag _ _ (zj (Rd.mono f.le am) (Rd.mono f.le aj)) (zj (Rd.mono f.le an) (Rd.mono f.le aF)) Y aB _ λA i nb z l w Q=>⟨z,rfl,?_⟩;have b:Later h M A i:=f.trans l;have aO:=l.keep.size;refine⟨(l.keep.get _ (by show c<_;omega)).trans (t.get _ (by show c<_;omega)),?_⟩;have k:=B.later b;have aL:nb.length<=16777216:=by have:=congrArg zam Q;rw[ZA]at this;rw[this];exact kf hy hu
 have aH:=H.L.keep.size;have U:∀x∈nb,Rd i (.row .str) x.1.1 [aK x.2]/\PB h0.size A i x:=λx hx=>⟨(w.nd x hx).1,(w.nd x hx).2.mono (by omega) (Fr.le.refl _) λ_ _ _ _ _=>rfl⟩;refine FS.app (src:=z) k.fs w.arr w.len U b.ag (by have:=b.keep.size;omega) (by omega) λG aA az aa aN S ai=>⟨G,rfl,_,rfl,?_⟩;have O:c<A.size:=by have:=b.keep.size;omega
 have ap:Blk aA c _:=k.blk.keep (S c O λq hq=>(k.nq q hq).symm);have af:∀q,G.a=Tc q->q.block≠c:=λq hq=>by rcases ai q hq with⟨q',ay,e⟩|e;rw[e];exact k.nq q' ay;omega
 have nc:i c=Td:=by rw[b.old c hc];exact H.nc
 refine k.put (Fr.le.refl _) ap az af nc λC ar aI ab=>?_;have V:AgM i C:=HT aa nc ab;have ak:Keep h0.size h0 C:=⟨by have:=b.keep.size;omega,λj hj=>by have:=b.keep.size;rw[ab j (by have:=H.lo;omega),S j (by omega) λq hq e=>by have:=(k.fs.own.base_le q hq).1;omega];exact(b.keep.get j (by omega)).trans (H.L.keep.get j hj)⟩;exact hK C i nb ⟨⟨ak,H.L.le.trans b.le,λj hj=>by rw[b.old j (by omega)];exact H.L.old j hj,V⟩,H.lo,nc,sk,si,vk,vi,sp,G,ar⟩ Q b.le
end
end
section
variable {M:Fr} {lo n:Nat} {sk si vk vi sp:Sl}
section
variable {gl : Fr} {h0 h h' : zc} {M0 M M' : Fr} {c : Nat} {s v x : Tr} {p : List Bt} {na : FA} {xk xi : Sl} {w : Bt} {K : Value -> zc -> Prop}
theorem ML(f:GL gl)(b:Ok v)(c:Ok x)(p:x.kind=3){R:Int->Prop}(h:∀r,(v.kind=3->r=yy v x)->-1<=r->r<=1->R r):PC Tp gl 197 [Arg.mk .tree v,Arg.mk .tree x] [.int .i64] R:=by apply KM;simp only[qu];have m:=qm c.nd;have l:=qm b.nd;have q:zu x=x:=Xi m (by omega) (by omega);refine qP f b.s (qP f c.s ?_);rw[b.o,c.o];refine⟨λ_=>DF b.s b.o (DF c.s c.o ?_),λt=>(nomatch t)⟩;rw[q];have S:=DJ l;refine Ns f (by have e:=Mt b.s;unfold vO at e;rw[zb b.o]at e;exact e) c.s p (Xg m (by omega)) (λi=>?_) λi r h1 n=>h r (λe=>absurd (S.k.trans e) i) h1 n;have u:v.kind=3:=S.k ▸ i;have sv:zu v=v:=Xi l (by omega) (by omega);rw[sv];have:=Ui (zo (lb v.text)).1 (zo (lb x.text)).1;exact h _ (λ_=>rfl) this.1 this.2
theorem Hw{r:Int×Bool}{w:Value}(h:Yf M [.int .i64,.bool] r w):w=.tuple #[.int .i64 r.1,.bool r.2]:=by
 obtain⟨vs,⟨f,rest,rfl,e,c,rfl,b⟩,rfl⟩:=h;have b:c=.bool r.2:=by have:=(eK rfl).1 b;simpa[Rd]using this
 rw[yj e,b];rfl
theorem Out.mono{l:List dR}(h:Out h0 M0 c s v p M na l K)(le:Fr.le M M'):Out h0 M0 c s v p M' na l λv g=>v=.tuple #[]/\K (.tuple #[]) g:=λg f nb C e b=>⟨rfl,h g f nb C e (le.trans b)⟩
theorem CB.cel{sk si vk vi sp sl:Sl}(B:CB lo h M c s v p na sk si vk vi sp sl){o i:Nat}{u:Value}(e:(uZ s v sk si vk vi sp sl)[o+i]?=Tc u):ze h (((⟨c,0,Td⟩:Addr).add o).add i)=Tc u:=by rw[qo,qo,ZP];exact B.blk.cell (by rw[zb4];exact e)
theorem CB.ldv{sk si vk vi sp sl:Sl}(B:CB lo h M c s v p na sk si vk vi sp sl):zd h ((⟨c,0,Td⟩:Addr).add 4) 0 [.int .i64 v.kind,.string v.text,aK vk,aK vi]:= ⟨B.cel rfl,B.cel rfl,B.cel rfl,B.cel rfl,trivial⟩
theorem CB.lds{sk si vk vi sp sl:Sl}(B:CB lo h M c s v p na sk si vk vi sp sl):zd h ((⟨c,0,Td⟩:Addr).add 0) 0 [.int .i64 s.kind,.string s.text,aK sk,aK si]:= ⟨B.cel rfl,B.cel rfl,B.cel rfl,B.cel rfl,trivial⟩
theorem Pn(H:CK h0 M0 c s v p h M na)(m:Fr.le gl M)(A:p.length<=1000)(q:na.length<=900000000)(n:Out h0 M0 c s v p M na (fa (decide (v.kind=gE (lb x.text))) p (lb w)) K):
  XC Tp 151 #[.pointer (Tc ⟨c,0,Td⟩),.string w,.agg #[.int .i64 x.kind,.string x.text,aK xk,aK xi]] h K:=by
 apply X9 (Tc ⟨c,0,Td⟩) w x.kind x.text xk xi;intro h1;obtain⟨l,y,o⟩:=jo (g:=h1) rfl;clear_value h1;have e:Later h M h1 M:=Later.same H.L.ag l;obtain⟨sk,si,vk,vi,sp,sl,B⟩:=(H.later e).box;have t:=B.blk.lt;refine⟨_,rfl,v.kind,B.cel rfl,x.text,o.cellAdd rfl,?_⟩;refine(BC (gl:=gl) (s:=x.text) (R:=λr=>r=gE (lb x.text)) rfl).go (vs:=[.string x.text]) (m.trans e.le) e.ag (zm (rdStr _) zz) λu C z r i b f=>?_;have f:r=gE (lb x.text):=f;have k:=e.trans i;refine⟨r,i3 b,i.keep.get _ t,?_⟩;rw[f,fx];exact mP (H.later k) (by omega) q (n.mono k.le)
theorem Fh(P:GL gl)(H:CK h0 M0 c s v p h M na)(C:Fr.le gl M)(J:Ok v)(I:Ok x)(A:x.kind=3)(D:Rd M (.row .str) x.keys [aK xk])(Z:Rd M (.row .tree) x.items [aK xi])(hl:p.length<=1000)(Y:na.length<=900000000) (S:Out h0 M0 c s v p M na (fa (decide (v.kind≠3)||if lb w=Yp then decide (yy v x<=0)else decide (0<=yy v x)) p (lb w)) K):
  XC Tp 153 #[.pointer (Tc ⟨c,0,Td⟩),.string w,.agg #[.int .i64 x.kind,.string x.text,aK xk,aK xi]] h K:=by
 apply Xm (Tc ⟨c,0,Td⟩) w x.kind x.text xk xi;intro h1;obtain⟨N,z1,F⟩:=jo (g:=h1) rfl;clear_value h1;have n:Later h M h1 M:=Later.same H.L.ag N;obtain⟨sk,si,vk,vi,sp,sl,B⟩:=(H.later n).box;refine⟨_,rfl,v.kind,v.text,vk,vi,B.ldv,x.kind,x.text,xk,xi,F.ld (cs:=[_,_,aK xk,aK xi]),?_⟩;refine(ML (gl:=gl) P J I A (R:=λr=>(v.kind=3->r=yy v x)/\-1<=r/\r<=1) λr a b d=>⟨a,b,d⟩).go (C.trans n.le) n.ag (zm (zj B.rvk B.rvi) (zm (zj D Z) zz)) λu i G r t k q=>?_;obtain⟨q,r1,r2⟩:=q;have z:=n.trans t;refine⟨r,i3 k,?_⟩;intro y m;have l:=H.later z;obtain⟨Q,aa,V,U,ae,ab,O⟩:=l.box;have go:∀o:Int,(decide (v.kind≠3)||decide (o>=0))=(decide (v.kind≠3)||if lb w=Yp then decide (yy v x<=0)else decide (0<=yy v x))->y o i:=λo E=>m o i ⟨_,rfl,v.kind,O.cel rfl,by
  have e:(bif (v.kind != 3)then Ta else(decide ((o:Int)>=0)))=(decide (v.kind≠3)||decide (o>=0)):=by by_cases f:v.kind=3;simp[f];simp[f]
  rw[e,E];exact mP l (by omega) Y (S.mono z.le)⟩
 rw[jA];refine⟨λe=>go _ ?_,λe=>go _ ?_⟩;have e:lb w=Yp:=zB e;rw[zb e,wrap64 (by omega) (by omega)];by_cases f:v.kind=3;have:=q f;rw[<-this];congr 1;rw[decide_eq_decide];omega;simp[f];have e:lb w≠Yp:=zC e;rw[za e];by_cases f:v.kind=3;rw[<-q f];simp[f]
theorem F7(y:GL gl)(H:CK h0 M0 c s v p h M na)(n:Fr.le gl M)(S:Ok v)(O:Ok x)(t:x.kind=3)(V:(ww x).2=Ta)(U:0<=(ww x).1)(E:Rd M (.row .str) x.keys [aK xk])(Q:Rd M (.row .tree) x.items [aK xi])(hl:p.length<=1000)(P:na.length<=900000000) (D:Out h0 M0 c s v p M na (fa (if lb w=xb then decide (j7 v<0)||decide ((ww x).1<=j7 v)else decide (j7 v<=(ww x).1)) p (lb w)) K):
  XC Tp 154 #[.pointer (Tc ⟨c,0,Td⟩),.string w,.agg #[.int .i64 x.kind,.string x.text,aK xk,aK xi]] h K:=by
 apply Wa (Tc ⟨c,0,Td⟩) w x.kind x.text xk xi;intro h1;obtain⟨q,Y,N⟩:=jo (g:=h1) rfl;clear_value h1;have l:Later h M h1 M:=Later.same H.L.ag q;refine⟨x.kind,x.text,xk,xi,N.ld (cs:=[_,_,aK xk,aK xi]),?_⟩;have C:oo x=((ww x).1,Ta):=by unfold oo;rw[zb t,V,zD U];rfl
 refine(Ft (gl:=gl) y O (R:=λr=>r=((ww x).1,Ta)) C).go (n.trans l.le) l.ag (zm (zj E Q) zz) λu h7 Z r A b f=>?_;have f:r=_:=f;subst f;have i:=l.trans A;obtain⟨sk,si,vk,vi,sp,sl,B⟩:=(H.later i).box;refine⟨_,_,Hw b,_,rfl,v.kind,v.text,vk,vi,B.ldv,?_⟩;refine(QW (gl:=gl) S.s (R:=λr=>r=if j7 v<0 then(0,Tb)else(j7 v,Ta)) rfl).go (n.trans i.le) i.ag (zm (zj B.rvk B.rvi) zz) λu F I r k b f=>?_;have f:r=_:=f;subst f;have o:=i.trans k;refine⟨_,_,Hw b,?_⟩;rw[jA];have e:(bif (bif (!(if j7 v<0 then((0:Int),Tb)else(j7 v,Ta)).2)then Ta else((if j7 v<0 then((0:Int),Tb)else(j7 v,Ta)).1==(ww x).1))then Ta else((decide ((if j7 v<0 then((0:Int),Tb)else(j7 v,Ta)).1>(ww x).1))==decide (lb w=(#[115,104,111,114,116]:Array UInt8).toList)))=(if lb w=xb then decide (j7 v<0)||decide ((ww x).1<=j7 v)else decide (j7 v<=(ww x).1)):=by show(bif (bif (!(if j7 v<0 then((0:Int),Tb)else(j7 v,Ta)).2)then Ta else((if j7 v<0 then((0:Int),Tb)else(j7 v,Ta)).1==(ww x).1))then Ta else((decide ((if j7 v<0 then((0:Int),Tb)else(j7 v,Ta)).1>(ww x).1))==decide (lb w=xb)))=_;generalize j7 v=z at *;generalize (ww x).1=m at *;by_cases J:lb w=xb <;> by_cases G:z<0 <;> simp only[J,G,if_true,if_false,decide_true,decide_false] <;> rw[ZR] <;> simp <;> omega
 rw[e];exact mP (H.later o) (by omega) P (D.mono o.le)
theorem Oi(Q:GL gl)(H:CK h0 M0 c s v p h M na)(P:Fr.le gl M)(J:Ok v)(I:Ok x)(rk:Rd M (.row .str) x.keys [aK xk])(U:Rd M (.row .tree) x.items [aK xi])(hl:p.length<=1000)(hn:na.length<=900000000) (V:Out h0 M0 c s v p M na (fa (x.items.any λy=>zr y v) p (lb w)) K):
  XC Tp 152 #[.pointer (Tc ⟨c,0,Td⟩),.string w,.agg #[.int .i64 x.kind,.string x.text,aK xk,aK xi]] h K:=by
 apply TQ (Tc ⟨c,0,Td⟩) w x.kind x.text xk xi;intro h1 q;obtain⟨N,z1,Z⟩:=jo (g:=h1) rfl;obtain⟨k2,z2,B2⟩:=jo (g:=q) rfl;clear_value q;clear_value h1;have i:=Z.ofKeep k2;have n:Later h M q M:=Later.same H.L.ag (N.trans k2 (by omega));have H2:=H.later n;refine⟨Tc ⟨c,0,Td⟩,i.cell rfl,xi,B2.cellAdd rfl,rfl,rfl,?_⟩;refine(oN (gl:=gl) (A:=#[]) (C:=#[.pointer (Tc ⟨h.size,0,Td⟩)]) n.ag U (p:=λy=>zr y v) (λy G=>⟨by kernel_rfl,λh' M' u L m=>?_⟩)).go λu h6 M6 b F e t=>?_;have m:RdV M' .tree y u:=m;obtain⟨D,E,rfl,aa,Y⟩:=ye m;apply PX.of;apply Wc y.kind y.text D E ⟨h.size,0,Td⟩;intro z;obtain⟨S,y1,O⟩:=jo (g:=z) rfl;clear_value z;have k:Later h' M' z M':=Later.same L.ag S;have f:=L.trans k;have Bc:=i.keep (f.keep.get h.size (by omega));obtain⟨sk,si,vk,vi,sp,sl,B⟩:=(H2.later f).box;refine⟨y.kind,y.text,D,E,O.ld (cs:=[_,_,aK D,aK E]),Tc ⟨c,0,Td⟩,Bc.cell rfl,_,rfl,v.kind,v.text,vk,vi,B.ldv,?_⟩;refine(Pz (gl:=gl) Q (I.item G).s J.s (R:=λr=>r=(Zp y&&(Zp v&&zr y v))) rfl).go (P.trans (n.trans f).le) f.ag (zm m (zm (zj B.rvk B.rvi) zz)) λu9 h9 M9 r L9 e l=>?_;have l:r=_:=l;rw[(I.item G).o,J.o,zao,zao]at l;exact⟨r,eP e,M9,_,k.trans L9,Yu.2 (rdBool _),l⟩;have t:b=x.items.any λy=>zr y v:=t;refine⟨b,eP e,F.keep.get _ (by show h.size<_;omega),?_⟩;rw[t];have f:=n.trans F;exact mP (H.later f) (by omega) hn (V.mono f.le)
theorem zP:Rd M (.row .str) [] [aK ⟨Td,0,0⟩]:=⟨_,rfl,Td,0,rfl,⟨by simp,by simp⟩,.inl rfl⟩
theorem FlX.nil{y u:Tr}(F:FlX gl n y u)(o:bR u<=32){h:zc}(f:Fr.le gl M)(ag:AgM M h){c b:Value}(k:RdV M .tree y c)(l:RdV M .tree u b){K:Value->zc->Prop}(m:∀(g:zc) (M':Fr) (sl:Sl),Later h M g M'->sl.len=(qi zr yy n y u []).length->K (aK sl) g):
  XC Tp 49 #[c,b,.slice Td 0 0] h K:=
 F [] (by simp;omega) h M f ag c b k l ⟨Td,0,0⟩ zP K λg M' nb sl L i e=>m g M' sl L (by rw[i.len,<-e,ZA])
theorem Ss(H:CK h0 M0 c s v p h M na)(N:Fr.le gl M)(hv:Ok v)(hx:Ok x)(F:∀y∈x.items,FlX gl n y v)(rk:Rd M (.row .str) x.keys [aK xk])(ri:Rd M (.row .tree) x.items [aK xi])(hl:p.length<=1000)(Y:na.length<=900000000) (Q:Out h0 M0 c s v p M na (fa (x.items.any λy=>(qi zr yy n y v []).isEmpty) p (lb w)) K):
  XC Tp 160 #[.pointer (Tc ⟨c,0,Td⟩),.string w,.agg #[.int .i64 x.kind,.string x.text,aK xk,aK xi]] h K:=by
 apply TR (Tc ⟨c,0,Td⟩) w x.kind x.text xk xi;intro h1 q;obtain⟨I,z1,V⟩:=jo (g:=h1) rfl;obtain⟨k2,z2,B2⟩:=jo (g:=q) rfl;clear_value q;clear_value h1;have i:=V.ofKeep k2;have o:Later h M q M:=Later.same H.L.ag (I.trans k2 (by omega));have Z:=H.later o;refine⟨Tc ⟨c,0,Td⟩,i.cell rfl,xi,B2.cellAdd rfl,rfl,rfl,?_⟩;refine(oN (gl:=gl) (A:=#[]) (C:=#[.pointer (Tc ⟨h.size,0,Td⟩)]) o.ag ri (p:=λy=>(qi zr yy n y v []).isEmpty) (λy S=>⟨by kernel_rfl,λh' M' u L m=>?_⟩)).go λu h6 M6 b E f r=>?_;have m:RdV M' .tree y u:=m;obtain⟨z,D,rfl,aa,U⟩:=ye m;apply PX.of;apply Xo y.kind y.text z D ⟨h.size,0,Td⟩;intro t;obtain⟨P,y1,J⟩:=jo (g:=t) rfl;clear_value t;have k:Later h' M' t M':=Later.same L.ag P;have e:=L.trans k;have Bc:=i.keep (e.keep.get h.size (by omega));obtain⟨sk,si,vk,vi,sp,sl,B⟩:=(Z.later e).box;refine⟨y.kind,y.text,z,D,J.ld (cs:=[_,_,aK z,aK D]),Tc ⟨c,0,Td⟩,Bc.cell rfl,_,rfl,v.kind,v.text,vk,vi,B.ldv,?_⟩;refine(F y S).nil hv.dp (N.trans (o.trans e).le) e.ag m (zj B.rvk B.rvi) λg9 M9 G L9 O=>⟨G,rfl,M9,_,k.trans L9,Yu.2 (rdBool _),?_⟩;show((((G.len:Nat):Int))==0)=(qi zr yy n y v []).isEmpty;rw[O];cases qi zr yy n y v []with
 |nil=>rfl
 |cons a l=>simp;omega
 have r:b=x.items.any λy=>(qi zr yy n y v []).isEmpty:=r;refine⟨b,eP f,E.keep.get _ (by show h.size<_;omega),?_⟩;rw[r];have e:=o.trans E;exact mP (H.later e) (by omega) Y (Q.mono e.le)
theorem MA(H:CK h0 M0 c s v p h M na)(m:Fr.le gl M)(z:Ok v)(F:FlX gl n x v)(r:Rd M (.row .str) x.keys [aK xk])(y:Rd M (.row .tree) x.items [aK xi])(E:p.length<=1000)(u:na.length<=900000000) (q:Out h0 M0 c s v p M na (fa (!(qi zr yy n x v []).isEmpty) p (lb w)) K):
  XC Tp 161 #[.pointer (Tc ⟨c,0,Td⟩),.string w,.agg #[.int .i64 x.kind,.string x.text,aK xk,aK xi]] h K:=by
 apply Tg (Tc ⟨c,0,Td⟩) w x.kind x.text xk xi;intro h1;obtain⟨k,D,t⟩:=jo (g:=h1) rfl;clear_value h1;have b:Later h M h1 M:=Later.same H.L.ag k;obtain⟨sk,si,vk,vi,sp,sl,B⟩:=(H.later b).box;refine⟨x.kind,x.text,xk,xi,t.ld (cs:=[_,_,aK xk,aK xi]),_,rfl,v.kind,v.text,vk,vi,B.ldv,?_⟩;refine F.nil z.dp (m.trans b.le) b.ag (zj r y) (zj B.rvk B.rvi) λC G f A o=>⟨f,rfl,?_⟩;have e:decide ((((f.len:Nat):Int))>0)=!(qi zr yy n x v []).isEmpty:=by
  rw[o];cases qi zr yy n x v []with
  |nil=>rfl
  |cons a l=>simp
 rw[e];have i:=b.trans A;exact mP (H.later i) (by omega) u (q.mono i.le)
end
end
section
variable {M M1 M2:Fr} {g:zc} {b k N n:Nat}
section
variable {gl : Fr} {h0 h h' : zc} {M0 M M' : Fr} {c : Nat} {s v x : Tr} {p : List Bt} {na : FA} {xk xi : Sl} {w : Bt} {K : Value -> zc -> Prop}
theorem nU(ag:AgM M g){cs:List Value}(e:M b=Tc cs.toArray):zd g ⟨b,0,Td⟩ 0 cs:=ku ag e (o:=0) (i:=0) (by unfold X.cut;simp)
theorem yJ(ag:AgM M g){cs:Array Value}{u:Value}(e:M b=Tc cs)(c:cs[0+k]?=Tc u):ze g ((⟨b,0,Td⟩:Addr).add k)=Tc u:=by rw[qo];exact ag.cell e c
theorem Ob{α:Type}{f:α->List dR}(l:List α)(k:Nat):((l.take k).flatMap f).length<=(l.flatMap f).length:=by
 have e:l.flatMap f=(l.take k).flatMap f++(l.drop k).flatMap f:=by rw[<-List.flatMap_append,zax]
 rw[e,ZC];omega
def Lp(h0:zc)(M0:Fr)(c:Nat)(s v:Tr)(p:List Bt)(M1:Fr)(na:FA)(G:Nat->List dR)(N:Nat)(i:Int)(g:zc):Prop:=
 ∃(k:Nat) (M':Fr) (nb:FA),i=k/\k<=N/\CK h0 M0 c s v p g M' (na++nb)/\Fr.le M1 M'/\nb.map (·.1)=G k
theorem Lp.start{G:Nat->List dR}(H:CK h0 M0 c s v p g M1 na)(e:G 0=[]):Lp h0 M0 c s v p M1 na G N 0 g:=⟨0,M1,[],rfl,ZN _,by rw[ZY];exact H,Fr.le.refl _,by rw[e];rfl⟩
theorem Lp.next{G:Nat->List dR}{nb:FA}{l:List dR}(h:k<N)(o:N<=1000000000)(le:Fr.le M1 M2)(e:nb.map (·.1)=G k)(i:G (k+1)=G k++l):Out h0 M0 c s v p M2 (na++nb) l λu g=>u=.tuple #[]/\(Lp h0 M0 c s v p M1 na G N (YJ .i64 ((k:Int)+1)) g/\N-(YJ .i64 ((k:Int)+1)).toNat<N-((k:Int)).toNat):=λg M' b C m f=>by rw[qd (n:=N) h (by omega)];exact⟨rfl,⟨k+1,M',nb++b,rfl,h,by rw[<-zbh];exact C,le.trans f,by rw[ZZ,e,m,i]⟩,by simp only[YO];omega⟩
theorem Lp.skip{G:Nat->List dR}{nb:FA}(b:k<N)(h:N<=1000000000)(C:CK h0 M0 c s v p g M2 (na++nb))(le:Fr.le M1 M2)(e:nb.map (·.1)=G k)(f:G (k+1)=G k):Lp h0 M0 c s v p M1 na G N (YJ .i64 ((k:Int)+1)) g/\N-(YJ .i64 ((k:Int)+1)).toNat<N-((k:Int)).toNat:=by rw[qd (n:=N) b (by omega)];exact⟨⟨k+1,M2,nb,rfl,b,C,le,by rw[e,f]⟩,by simp only[YO];omega⟩
theorem Lp.len{nb:FA}{l:List dR}(e:nb.map (·.1)=l):nb.length=l.length:=by rw[<-e,ZA]
theorem QQ(H:CK h0 M0 c s v p h M na)(I:Fr.le gl M)(V:Ok v)(u:Ok x)(F:∀y∈x.items,FlX gl n y v)(A:Rd M (.row .tree) x.items [aK xi])(Q:p.length+bR v<=1000)(hn:na.length<=300000000) (J:∀k,((x.items.take k).flatMap λy=>qi zr yy n y v p).length<=16777216) (P:Out h0 M0 c s v p M na (x.items.flatMap λy=>qi zr yy n y v p) K):
  XC Tp 159 #[.pointer (Tc ⟨c,0,Td⟩),.string w,.agg #[.int .i64 x.kind,.string x.text,aK xk,aK xi]] h K:=by
 apply VI (Tc ⟨c,0,Td⟩) w x.kind x.text xk xi;intro h1;obtain⟨D,z1,S⟩:=jo (g:=h1) rfl;clear_value h1;have Y:Later h M h1 M:=Later.same H.L.ag D;obtain⟨li,_,_⟩:=rowLen A;have il:=u.items;refine⟨xi,S.cellAdd rfl,Lp h0 M0 c s v p M na (λk=>(x.items.take k).flatMap λy=>qi zr yy n y v p) x.items.length,λi _=>x.items.length-i.toNat,Lp.start (H.later Y) rfl,?_⟩;rintro i g ⟨k,M',nb,rfl,hk,C,le,e⟩;refine⟨λt=>?_,λt=>?_⟩;have b:k<x.items.length:=by have:=zB t;omega
 obtain⟨a,m,r,ea,l,G,U⟩:=Xt C.L.ag (Rd.mono le A) b;refine⟨a,⟨ea,by omega,by omega⟩,x.items[k].kind,x.items[k].text,m,r,by rw[YO];exact l,?_⟩;intro O;refine xm C.L.ag λE q N o=>⟨x.items[k].kind,x.items[k].text,m,r,o.ld (cs:=[_,_,aK m,aK r]),_,rfl,?_⟩;have f:=C.later q;obtain⟨sk,si,vk,vi,sp,sl,B⟩:=f.box;have z:=YW b;have Z:nb.length<=16777216:=by rw[Lp.len e];exact J k
 refine⟨v.kind,v.text,vk,vi,B.ldv,Ak f (I.trans le) (u.item z) V (F _ z) G U B.rvk B.rvi (st:=[]) (ss:=⟨Td,0,0⟩) (.inl rfl) rfl (by simpa using Q) (by rw[ZC];omega) ?_⟩;rw[ZY];exact Lp.next b (by omega) le e (xn b);have b:k=x.items.length:=by have:=zC t;omega
 subst b;simp only[ZO]at e;exact P g M' nb C e le
theorem LK(hg:GL gl)(H:CK h0 M0 c s v p h M na)(hM:Fr.le gl M)(hv:Ok v)(hx:Ok x)(F:∀u∈v.items,FlX gl n x u)(rk:Rd M (.row .str) x.keys [aK xk])(ri:Rd M (.row .tree) x.items [aK xi])(hl:p.length+bR v<=1000)(hn:na.length<=300000000) (hb:v.kind=5->∀k,(((zak v.items.length).take k).flatMap λ(i:Nat)=>v.items[i]?.elim [] λy=>qi zr yy n x y (p++[bl (Lib.itoa i)])).length<=16777216) (G:Out h0 M0 c s v p M na (if v.kind=5 then(zak v.items.length).flatMap λ(i:Nat)=>v.items[i]?.elim [] λy=>qi zr yy n x y (p++[bl (Lib.itoa i)])else []) K):
  XC Tp 157 #[.pointer (Tc ⟨c,0,Td⟩),.string w,.agg #[.int .i64 x.kind,.string x.text,aK xk,aK xi]] h K:=by
 apply Xn (Tc ⟨c,0,Td⟩) w x.kind x.text xk xi;intro h1;have A:Later h M h1 (Mx M h.size #[.int .i64 x.kind,.string x.text,aK xk,aK xi]):=Later.frz H.L.ag _ _;have V:(Mx M h.size #[.int .i64 x.kind,.string x.text,aK xk,aK xi]) h.size=Tc #[.int .i64 x.kind,.string x.text,aK xk,aK xi]:=Ql _ _ _;generalize Mx M h.size #[.int .i64 x.kind,.string x.text,aK xk,aK xi]=M1 at A V;clear_value h1;have P:=H.later A;obtain⟨ap,ae,au,N,ak,an,m⟩:=P.box;refine⟨_,rfl,v.kind,m.cel rfl,λz=>?_,λz=>?_⟩;have I:v.kind≠5:=by simpa using z
 rw[za I]at G;exact G h1 M1 [] (by rw[ZY];exact P) rfl A.le;have I:v.kind=5:=by simpa using z
 rw[zb I]at G;obtain⟨li,_,_⟩:=rowLen m.rvi;have il:=hv.items;refine⟨_,rfl,N,m.cel rfl,Lp h0 M0 c s v p M1 na (λk=>((zak v.items.length).take k).flatMap λ(i:Nat)=>v.items[i]?.elim [] λy=>qi zr yy n x y (p++[bl (Lib.itoa i)])) v.items.length,λi _=>v.items.length-i.toNat,Lp.start P rfl,?_⟩;rintro i g ⟨k,M',nb,rfl,hk,C,le,e⟩;refine⟨λz=>?_,λz=>?_⟩;have b:k<v.items.length:=by have:=zB z;omega
 obtain⟨a,U,Y,ea,S,r1,r2⟩:=Xt C.L.ag (Rd.mono le m.rvi) b;refine⟨a,⟨ea,by omega,by omega⟩,v.items[k].kind,v.items[k].text,U,Y,by rw[YO];exact S,?_⟩;intro ah;refine xm C.L.ag λai t ar J=>⟨x.kind,x.text,xk,xi,nU t.ag (cs:=[_,_,aK xk,aK xi]) (le _ _ V),v.items[k].kind,v.items[k].text,U,Y,J.ld (cs:=[_,_,aK U,aK Y]),?_⟩;have aj:h.size<g.size:=C.L.ag.lt (le _ _ V);refine(vV (gl:=gl) hg.pow (n:=(k:Int)) (by omega) (by omega) (R:=λr=>r=bl (Lib.itoa k)) rfl).go (hM.trans (A.le.trans le)) t.ag (zm (Z2 _ _) zz) λu E af r f B Q=>?_;have Q:r=bl (Lib.itoa k):=Q;subst Q;have o:=t.trans f;have ay:=f.keep.size;refine⟨_,iP B,f.keep.get _ (by show g.size<_;omega),f.keep.get _ (by show h.size<_;omega),?_⟩;intro D;obtain⟨q,am,aa⟩:=jo (g:=D) rfl;clear_value D;have l:=o.trans (Later.same o.ag q);refine⟨(q.get _ (by show g.size<_;omega)).trans (f.keep.get _ (by show g.size<_;omega)),(q.get _ (by show h.size<_;omega)).trans (f.keep.get _ (by show h.size<_;omega)),?_⟩;have ab:=C.later l;have Z:=YW b;have hd:=jd Z;have ax:nb.length<=16777216:=by rw[Lp.len e];exact hb I k
 have O:=(A.le.trans le).trans l.le;refine Ak ab (hM.trans O) hx (hv.item Z) (F _ Z) (Rd.mono O rk) (Rd.mono O ri) (Rd.mono l.le r1) (Rd.mono l.le r2) (st:=[bl (Lib.itoa k)]) (ss:=⟨Tc ⟨E.size,0,Td⟩,1,1⟩) (.inr ⟨E.size,0,rfl,by omega,λj u hu=>aa.cell (by rw[ZP,<-zav];exact hu)⟩) rfl (by simp;omega) (by rw[ZC];omega) ?_;refine Lp.next b (by omega) (le.trans l.le) e ?_;rw[xn (by simpa using b),List.getElem_range,YR b];rfl;have b:k=v.items.length:=by have:=zC z;omega
 subst b;have e2:(zak v.items.length).take v.items.length=zak v.items.length:=by rw[zag (by simp)]
 simp only[e2]at e;exact G g M' nb C e (A.le.trans le)
end
end
section
variable {n:Nat}
section
variable {gl : Fr} {h0 h h' : zc} {M0 M M' : Fr} {c : Nat} {s v x : Tr} {p : List Bt} {na : FA} {xk xi : Sl} {w : Bt} {K : Value -> zc -> Prop}
theorem wE{M:Fr}{r:Tr×Bool}{w:Value}(h:Yf M [.tree,.bool] r w):∃sk si:Sl,w=.tuple #[.agg #[.int .i64 r.1.kind,.string r.1.text,aK sk,aK si],.bool r.2]/\Rd M (.row .str) r.1.keys [aK sk]/\Rd M (.row .tree) r.1.items [aK si]:=by
 obtain⟨vs,⟨i,rest,rfl,f,e,rfl,b⟩,rfl⟩:=h;obtain⟨sk,si,rfl,h1,c⟩:=ye f;have b:e=.bool r.2:=by have:=(eK rfl).1 b;simpa[Rd]using this
 subst b;exact⟨sk,si,rfl,h1,c⟩
theorem rh{h:zc}{b:Nat}{q:Bt}(B:Blk h b #[.string q])(e:b<n):Arr n h (Tc ⟨b,0,Td⟩) ([q].map ZD):=.inr ⟨b,0,rfl,e,λj u c=>B.cell (by rw[ZP,<-zav];exact c)⟩
theorem Vk(H:CK h0 M0 c s v p h M na)(hM:Fr.le gl M)(hv:Ok v)(hx:Ok x)(F:∀y∈x.items,∀u∈v.items,FlX gl n y u)(rk:Rd M (.row .str) x.keys [aK xk])(ri:Rd M (.row .tree) x.items [aK xi])(hl:p.length+bR v<=1000)(hn:na.length<=300000000) (hb:∀k,(((v.keys.zip v.items).take k).flatMap λm=>(xe x m.1).elim [] λy=>qi zr yy n y m.2 (p++[m.1])).length<=16777216) (hK:Out h0 M0 c s v p M na ((v.keys.zip v.items).flatMap λm=>(xe x m.1).elim [] λy=>qi zr yy n y m.2 (p++[m.1])) K):
  XC Tp 158 #[.pointer (Tc ⟨c,0,Td⟩),.string w,.agg #[.int .i64 x.kind,.string x.text,aK xk,aK xi]] h K:=by
 apply Je (Tc ⟨c,0,Td⟩) w x.kind x.text xk xi;intro h1;have U:Later h M h1 (Mx M h.size #[.int .i64 x.kind,.string x.text,aK xk,aK xi]):=Later.frz H.L.ag _ _;have eX:(Mx M h.size #[.int .i64 x.kind,.string x.text,aK xk,aK xi]) h.size=Tc #[.int .i64 x.kind,.string x.text,aK xk,aK xi]:=Ql _ _ _;generalize Mx M h.size #[.int .i64 x.kind,.string x.text,aK xk,aK xi]=M1 at U eX;clear_value h1;have H1:=H.later U;obtain⟨aE,am,ah,aA,aC,ap,A⟩:=H1.box;obtain⟨lk,_,_⟩:=rowLen A.rvk;have az:=hv.keys;have il:=hv.items;have zl:(v.keys.zip v.items).length=v.keys.length:=by rw[List.length_zip];omega
 refine⟨_,rfl,ah,A.cel rfl,Lp h0 M0 c s v p M1 na (λk=>((v.keys.zip v.items).take k).flatMap λm=>(xe x m.1).elim [] λy=>qi zr yy n y m.2 (p++[m.1])) v.keys.length,λi _=>v.keys.length-i.toNat,Lp.start H1 rfl,?_⟩;rintro i g ⟨k,M',nb,rfl,hk,C,le,e⟩;refine⟨λhc=>?_,λhc=>?_⟩;have f:k<v.keys.length:=by have:=zB hc;omega
 have z:k<v.items.length:=by omega
 have O:k<(v.keys.zip v.items).length:=by omega
 have hz:(v.keys.zip v.items)[k]=(v.keys[k],v.items[k]):=by simp
 refine jt C.L.ag (Rd.mono le A.rvk) f rfl rfl ?_;refine⟨x.kind,x.text,xk,xi,nU C.L.ag (cs:=[_,_,aK xk,aK xi]) (le _ _ eX),?_⟩;have Y:=U.le.trans le;refine(um (gl:=gl) hx (key:=v.keys[k]) (R:=λr=>r=((xe x v.keys[k]).getD (.mk 0 ⟨#[]⟩ [] []),(xe x v.keys[k]).isSome)) rfl).go (hM.trans Y) C.L.ag (zm (zj (Rd.mono Y rk) (Rd.mono Y ri)) (zm (rdStr _) zz)) λau aa t r E P hr=>?_;have hr:r=_:=hr;subst hr;obtain⟨yk,yi,rfl,N,J⟩:=wE P;have o:=C.later E;refine⟨_,_,yk,yi,_,rfl,?_⟩;intro aB;refine xm o.L.ag λD S ax I=>⟨λV=>?_,λV=>?_⟩;obtain⟨y,hy⟩:=Option.isSome_iff_exists.1 V;rw[hy]at I N J;have G:=wy hy;have b:=o.later S;obtain⟨sk,si,vk,vi,sp,sl,B⟩:=b.box;obtain⟨a,uk,ui,ea,ae,r1,r2⟩:=Xt b.L.ag B.rvi z;obtain⟨an,_,_⟩:=rowLen B.rvi;have hm:=YW z;have hd:=jd hm;have ab:(a.add ((k:Int).toNat*4)).block<D.size:=by obtain⟨b',o',cs',e1,e2,_⟩:=Go.X.rowAt B.rvi z;rw[ea]at e1;cases e1;rw[qo];exact b.L.ag.lt e2
 refine⟨y.kind,y.text,yk,yi,I.ld (cs:=[_,_,aK yk,aK yi]),_,rfl,vi,B.cel rfl,a,⟨ea,by omega,by omega⟩,v.items[k].kind,v.items[k].text,uk,ui,by rw[YO];exact ae,?_⟩;intro q;obtain⟨l,ay,ai⟩:=jo (g:=q) rfl;clear_value q;have af:Later D t q t:=Later.same b.L.ag l;have aj:=B.blk.lt;refine⟨l.get _ ab,l.get _ aj,l.get _ (by show aa.size<_;omega),?_⟩;have ak:=b.later af;have ar:nb.length<=16777216:=by rw[Lp.len e];exact hb k
 have Q:Fr.le M' t:=E.le;refine Ak ak (hM.trans (Y.trans Q)) (hx.item G) (hv.item hm) (F y G _ hm) N J r1 r2 (st:=[v.keys[k]]) (ss:=⟨Tc ⟨D.size,0,Td⟩,1,1⟩) (rh ai (by omega)) rfl (by simp;omega) (by rw[ZC];omega) ?_;refine Lp.next f (by omega) (le.trans Q) e ?_;show((v.keys.zip v.items).take (k+1)).flatMap _=_;rw[xn O,hz];show _++((xe x v.keys[k]).elim [] λy=>qi zr yy n y v.items[k] (p++[v.keys[k]]))=_;rw[hy];rfl;have Z:xe x v.keys[k]=Td:=by
  cases hk2:xe x v.keys[k]with
  |none=>rfl
  |some y=>rw[hk2]at V;cases V
 refine Lp.skip f (by omega) (o.later S) (le.trans E.le) e ?_;show((v.keys.zip v.items).take (k+1)).flatMap _=_;rw[xn O,hz];show _++((xe x v.keys[k]).elim [] λy=>qi zr yy n y v.items[k] (p++[v.keys[k]]))=_;rw[Z];simp;have f:k=v.keys.length:=by have:=zC hc;omega
 subst f;have e2:(v.keys.zip v.items).take v.keys.length=v.keys.zip v.items:=zag (by omega);simp only[e2]at e;exact hK g M' nb C e (U.le.trans le)
theorem WB(H:CK h0 M0 c s v p h M na)(hM:Fr.le gl M)(hv:Ok v)(hx:Ok x)(Y:Rd M (.row .tree) x.items [aK xi])(hl:p.length<=1000)(hn:na.length<=300000000) (D:Out h0 M0 c s v p M na (if v.kind=6 then(x.items.filter λy=>decide (idxOfS v.keys y.text<0)).map λy=>(p++[y.text],lb w)else []) K):
  XC Tp 155 #[.pointer (Tc ⟨c,0,Td⟩),.string w,.agg #[.int .i64 x.kind,.string x.text,aK xk,aK xi]] h K:=by
 apply LS (Tc ⟨c,0,Td⟩) w x.kind x.text xk xi;intro h1;obtain⟨Z,z1,B1⟩:=jo (g:=h1) rfl;clear_value h1;have L1:Later h M h1 M:=Later.same H.L.ag Z;have J:=H.later L1;obtain⟨an,ab,ap,ai,ak,am,G⟩:=J.box;have il:=hx.items;obtain⟨li,_,_⟩:=rowLen Y;refine⟨_,rfl,v.kind,G.cel rfl,λo=>?_,λo=>?_⟩;have Q:v.kind≠6:=by simpa using o
 rw[za Q]at D;exact D h1 M [] (by rw[ZY];exact J) rfl (Fr.le.refl _);have Q:v.kind=6:=by simpa using o
 rw[zb Q]at D;refine⟨xi,B1.cellAdd rfl,Lp h0 M0 c s v p M na (λk=>((x.items.take k).filter λy=>decide (idxOfS v.keys y.text<0)).map λy=>(p++[y.text],lb w)) x.items.length,λi _=>x.items.length-i.toNat,Lp.start J rfl,?_⟩;rintro i g ⟨k,M',nb,rfl,hk,C,le,e⟩;refine⟨λo=>?_,λo=>?_⟩;have b:k<x.items.length:=by have:=zB o;omega
 obtain⟨a,yk,yi,ea,O,r1,r2⟩:=Xt C.L.ag (Rd.mono le Y) b;refine⟨a,⟨ea,by omega,by omega⟩,x.items[k].kind,x.items[k].text,yk,yi,by rw[YO];exact O,?_⟩;intro aa;refine xm C.L.ag λaf E ae t=>?_;have l:=C.later E;obtain⟨sk,si,vk,vi,sp,sl,B⟩:=l.box;refine⟨_,rfl,vk,B.cel rfl,x.items[k].text,t.cellAdd rfl,?_⟩;refine(vM (gl:=gl) (xs:=v.keys) (x:=x.items[k].text) (R:=λr=>r=decide (0<=idxOfS v.keys x.items[k].text)) rfl).go (vs:=[aK vk,.string x.items[k].text]) (hM.trans le) l.L.ag (zm ((eK rfl).2 B.rvk) (zm (rdStr _) zz)) λu I F r f q N=>?_;have N:r=_:=N;subst N;have m:=l.later f;have aj:=f.keep.size;have z:Fr.le M' F:=f.le;have ar:nb.length<=4096:=by rw[Lp.len e,ZA];exact zaj (Y6 k) (by omega)
 refine⟨_,eP q,λn=>?_,λn=>?_⟩;have n:idxOfS v.keys x.items[k].text<0:=by simp at n;omega
 have S:=t.keep (f.keep.get g.size (by omega));refine⟨x.items[k].text,S.cellAdd rfl,?_⟩;intro A;obtain⟨P,ah,V⟩:=jo (g:=A) rfl;clear_value A;have U:=m.later (Later.same m.L.ag P);refine yC U (st:=[x.items[k].text]) (ss:=⟨Tc ⟨I.size,0,Td⟩,1,1⟩) (rh V (by omega)) rfl (by simp;omega) (by rw[ZC];omega) ?_;refine Lp.next b (by omega) (le.trans z) e ?_;rw[wb b,zb (zD n),ZZ];rfl;have n:¬idxOfS v.keys x.items[k].text<0:=by simp at n;omega
 refine Lp.skip b (by omega) m (le.trans z) e ?_;rw[wb b,za (by simpa using n),ZY];have b:k=x.items.length:=by have:=zC o;omega
 subst b;simp only[ZO]at e;exact D g M' nb C e le
end
end
section
variable {h:zc}
section
variable {gl : Fr} {h0 h h' : zc} {M0 M M' : Fr} {c : Nat} {s v x : Tr} {p : List Bt} {na : FA} {xk xi : Sl} {w : Bt} {K : Value -> zc -> Prop}
theorem WV(H:CK h0 M0 c s v p h M na)(hM:Fr.le gl M)(hs:Ok s)(hv:Ok v)(hl:p.length<=1000)(hn:na.length<=300000000) (hK:Out h0 M0 c s v p M na (if lb x.text=[116,114,117,101]then(v.keys.filter λk=>decide (idxOfS (((xe s (bl zq)).map Tr.keys).getD []) k<0)).map λk=>(p++[k],lb w)else []) K):
  XC Tp 156 #[.pointer (Tc ⟨c,0,Td⟩),.string w,.agg #[.int .i64 x.kind,.string x.text,aK xk,aK xi]] h K:=by
 apply Wb (Tc ⟨c,0,Td⟩) w x.kind x.text xk xi;intro h1;have D:Later h M h1 (Mx M h.size #[.int .i64 x.kind,.string x.text,aK xk,aK xi]):=Later.frz H.L.ag _ _;have eX:(Mx M h.size #[.int .i64 x.kind,.string x.text,aK xk,aK xi]) h.size=Tc #[.int .i64 x.kind,.string x.text,aK xk,aK xi]:=Ql _ _ _;generalize Mx M h.size #[.int .i64 x.kind,.string x.text,aK xk,aK xi]=M1 at D eX;clear_value h1;have H1:=H.later D;obtain⟨Z,Q,am,ax,ay,an,A⟩:=H1.box;refine⟨_,rfl,s.kind,s.text,Z,Q,A.lds,?_⟩;have em:(⟨#[109,101,109,98,101,114,115]⟩:Bt)=bl zq:=rfl;rw[em];refine(um (gl:=gl) hs (key:=bl zq) (R:=λr=>r=((xe s (bl zq)).getD (.mk 0 ⟨#[]⟩ [] []),(xe s (bl zq)).isSome)) rfl).go (hM.trans D.le) D.ag (zm (zj A.rsk A.rsi) (zm (rdStr _) zz)) λu8 I P r O n B=>?_;have B:r=_:=B;subst B;obtain⟨J,yi,rfl,m,ak⟩:=wE n;have ek:((xe s (bl zq)).getD (.mk 0 ⟨#[]⟩ [] [])).keys=((xe s (bl zq)).map Tr.keys).getD []:=by cases xe s (bl zq) <;> rfl
 refine⟨_,_,J,yi,_,rfl,?_⟩;intro aj;refine xm O.ag λq aa au ae=>?_;have l:Later I P q (MxL P q [I.size]):=MxL.later O.ag aa.keep λb hb=>by rw[zaf.1 hb];exact YM _
 have eY:(MxL P q [I.size]) I.size=Tc #[.int .i64 ((xe s (bl zq)).getD (.mk 0 ⟨#[]⟩ [] []),(xe s (bl zq)).isSome).1.kind,.string ((xe s (bl zq)).getD (.mk 0 ⟨#[]⟩ [] []),(xe s (bl zq)).isSome).1.text,aK J,aK yi]:=MxL.at (by simp) ae;generalize MxL P q [I.size]=M15 at l eY;have F:=(H1.later O).later l;have o:Fr.le M1 M15:=O.le.trans l.le;obtain⟨sk,si,vk,vi,sp,sl,Bc⟩:=F.box;rw[ek]at m;have m:=Rd.mono l.le m;generalize ai:((xe s (bl zq)).map Tr.keys).getD []=kn at m hK;obtain⟨lk,_,_⟩:=rowLen Bc.rvk;have kl:=hv.keys;have il:=hv.items;refine⟨_,rfl,vk,Bc.cel rfl,Lp h0 M0 c s v p M15 na (λk=>if lb x.text=[116,114,117,101]then((v.keys.take k).filter λy=>decide (idxOfS kn y<0)).map λy=>(p++[y],lb w)else []) v.keys.length,λi _=>v.keys.length-i.toNat,Lp.start F (by simp),?_⟩;rintro i g ⟨k,M',nb,rfl,hk,C,le,e⟩;refine⟨λS=>?_,λS=>?_⟩;have f:k<v.keys.length:=by have:=zB S;omega
 refine jt C.L.ag (Rd.mono le Bc.rvk) f rfl rfl ?_;refine⟨x.text,yJ C.L.ag (le _ _ (o _ _ eX)) rfl,J,λ_=>yJ C.L.ag (le _ _ eY) rfl,?_⟩;have lM:=D.le.trans (o.trans le);have ap:nb.length<=4096:=by rw[Lp.len e];split;rw[ZA];exact zaj (Y6 k) (by omega);exact ZN _
 rw[jA];by_cases z:lb x.text=[116,114,117,101];have et:decide (lb x.text=(#[116,114,117,101]:Array UInt8).toList)=Ta:=zD z;rw[et];refine⟨λu g'=>u=.bool (decide (0<=idxOfS kn v.keys[k]))/\∃M2,Later g M' g' M2,λ_=>?_,λG=>(nomatch G),λ_ u g' ⟨N,_⟩=>⟨_,N⟩,?_⟩;refine(vM (gl:=gl) (xs:=kn) (x:=v.keys[k]) (R:=λr=>r=decide (0<=idxOfS kn v.keys[k])) rfl).go (vs:=[aK J,.string v.keys[k]]) (hM.trans lM) C.L.ag (zm ((eK rfl).2 (Rd.mono le m)) (zm (rdStr _) zz)) λu az ab r Y n B=>?_;have B:r=_:=B;subst B;exact⟨_,eP n,rfl,ab,Y⟩;rintro b g2 ⟨N,M2,L2⟩;cases N;have V:=C.later L2;refine⟨λt=>?_,λt=>?_⟩;have t:idxOfS kn v.keys[k]<0:=by simp at t;omega
 intro E;obtain⟨U,ar,ah⟩:=jo (g:=E) rfl;clear_value E;have af:=V.later (Later.same V.L.ag U);refine yC af (st:=[v.keys[k]]) (ss:=⟨Tc ⟨g2.size,0,Td⟩,1,1⟩) (rh ah (by omega)) rfl (by simp;omega) (by rw[ZC];omega) ?_;refine Lp.next f (by omega) (le.trans L2.le) e ?_;rw[zb z,zb z,wb f,zb (zD t),ZZ];rfl;have t:¬idxOfS kn v.keys[k]<0:=by simp at t;omega
 refine Lp.skip f (by omega) V (le.trans L2.le) e ?_;rw[zb z,zb z,wb f,za (by simpa using t),ZY];have et:decide (lb x.text=(#[116,114,117,101]:Array UInt8).toList)=Tb:=zE z;rw[et];refine⟨λu g'=>u=.bool Ta/\g'=g,λG=>(nomatch G),λ_=>⟨Ta,rfl,rfl⟩,λG=>(nomatch G),?_⟩;rintro b g2 ⟨N,rfl⟩;refine⟨λt=>(nomatch t),λ_=>?_⟩;refine Lp.skip f (by omega) C le e ?_;rw[za z,za z];have f:k=v.keys.length:=by have:=zC S;omega
 subst f;simp only[ZO]at e;exact hK g M' nb C e (D.le.trans (o.trans le))
def wordC:List Value:=(sWords.map bl).map ZD
theorem K8:qj Tp 70=Ta:=by kernel_rfl
theorem MY:yb Tp 70=13:=by kernel_rfl
theorem Nq{b:Nat}{cs:Array Value}(H:Blk h b cs)(f:cs.size=13){K:zc->Prop}
  (k:∀h':zc,Blk h' b wordC.toArray->h'.size=h.size->(∀j,j≠b->h'[j]?=h[j]?)->K h'):XRunU Tp (YN 70 (.pointer (Tc ⟨b,0,Td⟩)) (.agg wordC.toArray)) h K:=
 J5 (vs:=wordC) K8 H rfl MY (by rw[f];exact YM _) (by intro u e;unfold wordC at e;obtain⟨y,_,rfl⟩:=za6.1 e;rfl) λh' c l i=>k h' (by rw[tu (by rw[f];rfl)]at c;exact c) l i
theorem Dq{K:Value->zc->Prop}(i:∀g,Keep h.size h g->K (.agg wordC.toArray) g):XC Tp 55 #[] h K:=by apply WE;intro h1;obtain⟨e,m,l⟩:=jo (g:=h1) rfl;clear_value h1;refine Nq l rfl λb k z2 c=>?_;have k2:Keep h.size h b:=⟨by omega,λj f=>by rw[c j (by omega)];exact e.get j f⟩;exact⟨_,_,_,_,_,_,_,_,_,_,_,_,_,k.ld (cs:=[_,_,_,_,_,_,_,_,_,_,_,_,_]),i b k2⟩
theorem Hc:∀{k:Nat} (b:k<sWords.length) (h:zc),QExec Tp (zdc 70 (.agg wordC.toArray) (.int .i64 (k:Int))) h (.string (bl sWords[k]))
 |0,_,_=>λB d=>qf (by kernel_rfl) _
 |1,_,_=>λB d=>qf (by kernel_rfl) _
 |2,_,_=>λB d=>qf (by kernel_rfl) _
 |3,_,_=>λB d=>qf (by kernel_rfl) _
 |4,_,_=>λB d=>qf (by kernel_rfl) _
 |5,_,_=>λB d=>qf (by kernel_rfl) _
 |6,_,_=>λB d=>qf (by kernel_rfl) _
 |7,_,_=>λB d=>qf (by kernel_rfl) _
 |8,_,_=>λB d=>qf (by kernel_rfl) _
 |9,_,_=>λB d=>qf (by kernel_rfl) _
 |10,_,_=>λB d=>qf (by kernel_rfl) _
 |11,_,_=>λB d=>qf (by kernel_rfl) _
 |12,_,_=>λB d=>qf (by kernel_rfl) _
 |n+13,b,_=>absurd b (by show¬n+13<13;omega)
def mF(q:Bs):FuncId:=
 if q=Yo then 151 else if q=Xh then 152 else if q=js\/q=Yp then 153 else if q=xb\/q=X8 then 154
 else if q=wv then 155 else if q=yw then 156 else if q=Zg then 157 else if q=zq then 158 else if q=fX then 159 else if q=fQ then 160 else 161
theorem LZ{a:Option Addr}(b:K (.func (.func (mF (lb w))) #[.pointer a] #[]) h):XC Tp 91 #[.pointer a,.string w] h K:=by apply Xl a w;simp only[jA];unfold mF at b;refine⟨λH=>?_,λu=>⟨λN=>?_,λM=>?_⟩⟩;rw[zb (show lb w=Yo from zB H)]at b;exact b;rw[za (show lb w≠Yo from zC u),zb (show lb w=Xh from zB N)]at b;exact b;rw[za (show lb w≠Yo from zC u),za (show lb w≠Xh from zC M)]at b;intro P i;refine⟨λr=>i _ h ⟨λ_=>?_,λf=>by rw[f]at r;cases r⟩,λE=>i _ h ⟨λJ=>?_,λG=>?_⟩⟩;rw[zb (.inl (show lb w=js from zB r))]at b;exact b;rw[zb (.inr (show lb w=Yp from zB J))]at b;exact b;have A:lb w≠js:=zC E;have L:lb w≠Yp:=zC G;rw[za (by simp[A,L])]at b;intro O m;refine⟨λo=>m _ h ⟨λ_=>?_,λf=>by rw[f]at o;cases o⟩,λz=>m _ h ⟨λI=>?_,λy=>?_⟩⟩;rw[zb (.inl (show lb w=xb from zB o))]at b;exact b;rw[zb (.inr (show lb w=X8 from zB I))]at b;exact b;have D:lb w≠xb:=zC z;have x:lb w≠X8:=zC y;rw[za (by simp[D,x])]at b;refine⟨λB=>?_,λe=>⟨λC=>?_,λk=>⟨λF=>?_,λn=>⟨λs=>?_,λc=>⟨λp=>?_,λl=>⟨λt=>?_,λq=>?_⟩⟩⟩⟩⟩⟩;rw[zb (show lb w=wv from zB B)]at b;exact b;rw[za (show lb w≠wv from zC e),zb (show lb w=yw from zB C)]at b;exact b;rw[za (show lb w≠wv from zC e),za (show lb w≠yw from zC k),zb (show lb w=Zg from zB F)]at b;exact b;rw[za (show lb w≠wv from zC e),za (show lb w≠yw from zC k),za (show lb w≠Zg from zC n),zb (show lb w=zq from zB s)]at b;exact b;rw[za (show lb w≠wv from zC e),za (show lb w≠yw from zC k),za (show lb w≠Zg from zC n),za (show lb w≠zq from zC c),zb (show lb w=fX from zB p)]at b;exact b;rw[za (show lb w≠wv from zC e),za (show lb w≠yw from zC k),za (show lb w≠Zg from zC n),za (show lb w≠zq from zC c),za (show lb w≠fX from zC l),zb (show lb w=fQ from zB t)]at b;exact b;rw[za (show lb w≠wv from zC e),za (show lb w≠yw from zC k),za (show lb w≠Zg from zC n),za (show lb w≠zq from zC c),za (show lb w≠fX from zC l),za (show lb w≠fQ from zC q)]at b;exact b
theorem Nx(q:Bs):zx Tp (mF q)=Ta:=by
 unfold mF;repeat' split
 all_goals kernel_rfl
set_option maxHeartbeats 1000000 in
theorem RJ(D:GL gl){n:Nat}(H:CK h0 M0 c s v p h M na)(o:Fr.le gl M)(O:Ok s)(r:Ok v)(t:Ok x){q:Bs}(J:q∈sWords)(b:fb (qg n) q x=Ta) (L:qg n x=Ta->∀u,(u=v\/u∈v.items)->FlX gl n x u) (G:∀y∈x.items,qg n y=Ta->∀u,(u=v\/u∈v.items)->FlX gl n y u) (A:Rd M (.row .str) x.keys [aK xk]) (z:Rd M (.row .tree) x.items [aK xi]) (F:p.length+bR v<=1000) (E:na.length<=300000000) (i:Out h0 M0 c s v p M na (fG zr yy (qi zr yy n) s q x v p) K):
  XC Tp (mF q) #[.pointer (Tc ⟨c,0,Td⟩),.string (bl q),.agg #[.int .i64 x.kind,.string x.text,aK xk,aK xi]] h K:=by
 have e:p.length<=1000:=by omega
 have m:na.length<=900000000:=by omega
 have Q:lb (bl q)=q:=jg q;have pre:∀{α:Type} (l:List α) (f:α->List dR),(l.flatMap f).length<=16777216->∀k,((l.take k).flatMap f).length<=16777216:=λl f N k=>zaj (Ob l k) N;have C:=vt (n:=n) (s:=s) (w:=q) (p:=p) t r;unfold sWords at J;simp only[YS,List.not_mem_nil,or_false]at J;rcases J with rfl|rfl|rfl|rfl|rfl|rfl|rfl|rfl|rfl|rfl|rfl|rfl|rfl;exact Pn H o e m i;exact Oi D H o r t A z e m i;rw[sP]at b;exact Fh D H o r t (zB b) A z e m i;rw[qM]at b;exact Fh D H o r t (zB b) A z e m i;rw[yT]at b;simp only[ZE,zA]at b;exact F7 D H o r t b.1 b.2.1 b.2.2 A z e m i;rw[wV]at b;simp only[ZE,zA]at b;exact F7 D H o r t b.1 b.2.1 b.2.2 A z e m i;rw[Ae]at i;exact WB H o r t z e E i;rw[y4]at i;exact WV H o O r e E i;rw[rJ]at b;rw[xI]at i C;exact LK D H o r t (λu I=>L b u (.inr I)) A z F E (λP=>by rw[zb P]at C;exact pre _ _ C) i;rw[Xk,ZE,ZJ]at b;rw[xR]at i C;exact Vk H o r t (λy B u I=>G y B (b.2 y B) u (.inr I)) A z F E (pre _ _ C) i;rw[qH,ZE,ZJ]at b;rw[vD]at i C;exact QQ H o r t (λy B=>G y B (b.2 y B) v (.inl rfl)) z F E (pre _ _ C) i;rw[r9,ZE,ZJ]at b;rw[Hr]at i;exact Ss H o r t (λy B=>G y B (b.2 y B) v (.inl rfl)) A z e m i;rw[qX]at b;rw[BU]at i;exact MA H o r (L b v (.inl rfl)) A z e m i
end
end
section
variable {s v:Tr}
section
variable {gl : Fr}
set_option maxHeartbeats 2000000 in
theorem x5(hg:GL gl):∀(n:Nat) (s v:Tr),bR s<=n->Ok s->Ok v->qg n s=Ta->FlX gl n s v
 |0,s,v,hd,_,_,_=>by have:=Xu s;omega
 |n+1,s,v,hd,hs,U,hrs=>λp hp h M hM ag yv uv ry ru sp rp K hK=>by
  obtain⟨sk,si,rfl,rsk,rsi⟩:=ye ry;obtain⟨vk,vi,rfl,rvk,rvi⟩:=ye ru;apply Sw s.kind s.text sk si v.kind v.text vk vi sp;intro h1;have L1:Later h M h1 (Mx M h.size #[.int .i64 s.kind,.string s.text,aK sk,aK si]):=Later.frz ag _ _;have eS:(Mx M h.size #[.int .i64 s.kind,.string s.text,aK sk,aK si]) h.size=Tc #[.int .i64 s.kind,.string s.text,aK sk,aK si]:=Ql _ _ _;have z1:h1.size=h.size+1:=ZI _;generalize Mx M h.size #[.int .i64 s.kind,.string s.text,aK sk,aK si]=M1 at L1 eS;clear_value h1;intro D;obtain⟨k2,z2,B2⟩:=jo (g:=D) rfl;clear_value D;have Y:Later h M D M1:=L1.trans (Later.same L1.ag k2);refine⟨s.kind,s.text,sk,si,nU Y.ag (cs:=[_,_,aK sk,aK si]) eS,v.kind,v.text,vk,vi,B2.ld (cs:=[_,_,aK vk,aK vi]),?_⟩;intro t;obtain⟨af,aC,ai⟩:=jo (g:=t) rfl;clear_value t;have b:Later h M t M1:=Y.trans (Later.same Y.ag af);have aa:CK h M D.size s v p t M1 []:=⟨b,by omega,Y.ag.none (YM _),sk,si,vk,vi,sp,⟨Td,0,0⟩,⟨ai,Rd.mono b.le rsk,Rd.mono b.le rsi,Rd.mono b.le rvk,Rd.mono b.le rvi,Rd.mono b.le rp,FS.nil,λq hq=>(nomatch hq)⟩⟩;refine Dq λam ah=>⟨_,_,_,_,_,_,_,_,_,_,_,_,_,rfl,?_⟩;have aj:=aa.later (Later.same b.ag ah);have ak:sWords.length=13:=rfl;refine⟨Lp h M D.size s v p M1 [] (gW n s v p) 13,λi _=>13-i.toNat,Lp.start aj rfl,?_⟩;rintro i g ⟨k,M',nb,rfl,hk,C,le,e⟩;rw[zba]at C;refine⟨λhc=>?_,λhc=>?_⟩;have o:k<13:=by have:=zB hc;omega
  have l:k<sWords.length:=by omega
  refine⟨bl sWords[k],λg0=>Hc l g0,s.kind,s.text,sk,si,nU C.L.ag (cs:=[_,_,aK sk,aK si]) (le _ _ eS),?_⟩;have S:=b.le.trans le;refine(um (gl:=gl) hs (key:=bl sWords[k]) (R:=λr=>r=((xe s (bl sWords[k])).getD (.mk 0 ⟨#[]⟩ [] []),(xe s (bl sWords[k])).isSome)) rfl).go (hM.trans S) C.L.ag (zm (zj (Rd.mono S rsk) (Rd.mono S rsi)) (zm (rdStr _) zz)) λaz aA ae r m I w=>?_;have w:r=_:=w;subst w;obtain⟨yk,yi,rfl,H,F⟩:=wE I;have x:=C.later m;refine⟨_,_,yk,yi,_,rfl,?_⟩;intro an;refine xm x.L.ag λap O aE J=>⟨λf=>?_,λf=>?_⟩;obtain⟨y,V⟩:=Option.isSome_iff_exists.1 f;rw[V]at J H F;have E:=wy V;have ay:=jd E;have A:=hs.item E;have ab:=x.later O;have Q:=v8 hrs (qm hs.nd) V;refine⟨y.kind,y.text,yk,yi,J.ld (cs:=[_,_,aK yk,aK yi]),LZ ⟨_,rfl,rfl,?_⟩⟩;rw[jg];refine⟨Nx _,?_⟩;have aF:nb.length<=218103808:=by rw[Lp.len e];have:=G3 (n:=n) (p:=p) hs U k;omega
  have ih:∀z,bR z<=n->Ok z->qg n z=Ta->∀u,(u=v\/u∈v.items)->FlX gl n z u:=λz hd ho w u hu=>x5 hg n z u hd ho (by rcases hu with rfl|hu;exact U;exact U.item hu) w;refine RJ hg (n:=n) ab (hM.trans (S.trans m.le)) hs U A (YW l) Q (λw=>ih y (by omega) A w) (λz hz w=>ih z (by have:=jd hz;omega) (A.item hz) w) H F hp (by omega) ?_;have nx:=Lp.next (h0:=h) (M0:=M) (c:=D.size) (s:=s) (v:=v) (p:=p) (na:=[]) (M1:=M1) (M2:=ae) (G:=gW n s v p) (N:=13) (nb:=nb) o (by omega) (le.trans m.le) e (H8 l V);rw[zba]at nx;exact nx;have Z:xe s (bl sWords[k])=Td:=by
   cases hk2:xe s (bl sWords[k])with
   |none=>rfl
   |some y=>rw[hk2]at f;cases f
  exact Lp.skip o (by omega) (by rw[zba];exact x.later O) (le.trans m.le) e (Bl l Z);have o:k=13:=by have:=zC hc;omega
  subst o;obtain⟨ar,aB,ax,au,aG,P,B⟩:=C.box;exact⟨_,rfl,P,B.blk.cellAdd (by rfl),hK g M' nb P C.L B.fs e⟩
theorem Ll(w:GL gl){n:Nat}(k:bR s<=n)(f:Ok s)(i:Ok v)(r:qg n s=Ta){p:List Bt}(l:p.length+bR v<=1000){R:List (List Bt×Bt)->Prop}(h:R ((qi zr yy n s v p).map fE)):PC Tp gl 49 [Arg.mk .tree s,Arg.mk .tree v,Arg.mk (.row .str) p] [.row Xp] R:=by
 intro h0 M vs o ag z
 match vs,z with
 |[u1,u2,u3],⟨h1,h2,h3,_⟩=>
  obtain⟨sp,rfl,m⟩:=lI h3;apply PX.of;refine x5 w n s v k f i r p l h0 M o ag u1 u2 h1 h2 sp m _ λg M' nb sl L t e=>?_;have A:nb.length<=16777216:=by have:=congrArg zam e;rw[ZA]at this;rw[this];exact kf f i
  obtain⟨bs,c,rd⟩:=t.rd L.ag (by omega);have q:(nb.map λx=>fE x.1)=(qi zr yy n s v p).map fE:=by rw[<-e,za8];rfl
  rw[q]at rd;refine⟨MxL M' g bs,_,⟨L.keep,L.le.trans (Y4 L.ag bs),λb u=>?_,MxL.ag L.ag bs⟩,Yu.2 ((eK rfl).2 rd),h⟩;unfold MxL;rw[za (λy=>by have:=(c b y).1;omega)];exact L.old b u
theorem CP(i:GL gl)(l:Sm s)(m:Sm v){R:List (List Bt×Bt)×Int->Prop}(h:R ((Y7 s v).1.map fE,(Y7 s v).2)):PC Tp gl 14 [Arg.mk .tree s,Arg.mk .tree v] [.row Xp,.int .i64] R:=by
 apply XX;simp only[qu];unfold Y7 at h;refine tj i l ⟨λr=>r=yn v,λ_=>wx i m rfl,λn f=>?_⟩;by_cases h1:dK s=Ta;have f:n=yn v:=f (by rw[h1];rfl);rw[h1,f];by_cases b:yn v=Ta;rw[zb ⟨h1,b⟩]at h;rw[b];have os:=Q1 l (t6 h1);have k:=Q1 m b;have:=k.dp;exact⟨λc=>(nomatch c),λ_=>Ll i (YM _) os k (tX h1 (YM _)) (by simp;omega) h⟩;rw[za (λe=>b e.2)]at h;have b:yn v=Tb:=by simpa using b
 rw[b];exact⟨λ_=>h,λc=>(nomatch c)⟩;rw[za (λe=>h1 e.1)]at h;have h1:dK s=Tb:=by simpa using h1
 rw[h1];exact⟨λ_=>h,λc=>(nomatch c)⟩
theorem ve(b:GL gl)(c:Sm s)(f:Sm v){R:Bool->Prop}(h:R (gK zr yy s v)):PC Tp gl 19 [Arg.mk .tree s,Arg.mk .tree v] [.bool] R:=by
 apply L0;simp only[qu];refine CP b c f ?_;rw[GZ]at h;have e:(bif ((Y7 s v).2==0)then((((zam ((Y7 s v).1.map fE):Nat):Int))==0)else Tb)=(decide ((Y7 s v).2=0)&&decide ((Y7 s v).1.length=0)):=by
  rw[fx,fx,ZA];cases decide ((Y7 s v).2=0)with
  |false=>rfl
  |true=>simp
 rw[<-e]at h;exact h
end
end
section
variable {M:Fr}
def pD:Bs:=[123,34,109,101,109,98,101,114,115,34,58,123,34,98,34,58,123,34,108,101,97,115,116,34,58,51,125,125,44,34,116,121,112,101,34,58,34,111,98,106,101,99,116,34,44,34,110,101,101,100,34,58,91,34,97,34,93,125]
def np:Bs:=[123,34,98,34,58,49,125]
def nj:Bs:=[123,34,97,110,121,34,58,91,123,34,116,121,112,101,34,58,34,110,117,108,108,34,125,44,123,34,101,110,117,109,34,58,91,49,93,125,93,125]
def nT(n:Bs):Tr:=.mk 3 (bl n) [] []
def sT(n:Bs):Tr:=.mk 4 (bl n) [] []
def smS30:Tr:=.mk 6 (bl []) [bl zq,bl Yo,bl wv] [.mk 6 (bl []) [bl [98]] [.mk 6 (bl []) [bl js] [nT [51]]],sT [111,98,106,101,99,116],.mk 5 (bl []) [] [sT [97]]]
def jQ:Tr:=.mk 6 (bl []) [bl [98]] [nT [49]]
def smT30:Tr:=.mk 6 (bl []) [bl fQ] [.mk 5 (bl []) [] [.mk 6 (bl []) [bl Yo] [sT [110,117,108,108]],.mk 6 (bl []) [bl Xh] [.mk 5 (bl []) [] [nT [49]]]]]
theorem C4:((J6 pD).1,(J6 pD).2.2)=(smS30,0):=by kernel_rfl
theorem CF:((J6 np).1,(J6 np).2.2)=(jQ,0):=by kernel_rfl
theorem CI:((J6 nj).1,(J6 nj).2.2)=(smT30,0):=by kernel_rfl
theorem OV:dK smS30=Ta:=by kernel_rfl
theorem JR:yn jQ=Ta:=by kernel_rfl
theorem Kj:qi zr yy (bR smS30) smS30 jQ []=[([bl [97]],wv),([bl [98]],js)]:=by kernel_rfl
theorem Iy:gK zr yy smT30 (nT [49])=Ta:=by kernel_rfl
theorem Om:gK zr yy smT30 (nT [50])=Tb:=by kernel_rfl
theorem Ky:hH smS30=[bl Yo,bl wv,bl zq]:=by kernel_rfl
section
variable {gl : Fr}
theorem wL{r:Tr×Int×Int}{w:Value}(h:Yf M [.tree,.int .i64,.int .i64] r w):∃sk si:Sl,w=.tuple #[.agg #[.int .i64 r.1.kind,.string r.1.text,aK sk,aK si],.int .i64 r.2.1,.int .i64 r.2.2]/\Rd M (.row .str) r.1.keys [aK sk]/\Rd M (.row .tree) r.1.items [aK si]:=by obtain⟨vs,⟨n,k,rfl,e,m,i,rfl,b,l,rfl,f⟩,rfl⟩:=h;obtain⟨sk,si,rfl,h1,c⟩:=ye e;rw[yj b,yj f];exact⟨sk,si,rfl,h1,c⟩
theorem KO{g:zc}(ag:AgM M g){lo:Nat}{s':Sl}{xs:List Bt}(H:Owns g lo 9 1 s' (xs.map ZD))(l:s'.len=xs.length)(z:xs.length<=1000000):∃M',(Fr.le M M'/\(∀b,b<lo->M' b=M b)/\AgM M' g)/\Rd M' (.row .str) xs [aK s']/\True:=by
 by_cases h0:xs=[];subst h0;exact⟨M,⟨Fr.le.refl _,λ_ _=>rfl,ag⟩,⟨_,rfl,s'.a,s'.cap,by rw[aK,l],⟨by simp,by simp⟩,.inl rfl⟩,trivial⟩;have w:=ZX.2 h0;rcases H.2 with⟨h,D⟩|⟨b,cap,c,h,o,r,t,n,p,f⟩;omega;simp only[ZU]at h;obtain⟨s,C,B⟩:=h;have u:Blk g b c:=⟨_,r⟩;refine⟨MxL M g [b],⟨Y4 ag [b],λx y=>?_,MxL.ag ag [b]⟩,⟨_,rfl,s'.a,s'.cap,by rw[aK,l],⟨by omega,by omega⟩,.inr ⟨b,0,c,s,MxL.at (by simp) u,λi hi=>?_⟩⟩,trivial⟩;unfold MxL;rw[za (λn=>by have:=zaf.1 n;omega)];have e:cut c (0+i*sz Ty.str) (sz Ty.str)=[.string xs[i]]:=by
  show cut c (0+i*1) 1=_;refine lc rfl λq A=>?_;have k:q=0:=by omega
  subst k;have m:(xs.map ZD)[i]?=Tc (.string xs[i]):=by rw[zai,YR hi];rfl
  rw[<-f,ZQ,zb (by omega)]at m;rw[ZP,zb1,zco,m];rfl
 rw[e];rfl
set_option maxHeartbeats 1000000 in
theorem EW(hg:GL gl){s:Tr}(hs:Sm s){R:List Bt->Prop}(h:R (hH s)):PC Tp gl 22 [Arg.mk .tree s] [.row .str] R:=by
 intro h0 M vs hM ag ha
 match vs,ha with
 |[u],⟨Q,_⟩=>
  have Q:RdV M .tree s u:=Q;have ak:=Q;obtain⟨sk,si,rfl,rk,ri⟩:=ye Q;apply PX.of;apply QN s.kind s.text sk si;intro h1;have E:Later h0 M h1 (Mx M h0.size #[.int .i64 s.kind,.string s.text,aK sk,aK si]):=Later.frz ag _ _;have S:(Mx M h0.size #[.int .i64 s.kind,.string s.text,aK sk,aK si]) h0.size=Tc #[.int .i64 s.kind,.string s.text,aK sk,aK si]:=Ql _ _ _;have z1:h1.size=h0.size+1:=ZI _;generalize Mx M h0.size #[.int .i64 s.kind,.string s.text,aK sk,aK si]=M1 at E S;clear_value h1;refine⟨s.kind,s.text,sk,si,nU E.ag (cs:=[_,_,aK sk,aK si]) S,?_⟩;refine(tj (gl:=gl) hg hs (R:=λr=>r=dK s) rfl).go (hM.trans E.le) E.ag (zm (zj (Rd.mono E.le rk) (Rd.mono E.le ri)) zz) λw7 h7 M7 r L7 y G=>?_;have G:r=dK s:=G;subst G;have Y:=E.trans L7;unfold hH at h;refine⟨_,eP y,λt=>?_,λt=>?_⟩;have t:¬dK s=Ta:=by intro e;rw[e]at t;cases t
  rw[za t]at h;exact⟨M7,_,Y,Yu.2 ((eK rfl).2 zP),h⟩;have t:dK s=Ta:=by simpa using t
  rw[zb t]at h;refine Dq λai ab=>⟨_,_,_,_,_,_,_,_,_,_,_,_,_,rfl,?_⟩;have V:=Y.trans (Later.same Y.ag ab);have N:sWords.length=13:=rfl;refine⟨λo i g=>∃(k:Nat) (M':Fr),i=k/\k<=13/\Later h0 M g M'/\Fr.le M1 M'/\(∀q,o.a=Tc q->M' q.block=Td)/\o.len=((sWords.take k).filter λw=>decide (0<=idxOfS s.keys (bl w))).length/\Owns g h0.size 9 1 o ((((sWords.take k).filter λw=>decide (0<=idxOfS s.keys (bl w))).map bl).map ZD),λ_ i _=>13-i.toNat,⟨0,M7,rfl,ZN _,V,L7.le,λq n=>(nomatch n),rfl,Owns.nil _ _ _ _⟩,?_⟩;rintro o i g ⟨k,M',rfl,hk,L,le,no,lo,P⟩;refine⟨λt=>?_,λt=>?_⟩;have C:k<13:=by have:=zB t;omega
  have F:k<sWords.length:=by omega
  have ah:o.len<=13:=by rw[lo];exact zaj (Y6 k) (by omega)
  refine⟨bl sWords[k],λg0=>Hc F g0,sk,yJ L.ag (le _ _ S) rfl,?_⟩;refine(vM (gl:=gl) (xs:=s.keys) (x:=bl sWords[k]) (R:=λr=>r=decide (0<=idxOfS s.keys (bl sWords[k]))) rfl).go (vs:=[aK sk,.string (bl sWords[k])]) (hM.trans L.le) L.ag (zm ((eK rfl).2 (Rd.mono L.le rk)) (zm (rdStr _) zz)) λaj O D r z y G=>?_;have G:r=_:=G;subst G;have l:=L.trans z;have A:Owns O h0.size 9 1 o _:=P.keepN z.keep;have B:∀q,o.a=Tc q->D q.block=Td:=λq n=>by rw[z.old _ (P.base_le q n).2];exact no q n
  refine⟨_,eP y,λn=>?_,λn=>?_⟩;have n:0<=idxOfS s.keys (bl sWords[k]):=zB n;intro I;obtain⟨J,am,aa⟩:=jo (g:=I) rfl;clear_value I;have f:=l.trans (Later.same l.ag J);refine Jo elemStr (A.keepN J) (src:=⟨Tc ⟨O.size,0,Td⟩,1,1⟩) (rh aa (Nat.lt_succ_self _)) rfl (by simp[Value.oneCell']) (by simp only;omega) (by simp only;omega) f.keep.size λs' g' e1 e2 e3 e4 e5=>⟨s',rfl,?_⟩;have af:=f.keep.size;have Z:AgM D g':=λb c e=>by obtain⟨T,m,e'⟩:=f.ag b c e;exact⟨T,m,by rw[e3 b (f.ag.lt e) λp hp e6=>by rw[e6,B p hp]at e;cases e];exact e'⟩
  have kk:Keep h0.size h0 g':=⟨by omega,λj hj=>by rw[e3 j (by omega) λp hp e6=>by have:=(A.base_le p hp).1;omega];exact f.keep.get j hj⟩;rw[qd C (by omega)];have H:((sWords.take (k+1)).filter λw=>decide (0<=idxOfS s.keys (bl w)))=((sWords.take k).filter λw=>decide (0<=idxOfS s.keys (bl w)))++[sWords[k]]:=by rw[wb F,zb (zD n)]
  refine⟨⟨k+1,D,rfl,by omega,⟨kk,f.le,f.old,Z⟩,le.trans z.le,λq n=>?_,by rw[H,ZC,e1,lo];rfl,by rw[H,ZZ,ZZ];exact e2⟩,by simp only[YO];omega⟩;rcases e5 q n with⟨q',ae,e⟩|e;rw[e];exact B q' ae;rw[e];exact l.ag.none (by omega);have n:¬0<=idxOfS s.keys (bl sWords[k]):=zC n;rw[qd C (by omega)];have H:((sWords.take (k+1)).filter λw=>decide (0<=idxOfS s.keys (bl w)))=((sWords.take k).filter λw=>decide (0<=idxOfS s.keys (bl w))):=by rw[wb F,za (by simpa using n),ZY]
  exact⟨⟨k+1,D,rfl,by omega,l,le.trans z.le,B,by rw[H];exact lo,by rw[H];exact A⟩,by simp only[YO];omega⟩;have C:k=13:=by have:=zC t;omega
  subst C;have U:sWords.take 13=sWords:=rfl;rw[U]at lo P;obtain⟨M2,L2,rd,_⟩:=KO L.ag P (by rw[ZA];exact lo) (by rw[ZA];exact zaj (List.length_filter_le _ _) (by rw[N];omega));exact⟨M2,_,⟨L.keep,L.le.trans L2.1,λb hb=>by rw[L2.2.1 b hb];exact L.old b hb,L2.2.2⟩,Yu.2 ((eK rfl).2 rd),h⟩
end
end
end Go.X
end
section
namespace Go.X
section
theorem Nj(h:zc)(R:Value->zc->Prop) (H:XC Tp 48 #[.string (⟨#[123,34,109,101,109,98,101,114,115,34,58,123,34,98,34,58,123,34,108,101,97,115,116,34,58,51,125,125,44,34,116,121,112,101,34,58,34,111,98,106,101,99,116,34,44,34,110,101,101,100,34,58,91,34,97,34,93,125]⟩:Bt)] h (λb c=>∃d e f g i j,b=.tuple #[tA d e f g,iV i,iV j]/\let k:=c.push (.cells tC 25);XRunU Tp (YN 25 (.pointer (Tc ⟨c.size,0,Td⟩)) (tA d e f g)) k (λl=>XC Tp 48 #[.string (⟨#[123,34,98,34,58,49,125]⟩:Bt)] l (λm n=>∃o p q r s t,m=.tuple #[tA o p q r,iV s,iV t]/\let u:=n.push (.cells tC 25);XRunU Tp (YN 25 (.pointer (Tc ⟨n.size,0,Td⟩)) (tA o p q r)) u (λv=>∃w x y z,zd v ⟨c.size,0,Td⟩ 0 (tL w x y z)/\∃A B C D,zd v ⟨n.size,0,Td⟩ 0 (tL A B C D)/\XC Tp 14 #[tA w x y z,tA A B C D] v (λE F=>∃G I,E=.tuple #[aK G,iV I]/\XC Tp 48 #[.string (⟨#[123,34,97,110,121,34,58,91,123,34,116,121,112,101,34,58,34,110,117,108,108,34,125,44,123,34,101,110,117,109,34,58,91,49,93,125,93,125]⟩:Bt)] F (λJ L=>∃M N O P Q S,J=.tuple #[tA M N O P,iV Q,iV S]/\let T:=L.push (.cells tC 25);XRunU Tp (YN 25 (.pointer (Tc ⟨L.size,0,Td⟩)) (tA M N O P)) T (λU=>((bif (bif (bif (bif (j != 0)then Ta else(t != 0))then Ta else(I != 0))then Ta else(S != 0))then Ta else((G.len:Int) != 2))=Ta->R (.bool Tb) U)/\((bif (bif (bif (bif (j != 0)then Ta else(t != 0))then Ta else(I != 0))then Ta else(S != 0))then Ta else((G.len:Int) != 2))=Tb->∃V,(G.a=Tc V/\0<=(0:Int)/\(0:Int)<(G.len:Int))/\∃W,ze U (YK (V.add ((0:Int).toNat*2)) 1)=Tc (.string W)/\∃X,((W.toList==(⟨#[110,101,101,100]⟩:Bt).toList)=Ta->(G.a=Tc X/\0<=(0:Int)/\(0:Int)<(G.len:Int)))/\∃Y,((W.toList==(⟨#[110,101,101,100]⟩:Bt).toList)=Ta->ze U (YK (X.add ((0:Int).toNat*2)) 0)=Tc (aK Y))/\let Z:Sl->Sl->Bool->zc->Prop:=λ(aa:Sl) (ab:Sl) ac (ad:zc)=>(∃ae:Value->zc->Prop,(ac=Ta->XC Tp 21 #[aK ab,aK aa] ad (λaf ag=>∃ah,af=.bool ah/\ae (.bool ah) ag))/\(ac=Tb->∃ai,ae (.bool ai) ad)/\(ac=Ta->∀aj ak,ae aj ak->∃al,aj=.bool al)/\∀am:Bool,∀an,ae (.bool am) an->R (.bool (bif ac then am else Tb)) an);let ao:Sl->Int->Bt->Sl->Sl->Bool->zc->Prop:=λ(ap:Sl) aq ar (au:Sl) (av:Sl) aw (ax:zc)=>(∃ay:Value->zc->Prop,(aw=Ta->XC Tp 22 #[tA aq ar au av] ax (λaz aA=>∃aB,az=aK aB/\ay (aK aB) aA))/\(aw=Tb->∃aC,ay (aK aC) ax)/\(aw=Ta->∀aD aE,ay aD aE->∃aF,aD=aK aF)/\∀aG:Sl,∀aH,ay (aK aG) aH->Z ap aG aw aH);let aI:Int->Bt->Sl->Sl->Int->Bt->Sl->Sl->Bool->zc->Prop:=λaJ aL (aM:Sl) (aN:Sl) aO aP (aQ:Sl) (aS:Sl) aT (aU:zc)=>(∃aV:Value->zc->Prop,(aT=Ta->XC Tp 19 #[tA aO aP aQ aS,tA aJ aL aM aN] aU (λaW aX=>∃aY,aW=.bool aY/\aV (.bool aY) aX))/\(aT=Tb->∃aZ,aV (.bool aZ) aU)/\(aT=Ta->∀a0 a1,aV a0 a1->∃a2,a0=.bool a2)/\∀a3:Bool,∀a4,aV (.bool a3) a4->(∃a5 a6 a7 a8,((bif aT then(!a3)else Tb)=Ta->zd a4 ⟨c.size,0,Td⟩ 0 (tL a5 a6 a7 a8))/\(∃a9:Value->zc->Prop,((bif aT then(!a3)else Tb)=Ta->XC Tp 22 #[tA a5 a6 a7 a8] a4 (λba bb=>∃bc,ba=aK bc/\a9 (aK bc) bb))/\((bif aT then(!a3)else Tb)=Tb->∃bd,a9 (aK bd) a4)/\((bif aT then(!a3)else Tb)=Ta->∀be bf,a9 be bf->∃bg,be=aK bg)/\∀bh:Sl,∀bi,a9 (aK bh) bi->∃bj:Value->zc->Prop,((bif aT then(!a3)else Tb)=Ta->let bk:=bi.push (.cells #[.string (⟨#[116,121,112,101]⟩:Bt),.string (⟨#[110,101,101,100]⟩:Bt),.string (⟨#[109,101,109,98,101,114,115]⟩:Bt)] 9);bj (.slice (Tc ⟨bi.size,0,Td⟩) 3 3) bk)/\((bif aT then(!a3)else Tb)=Tb->∃bl,bj (aK bl) bi)/\((bif aT then(!a3)else Tb)=Ta->∀bm bn,bj bm bn->∃bo,bm=aK bo)/\∀bp:Sl,∀bq,bj (aK bp) bq->Z bp bh (bif aT then(!a3)else Tb) bq)/\(∃br:Value->zc->Prop,((bif aT then(!a3)else Tb)=Ta->let bs:=a4.push (.cells #[.string (⟨#[116,121,112,101]⟩:Bt),.string (⟨#[110,101,101,100]⟩:Bt),.string (⟨#[109,101,109,98,101,114,115]⟩:Bt)] 9);br (.slice (Tc ⟨a4.size,0,Td⟩) 3 3) bs)/\((bif aT then(!a3)else Tb)=Tb->∃bt,br (aK bt) a4)/\((bif aT then(!a3)else Tb)=Ta->∀bu bv,br bu bv->∃bw,bu=aK bw)/\∀bx:Sl,∀bz,br (aK bx) bz->ao bx a5 a6 a7 a8 (bif aT then(!a3)else Tb) bz))/\(∃bA:Value->zc->Prop,((bif aT then(!a3)else Tb)=Ta->let bB:=a4.push (.cells #[.string (⟨#[116,121,112,101]⟩:Bt),.string (⟨#[110,101,101,100]⟩:Bt),.string (⟨#[109,101,109,98,101,114,115]⟩:Bt)] 9);bA (.slice (Tc ⟨a4.size,0,Td⟩) 3 3) bB)/\((bif aT then(!a3)else Tb)=Tb->∃bC,bA (aK bC) a4)/\((bif aT then(!a3)else Tb)=Ta->∀bD bE,bA bD bE->∃bF,bD=aK bF)/\∀bG:Sl,∀bH,bA (aK bG) bH->∃bI bJ bL bM,((bif aT then(!a3)else Tb)=Ta->zd bH ⟨c.size,0,Td⟩ 0 (tL bI bJ bL bM))/\ao bG bI bJ bL bM (bif aT then(!a3)else Tb) bH));let bN:Int->Bt->Sl->Sl->Int->Bt->Sl->Sl->Bool->zc->Prop:=λbO bP (bQ:Sl) (bS:Sl) bT bU (bV:Sl) (bW:Sl) bX (bY:zc)=>(∃bZ:Value->zc->Prop,(bX=Ta->XC Tp 19 #[tA bT bU bV bW,tA bO bP bQ bS] bY (λb0 b1=>∃b2,b0=.bool b2/\bZ (.bool b2) b1))/\(bX=Tb->∃b3,bZ (.bool b3) bY)/\(bX=Ta->∀b4 b5,bZ b4 b5->∃b6,b4=.bool b6)/\∀b7:Bool,∀b8,bZ (.bool b7) b8->(∃b9 ca cb cc,((bif bX then b7 else Tb)=Ta->zd b8 ⟨L.size,0,Td⟩ 0 (tL b9 ca cb cc))/\∃cd:Value->zc->Prop,((bif bX then b7 else Tb)=Ta->XC Tp 30 #[iV 2] b8 (λce cf=>∃cg ch ci cj,ce=tA cg ch ci cj/\cd (tA cg ch ci cj) cf))/\((bif bX then b7 else Tb)=Tb->∃ck cl cm cn,cd (tA ck cl cm cn) b8)/\((bif bX then b7 else Tb)=Ta->∀co cp,cd co cp->∃cq cr cs ct,co=tA cq cr cs ct)/\∀cu:Int,∀cv:Bt,∀cw cx:Sl,∀cy,cd (tA cu cv cw cx) cy->aI cu cv cw cx b9 ca cb cc (bif bX then b7 else Tb) cy)/\(∃cz:Value->zc->Prop,((bif bX then b7 else Tb)=Ta->XC Tp 30 #[iV 2] b8 (λcA cB=>∃cC cD cE cF,cA=tA cC cD cE cF/\cz (tA cC cD cE cF) cB))/\((bif bX then b7 else Tb)=Tb->∃cG cH cI cJ,cz (tA cG cH cI cJ) b8)/\((bif bX then b7 else Tb)=Ta->∀cL cM,cz cL cM->∃cN cO cP cQ,cL=tA cN cO cP cQ)/\∀cS:Int,∀cT:Bt,∀cU cV:Sl,∀cW,cz (tA cS cT cU cV) cW->∃cX cY cZ c0,((bif bX then b7 else Tb)=Ta->zd cW ⟨L.size,0,Td⟩ 0 (tL cX cY cZ c0))/\aI cS cT cU cV cX cY cZ c0 (bif bX then b7 else Tb) cW));let c1:Sl->Sl->Bool->zc->Prop:=λ(c2:Sl) (c3:Sl) c4 (c5:zc)=>(∃c6:Value->zc->Prop,(c4=Ta->XC Tp 21 #[aK c3,aK c2] c5 (λc7 c8=>∃c9,c7=.bool c9/\c6 (.bool c9) c8))/\(c4=Tb->∃da,c6 (.bool da) c5)/\(c4=Ta->∀db dc,c6 db dc->∃dd,db=.bool dd)/\∀de:Bool,∀df,c6 (.bool de) df->(∃dg dh di dj,((bif c4 then de else Tb)=Ta->zd df ⟨L.size,0,Td⟩ 0 (tL dg dh di dj))/\∃dk:Value->zc->Prop,((bif c4 then de else Tb)=Ta->XC Tp 30 #[iV 1] df (λdl dm=>∃dn dp dq dr,dl=tA dn dp dq dr/\dk (tA dn dp dq dr) dm))/\((bif c4 then de else Tb)=Tb->∃ds dt du dv,dk (tA ds dt du dv) df)/\((bif c4 then de else Tb)=Ta->∀dw dx,dk dw dx->∃dy dz dA dB,dw=tA dy dz dA dB)/\∀dC:Int,∀dD:Bt,∀dE dF:Sl,∀dG,dk (tA dC dD dE dF) dG->bN dC dD dE dF dg dh di dj (bif c4 then de else Tb) dG)/\(∃dH:Value->zc->Prop,((bif c4 then de else Tb)=Ta->XC Tp 30 #[iV 1] df (λdI dJ=>∃dL dM dN dO,dI=tA dL dM dN dO/\dH (tA dL dM dN dO) dJ))/\((bif c4 then de else Tb)=Tb->∃dP dQ dS dT,dH (tA dP dQ dS dT) df)/\((bif c4 then de else Tb)=Ta->∀dU dV,dH dU dV->∃dW dX dY dZ,dU=tA dW dX dY dZ)/\∀d0:Int,∀d1:Bt,∀d2 d3:Sl,∀d4,dH (tA d0 d1 d2 d3) d4->∃d5 d6 d7 d8,((bif c4 then de else Tb)=Ta->zd d4 ⟨L.size,0,Td⟩ 0 (tL d5 d6 d7 d8))/\bN d0 d1 d2 d3 d5 d6 d7 d8 (bif c4 then de else Tb) d4));∃d9:Value->zc->Prop,((W.toList==(⟨#[110,101,101,100]⟩:Bt).toList)=Ta->let ea:=U.push (.cells #[.string (⟨#[97]⟩:Bt)] 9);d9 (.slice (Tc ⟨U.size,0,Td⟩) 1 1) ea)/\((W.toList==(⟨#[110,101,101,100]⟩:Bt).toList)=Tb->∃eb,d9 (aK eb) U)/\((W.toList==(⟨#[110,101,101,100]⟩:Bt).toList)=Ta->∀ec ed,d9 ec ed->∃ee,ec=aK ee)/\∀ef:Sl,∀eg,d9 (aK ef) eg->((W.toList==(⟨#[110,101,101,100]⟩:Bt).toList)=Ta->(eg)[((YK (X.add ((0:Int).toNat*2)) 0):Addr).block]?=(U)[((YK (X.add ((0:Int).toNat*2)) 0):Addr).block]?)/\∃eh:Value->zc->Prop,((W.toList==(⟨#[110,101,101,100]⟩:Bt).toList)=Ta->XC Tp 21 #[aK Y,aK ef] eg (λei ej=>∃ek,ei=.bool ek/\eh (.bool ek) ej))/\((W.toList==(⟨#[110,101,101,100]⟩:Bt).toList)=Tb->∃el,eh (.bool el) eg)/\((W.toList==(⟨#[110,101,101,100]⟩:Bt).toList)=Ta->∀em en,eh em en->∃eo,em=.bool eo)/\∀ep:Bool,∀eq,eh (.bool ep) eq->∃er,((bif (W.toList==(⟨#[110,101,101,100]⟩:Bt).toList)then ep else Tb)=Ta->(G.a=Tc er/\0<=(1:Int)/\(1:Int)<(G.len:Int)))/\∃es,((bif (W.toList==(⟨#[110,101,101,100]⟩:Bt).toList)then ep else Tb)=Ta->ze eq (YK (er.add ((1:Int).toNat*2)) 1)=Tc (.string es))/\∃et,((bif (bif (W.toList==(⟨#[110,101,101,100]⟩:Bt).toList)then ep else Tb)then(es.toList==(⟨#[108,101,97,115,116]⟩:Bt).toList)else Tb)=Ta->(G.a=Tc et/\0<=(1:Int)/\(1:Int)<(G.len:Int)))/\(∃eu,((bif (bif (W.toList==(⟨#[110,101,101,100]⟩:Bt).toList)then ep else Tb)then(es.toList==(⟨#[108,101,97,115,116]⟩:Bt).toList)else Tb)=Ta->ze eq (YK (et.add ((1:Int).toNat*2)) 0)=Tc (aK eu))/\∃ev:Value->zc->Prop,((bif (bif (W.toList==(⟨#[110,101,101,100]⟩:Bt).toList)then ep else Tb)then(es.toList==(⟨#[108,101,97,115,116]⟩:Bt).toList)else Tb)=Ta->let ew:=eq.push (.cells #[.string (⟨#[98]⟩:Bt)] 9);ev (.slice (Tc ⟨eq.size,0,Td⟩) 1 1) ew)/\((bif (bif (W.toList==(⟨#[110,101,101,100]⟩:Bt).toList)then ep else Tb)then(es.toList==(⟨#[108,101,97,115,116]⟩:Bt).toList)else Tb)=Tb->∃ex,ev (aK ex) eq)/\((bif (bif (W.toList==(⟨#[110,101,101,100]⟩:Bt).toList)then ep else Tb)then(es.toList==(⟨#[108,101,97,115,116]⟩:Bt).toList)else Tb)=Ta->∀ey ez,ev ey ez->∃eA,ey=aK eA)/\∀eB:Sl,∀eC,ev (aK eB) eC->c1 eB eu (bif (bif (W.toList==(⟨#[110,101,101,100]⟩:Bt).toList)then ep else Tb)then(es.toList==(⟨#[108,101,97,115,116]⟩:Bt).toList)else Tb) eC)/\(∃eD:Value->zc->Prop,((bif (bif (W.toList==(⟨#[110,101,101,100]⟩:Bt).toList)then ep else Tb)then(es.toList==(⟨#[108,101,97,115,116]⟩:Bt).toList)else Tb)=Ta->let eE:=eq.push (.cells #[.string (⟨#[98]⟩:Bt)] 9);eD (.slice (Tc ⟨eq.size,0,Td⟩) 1 1) eE)/\((bif (bif (W.toList==(⟨#[110,101,101,100]⟩:Bt).toList)then ep else Tb)then(es.toList==(⟨#[108,101,97,115,116]⟩:Bt).toList)else Tb)=Tb->∃eF,eD (aK eF) eq)/\((bif (bif (W.toList==(⟨#[110,101,101,100]⟩:Bt).toList)then ep else Tb)then(es.toList==(⟨#[108,101,97,115,116]⟩:Bt).toList)else Tb)=Ta->∀eG eH,eD eG eH->∃eI,eG=aK eI)/\∀eJ:Sl,∀eL,eD (aK eJ) eL->∃eM,((bif (bif (W.toList==(⟨#[110,101,101,100]⟩:Bt).toList)then ep else Tb)then(es.toList==(⟨#[108,101,97,115,116]⟩:Bt).toList)else Tb)=Ta->ze eL (YK (et.add ((1:Int).toNat*2)) 0)=Tc (aK eM))/\c1 eJ eM (bif (bif (W.toList==(⟨#[110,101,101,100]⟩:Bt).toList)then ep else Tb)then(es.toList==(⟨#[108,101,97,115,116]⟩:Bt).toList)else Tb) eL)))))))))):
  XC Tp 11 #[] h R:=
 XF ⟨[(7,7000)],[],[]⟩ [.tmp 0] 97 Tryz.func11 H
end
end Go.X
end
section
namespace Go.X
open Go Go.X Go.Proofs Go.Lib Go.RowKit
section
variable {h:zc} {M:Fr} {b:Nat} {s1:Bt}
section
variable {gl : Fr}
theorem sQ{f:FuncId}{args:Array Value}{g:Bool}(i:g=Ta){Kt:Sl->zc->Prop}(E:XC Tp f args h λv h'=>∃r,v=aK r/\Kt r h'):
  ∃J:Value->zc->Prop,(g=Ta->XC Tp f args h λv h'=>∃r:Sl,v=aK r/\J (aK r) h')/\(g=Tb->∃r:Sl,J (aK r) h)/\(g=Ta->∀v h',J v h'->∃r:Sl,v=aK r)/\∀r:Sl,∀h',J (aK r) h'->Kt r h':=by
 refine⟨λv h'=>∃r,v=aK r/\Kt r h',λ_=>XC.mono E λv h' ⟨r,e,H⟩=>⟨r,e,r,rfl,H⟩,λc=>(by rw[i]at c;cases c),λ_ v h' ⟨r,e,_⟩=>⟨r,e⟩,λr h' ⟨b,e,H⟩=>?_⟩;have:r=b:=by unfold aK at e;injection e with e1 e2 e3;cases r;cases b;simp_all
 subst this;exact H
theorem TU{r:List (El Xp)×Int}{w:Value}(h:Yf M [.row Xp,.int .i64] r w):∃s:Sl,w=.tuple #[aK s,.int .i64 r.2]/\Rd M (.row Xp) r.1 [aK s]:=by obtain⟨vs,⟨f,rest,rfl,c,e,rfl,b⟩,rfl⟩:=h;obtain⟨s,rfl,h1⟩:=lI c;rw[yj b];exact⟨s,rfl,h1⟩
theorem Fp{xs:List (El Xp)}{s:Sl}(H:Rd M (.row Xp) xs [aK s]){k:Nat}(l:k<xs.length):∃(a:Addr) (sp:Sl),s.a=Tc a/\Rd M (.row .str) xs[k].1 [aK sp]/\∀g,AgM M g->ze g ((a.add (k*2)).add 0)=Tc (aK sp)/\ze g ((a.add (k*2)).add 1)=Tc (.string xs[k].2)/\(a.add (k*2)).block<g.size:=by obtain⟨b,o,cs,m,h,n⟩:=Go.X.rowAt H l;obtain⟨c1,c2,e,c,f⟩:=n;obtain⟨v,rfl,_⟩:=id c;obtain⟨sp,rfl,c⟩:=lI ((eK rfl).2 c);have f:c2=[.string xs[k].2]:=f;subst f;refine⟨_,sp,m,c,λg ag=>?_⟩;have ld:=ku ag h (vs:=[aK sp,.string xs[k].2]) (o:=o+k*2) (i:=0) e;rw[qo];exact⟨ld.1,ld.2.1,ag.lt h⟩
theorem Sd{s1 s2 c:Bt}:Rd (Mx M b #[.string s1,.string s2,.string c]) (.row .str) [s1,s2,c] [aK ⟨Tc ⟨b,0,Td⟩,3,3⟩]:=by refine⟨_,rfl,_,_,rfl,by simp,.inr ⟨b,0,_,rfl,by unfold Mx;rw[zb rfl],λi hi=>?_⟩⟩;have hi:i<3:=hi;rcases(by omega:i=0\/i=1\/i=2)with rfl|rfl|rfl <;> rfl
theorem UB:Rd (Mx M b #[.string s1]) (.row .str) [s1] [aK ⟨Tc ⟨b,0,Td⟩,1,1⟩]:=by
 refine⟨_,rfl,_,_,rfl,by simp,.inr ⟨b,0,_,rfl,by unfold Mx;rw[zb rfl],λi hi=>?_⟩⟩;have hi:i<1:=hi;have:i=0:=by omega
 subst this;rfl
structure St30 (h:zc) (M:Fr) (b1 b2:Nat) (sk si tk ti:Sl) (g:zc) (Mg:Fr):Prop where
 L:Later h M g Mg
 bs:Blk g b1 #[.int .i64 smS30.kind,.string smS30.text,aK sk,aK si]
 bt:Blk g b2 #[.int .i64 smT30.kind,.string smT30.text,aK tk,aK ti]
 rsk:Rd Mg (.row .str) smS30.keys [aK sk]
 rsi:Rd Mg (.row .tree) smS30.items [aK si]
 rtk:Rd Mg (.row .str) smT30.keys [aK tk]
 rti:Rd Mg (.row .tree) smT30.items [aK ti]
theorem St30.later{h g g':zc}{M Mg b:Fr}{b1 b2:Nat}{sk si tk c:Sl}(H:St30 h M b1 b2 sk si tk c g Mg)(L:Later g Mg g' b):St30 h M b1 b2 sk si tk c g' b:= ⟨H.L.trans L,H.bs.keep (L.keep.get _ H.bs.lt),H.bt.keep (L.keep.get _ H.bt.lt),Rd.mono L.le H.rsk,Rd.mono L.le H.rsi,Rd.mono L.le H.rtk,Rd.mono L.le H.rti⟩
theorem pd{v:Tr}(h:yn v=Ta)(b:ge 1048576 v):Sm v:=by have h:=Cg h;exact⟨by have:=(lA h).1;omega,b⟩
theorem Hy:Sm smS30:=pd (by kernel_rfl) (by
 simp only[smS30,nT,sT,ge,gM,and_true];repeat' apply And.intro
 all_goals first|exact zB (by kernel_rfl)|(intro k b;simp at b)|trivial)
theorem Lm:Sm jQ:=pd (by kernel_rfl) (by
 simp only[jQ,nT,sT,ge,gM,and_true];repeat' apply And.intro
 all_goals first|exact zB (by kernel_rfl)|(intro k b;simp at b)|trivial)
theorem F5:Sm smT30:=pd (by kernel_rfl) (by
 simp only[smT30,nT,sT,ge,gM,and_true];repeat' apply And.intro
 all_goals first|exact zB (by kernel_rfl)|(intro k b;simp at b)|trivial)
theorem TB:Sm (nT [49]):=pd (by kernel_rfl) (by
 simp only[nT,ge,gM,and_true];repeat' apply And.intro
 all_goals first|exact zB (by kernel_rfl)|(intro k b;simp at b)|trivial)
theorem RE:Sm (nT [50]):=pd (by kernel_rfl) (by
 simp only[nT,ge,gM,and_true];repeat' apply And.intro
 all_goals first|exact zB (by kernel_rfl)|(intro k b;simp at b)|trivial)
theorem CU:(.mk 3 (bl (Qr (zo (Lib.itoa 1)).1)) [] []:Tr)=nT [49]:=by kernel_rfl
theorem Ex:(.mk 3 (bl (Qr (zo (Lib.itoa 2)).1)) [] []:Tr)=nT [50]:=by kernel_rfl
theorem R5:Y7 smS30 jQ=([([bl [97]],wv),([bl [98]],js)],0):=by unfold Y7;rw[zb ⟨OV,JR⟩,Kj]
abbrev Ai(g:zc):zc:=za9 g (.cells #[.string (⟨#[116,121,112,101]⟩:Bt),.string (⟨#[110,101,101,100]⟩:Bt),.string (⟨#[109,101,109,98,101,114,115]⟩:Bt)] 9)
abbrev Am(q:Bt)(g:zc):zc:=za9 g (.cells #[.string q] 9)
def kq:List Bt:=[bl Yo,bl wv,bl zq]
set_option maxHeartbeats 4000000 in
theorem Ma(hg:GL gl){R:Bool->Prop}(hR:R Ta):PC Tp gl 11 [] [.bool] R:=by
 intro h M vs U ag ha
 match vs,ha with
 |[],_=>
 apply PX.of;apply Nj;refine(zX (gl:=gl) hg (s:=pD) (R:=λr=>r=J6 pD) rfl).go (vs:=[.string (bl pD)]) U ag (zm (rdStr _) zz) λw2 h2 M2 r L2 c i=>?_;obtain⟨sk,si,rfl,rsk,rsi⟩:=wL c;have e1:r.1=smS30:=by rw[i];exact congrArg Prod.fst C4
 have e2:r.2.2=0:=by rw[i];exact congrArg Prod.snd C4
 rw[e1]at rsk rsi;refine⟨_,_,sk,si,_,_,rfl,?_⟩;rw[e1,e2];intro h9;refine xm L2.ag λbr aT bq bh=>?_;have aB:=L2.trans aT;refine(zX (gl:=gl) hg (s:=np) (R:=λr=>r=J6 np) rfl).go (vs:=[.string (bl np)]) (U.trans aB.le) aB.ag (zm (rdStr _) zz) λbJ bG bg r2 af aF aS=>?_;obtain⟨vk,vi,rfl,rvk,rvi⟩:=wL aF;have e3:r2.1=jQ:=by rw[aS];exact congrArg Prod.fst CF
 have e4:r2.2.2=0:=by rw[aS];exact congrArg Prod.snd CF
 rw[e3]at rvk rvi;refine⟨_,_,vk,vi,_,_,rfl,?_⟩;rw[e3,e4];intro bF;refine xm af.ag λbu aI bA be=>?_;have ah:=(aB.trans af).trans aI;have ay:=bh.keep ((af.trans aI).keep.get h2.size (by omega));have E:Fr.le M2 bg:=aT.le.trans af.le;refine⟨_,_,sk,si,ay.ld (cs:=[_,_,aK sk,aK si]),_,_,vk,vi,be.ld (cs:=[_,_,aK vk,aK vi]),?_⟩;refine(CP (gl:=gl) hg Hy Lm (R:=λr=>r=((Y7 smS30 jQ).1.map fE,(Y7 smS30 jQ).2)) rfl).go (U.trans ah.le) ah.ag (zm (zj (Rd.mono E rsk) (Rd.mono E rsi)) (zm (zj rvk rvi) zz)) λw30 bI bH Q an aL ai=>?_;obtain⟨fl,rfl,aZ⟩:=TU aL;rw[R5]at ai;have ai:Q=([([bl [97]],bl wv),([bl [98]],bl js)],0):=ai;subst ai;refine⟨fl,_,rfl,?_⟩;have a6:=ah.trans an;refine(zX (gl:=gl) hg (s:=nj) (R:=λr=>r=J6 nj) rfl).go (vs:=[.string (bl nj)]) (U.trans a6.le) a6.ag (zm (rdStr _) zz) λbC y J r4 ae aE aP=>?_;obtain⟨tk,p,rfl,rtk,rti⟩:=wL aE;have e5:r4.1=smT30:=by rw[aP];exact congrArg Prod.fst CI
 have e6:r4.2.2=0:=by rw[aP];exact congrArg Prod.snd CI
 rw[e5]at rtk rti;refine⟨_,_,tk,p,_,_,rfl,?_⟩;rw[e5,e6];intro bz;refine xm ae.ag λB ba bD bn=>?_;have ab:=(an.trans ae).trans ba;have bo:=aI.keep.size;have bB:=af.keep.size;have O:St30 h M h2.size y.size sk si tk p B J:=⟨ah.trans ab,ay.keep (ab.keep.get _ (by omega)),bn,Rd.mono (E.trans (an.le.trans ae.le)) rsk,Rd.mono (E.trans (an.le.trans ae.le)) rsi,rtk,rti⟩;have C:Rd J (.row Xp) [([bl [97]],bl wv),([bl [98]],bl js)] [aK fl]:=Rd.mono ae.le aZ;obtain⟨lf,_,_⟩:=rowLen C;have P:fl.len=2:=lf;obtain⟨a0,p0,aV,aH,c0⟩:=Fp C (k:=0) (by simp);obtain⟨a1,p1,aU,ap,c1⟩:=Fp C (k:=1) (by simp);have aH:Rd J (.row .str) [bl [97]] [aK p0]:=aH;have ap:Rd J (.row .str) [bl [98]] [aK p1]:=ap;refine⟨λhc=>?_,λ_=>?_⟩;rw[P]at hc;exact(nomatch hc);have fin:∀(b:Bool) (g:zc) (Mg:Fr),b=Ta->Later h M g Mg->∃M' r,Later h M g M'/\Yf M' [.bool] r (.bool b)/\R r:=λb g Mg hb L=>⟨Mg,b,L,Yu.2 (rdBool _),by rw[hb];exact hR⟩;refine⟨a0,⟨aV,by omega,by rw[P];omega⟩,bl wv,(c0 B O.L.ag).2.1,a0,λ_=>⟨aV,by omega,by rw[P];omega⟩,p0,λ_=>(c0 B O.L.ag).1,?_⟩;intro aO aQ aN a7 a8;have ax:∀(F y1:Sl) (l:Bool) (g:zc) (Mg:Fr),l=Ta->St30 h M h2.size y.size sk si tk p g Mg->Rd Mg (.row .str) kq [aK F]->Rd Mg (.row .str) kq [aK y1]->aO F y1 l g:=λF y1 l g Mg f S r0 Y=>by refine Xx f ?_;refine(oc (gl:=gl) (a:=kq) (b:=kq) (by simp[kq]) (R:=λr=>r=Ta) (λr i=>i.2 rfl)).go (vs:=[aK y1,aK F]) (U.trans S.L.le) S.L.ag (zm ((eK rfl).2 Y) (zm ((eK rfl).2 r0) zz)) λu g' M' r L c i=>⟨r,eP c,?_⟩;exact fin _ g' M' (by rw[f,i];rfl) (S.L.trans L)
 have D:∀(l:Bool) (g:zc) (Mg:Fr) (Kt:Sl->zc->Prop),l=Ta->St30 h M h2.size y.size sk si tk p g Mg->(∀(x:Sl) (g':zc) (M':Fr),Later g Mg g' M'->Rd M' (.row .str) kq [aK x]->Kt x g')->XC Tp 22 #[.agg #[.int .i64 smS30.kind,.string smS30.text,aK sk,aK si]] g λv h'=>∃r,v=aK r/\Kt r h':=λl g Mg Kt f S hK=>by refine(EW (gl:=gl) hg Hy (R:=λr=>r=hH smS30) rfl).go (U.trans S.L.le) S.L.ag (zm (zj S.rsk S.rsi) zz) λu g' M' r L c i=>?_;obtain⟨x,rfl,rx⟩:=lI (Yu.1 c);rw[i,Ky]at rx;exact⟨x,rfl,hK x g' M' L rx⟩
 have Z:∀(g:zc) (Mg:Fr),AgM Mg g->∃M',Later g Mg (za9 g (.cells #[.string (⟨#[116,121,112,101]⟩:Bt),.string (⟨#[110,101,101,100]⟩:Bt),.string (⟨#[109,101,109,98,101,114,115]⟩:Bt)] 9)) M'/\Rd M' (.row .str) kq [aK ⟨Tc ⟨g.size,0,Td⟩,3,3⟩]:=λg Mg ag=>⟨_,Later.frz ag _ _,Sd⟩;have N:∀(q:Bt) (g:zc) (Mg:Fr),AgM Mg g->∃M',Later g Mg (za9 g (.cells #[.string q] 9)) M'/\Rd M' (.row .str) [q] [aK ⟨Tc ⟨g.size,0,Td⟩,1,1⟩]:=λq g Mg ag=>⟨_,Later.frz ag _ _,UB⟩;have aA:∀(F:Sl) (l:Bool) (g:zc) (Mg:Fr),l=Ta->St30 h M h2.size y.size sk si tk p g Mg->Rd Mg (.row .str) kq [aK F]->aQ F smS30.kind smS30.text sk si l g:=λF l g Mg f S r0=>by refine sQ f (D l g Mg _ f S λx g' M' L rx=>?_);exact ax F x l g' M' f (S.later L) (Rd.mono L.le r0) rx
 have ar:∀(o m:Sl) (l:Bool) (g:zc) (Mg:Fr),l=Ta->St30 h M h2.size y.size sk si tk p g Mg->Rd Mg (.row .str) [] [aK o]->Rd Mg (.row .tree) [] [aK m]->aN 3 (bl [50]) o m smT30.kind smT30.text tk p l g:=λo m l g Mg f S aa V=>by
  refine Xx f ?_;refine(ve (gl:=gl) hg F5 RE (R:=λr=>r=gK zr yy smT30 (nT [50])) rfl).go (U.trans S.L.le) S.L.ag (zm (zj S.rtk S.rti) (zm (zj (v:=nT [50]) aa V) zz)) λu H M1 r L1 c i=>⟨r,eP c,?_⟩;have i:r=Tb:=by rw[i,Om]
  subst i;subst f;have t:=S.later L1;have z:(bif Ta then(!Tb)else Tb)=Ta:=rfl;refine⟨⟨_,_,sk,si,λ_=>t.bs.ld (cs:=[_,_,aK sk,aK si]),?_,?_⟩,?_⟩;refine sQ z (D Ta H M1 _ rfl t λx g' M' L rx=>?_);have S2:=t.later L;obtain⟨M3,G,Q⟩:=Z g' M' S2.L.ag;exact m7 (s:=⟨Tc ⟨g'.size,0,Td⟩,3,3⟩) (h1:=Ai g') z (ax _ x _ _ M3 z (S2.later G) Q (Rd.mono G.le rx));obtain⟨M3,G,Q⟩:=Z H M1 t.L.ag;exact m7 (s:=⟨Tc ⟨H.size,0,Td⟩,3,3⟩) (h1:=Ai H) z (aA _ _ _ M3 z (t.later G) Q);obtain⟨M3,G,Q⟩:=Z H M1 t.L.ag;refine m7 (s:=⟨Tc ⟨H.size,0,Td⟩,3,3⟩) (h1:=Ai H) z ?_;have S3:=t.later G;exact⟨_,_,sk,si,λ_=>S3.bs.ld (cs:=[_,_,aK sk,aK si]),aA _ _ _ M3 z S3 Q⟩
 have am:∀(n:Int) (b:Bs) (l:Bool) (g:zc) (Mg:Fr) (Kt:Int->Bt->Sl->Sl->zc->Prop),(.mk 3 (bl (Qr (zo (Lib.itoa n)).1)) [] []:Tr)=nT b->-1000000<=n->n<=1000000->St30 h M h2.size y.size sk si tk p g Mg->(∀(o m:Sl) (g':zc) (M':Fr),Later g Mg g' M'->Rd M' (.row .str) [] [aK o]->Rd M' (.row .tree) [] [aK m]->Kt 3 (bl b) o m g')->XC Tp 30 #[.int .i64 n] g λv h'=>∃k s a b,v=fP k s a b/\Kt k s a b h':=λn b l g Mg Kt en n1 n2 S hK=>by refine(Uh (gl:=gl) hg n1 n2 (R:=λr=>r=nT b) en).go (U.trans S.L.le) S.L.ag (zm (Z2 _ _) zz) λu g' M' r L c i=>?_;have i:r=nT b:=i;subst i;obtain⟨o,m,rfl,aa,V⟩:=ye (Yu.1 c);exact⟨_,_,o,m,rfl,hK o m g' M' L aa V⟩
 have az:∀(o m:Sl) (l:Bool) (g:zc) (Mg:Fr),l=Ta->St30 h M h2.size y.size sk si tk p g Mg->Rd Mg (.row .str) [] [aK o]->Rd Mg (.row .tree) [] [aK m]->a7 3 (bl [49]) o m smT30.kind smT30.text tk p l g:=λo m l g Mg f S aa V=>by
  refine Xx f ?_;refine(ve (gl:=gl) hg F5 TB (R:=λr=>r=gK zr yy smT30 (nT [49])) rfl).go (U.trans S.L.le) S.L.ag (zm (zj S.rtk S.rti) (zm (zj (v:=nT [49]) aa V) zz)) λu H M1 r L1 c i=>⟨r,eP c,?_⟩;have i:r=Ta:=by rw[i,Iy]
  subst i;subst f;have t:=S.later L1;have z:(bif Ta then Ta else Tb)=Ta:=rfl;refine⟨⟨_,_,tk,p,λ_=>t.bt.ld (cs:=[_,_,aK tk,aK p]),?_⟩,?_⟩;refine se z (am 2 [50] Ta H M1 _ Ex (by omega) (by omega) t λo m g' M' L Y r2=>?_);exact ar o m _ g' M' z (t.later L) Y r2;refine se z (am 2 [50] Ta H M1 _ Ex (by omega) (by omega) t λo m g' M' L Y r2=>?_);have S2:=t.later L;exact⟨_,_,tk,p,λ_=>S2.bt.ld (cs:=[_,_,aK tk,aK p]),ar o m _ g' M' z S2 Y r2⟩
 have au:∀(F y1:Sl) (l:Bool) (g:zc) (Mg:Fr),l=Ta->St30 h M h2.size y.size sk si tk p g Mg->Rd Mg (.row .str) [bl [98]] [aK F]->Rd Mg (.row .str) [bl [98]] [aK y1]->a8 F y1 l g:=λF y1 l g Mg f S r0 Y=>by refine Xx f ?_;refine(oc (gl:=gl) (a:=[bl [98]]) (b:=[bl [98]]) (by simp) (R:=λr=>r=Ta) (λr i=>i.2 rfl)).go (vs:=[aK y1,aK F]) (U.trans S.L.le) S.L.ag (zm ((eK rfl).2 Y) (zm ((eK rfl).2 r0) zz)) λu H M1 r L1 c i=>⟨r,eP c,?_⟩;have i:r=Ta:=i;subst i;subst f;have t:=S.later L1;have z:(bif Ta then Ta else Tb)=Ta:=rfl;refine⟨⟨_,_,tk,p,λ_=>t.bt.ld (cs:=[_,_,aK tk,aK p]),?_⟩,?_⟩;refine se z (am 1 [49] Ta H M1 _ CU (by omega) (by omega) t λo m g' M' L Y r2=>?_);exact az o m _ g' M' z (t.later L) Y r2;refine se z (am 1 [49] Ta H M1 _ CU (by omega) (by omega) t λo m g' M' L Y r2=>?_);have S2:=t.later L;exact⟨_,_,tk,p,λ_=>S2.bt.ld (cs:=[_,_,aK tk,aK p]),az o m _ g' M' z S2 Y r2⟩
 have aJ:((bl wv).toList==(⟨#[110,101,101,100]⟩:Bt).toList)=Ta:=by rw[jA,jg];rfl
 obtain⟨bE,ak,bj⟩:=N ⟨#[97]⟩ B J O.L.ag;refine m7 (s:=⟨Tc ⟨B.size,0,Td⟩,1,1⟩) (h1:=Am ⟨#[97]⟩ B) aJ ?_;have aG:=O.later ak;refine⟨λ_=>ak.keep.get _ (c0 B O.L.ag).2.2,?_⟩;refine Xx aJ ?_;refine(oc (gl:=gl) (a:=[bl [97]]) (b:=[bl [97]]) (by simp) (R:=λr=>r=Ta) (λr i=>i.2 rfl)).go (vs:=[aK p0,aK ⟨Tc ⟨B.size,0,Td⟩,1,1⟩]) (U.trans aG.L.le) aG.L.ag (zm ((eK rfl).2 (Rd.mono ak.le aH)) (zm ((eK rfl).2 bj) zz)) λu w aC aY aM c i=>⟨aY,eP c,?_⟩;have i:aY=Ta:=i;subst i;have I:=aG.later aM;have A:Fr.le J aC:=ak.le.trans aM.le;have bm:(bif ((bl wv).toList==(⟨#[110,101,101,100]⟩:Bt).toList)then Ta else Tb)=Ta:=by rw[aJ];rfl
 have aj:(bif (bif ((bl wv).toList==(⟨#[110,101,101,100]⟩:Bt).toList)then Ta else Tb)then((bl js).toList==(⟨#[108,101,97,115,116]⟩:Bt).toList)else Tb)=Ta:=by rw[bm,jA,jg];rfl
 refine⟨a1,λ_=>⟨aU,by omega,by rw[P];omega⟩,bl js,λ_=>(c1 w (λb cs e=>I.L.ag b cs (A b cs e))).2.1,a1,λ_=>⟨aU,by omega,by rw[P];omega⟩,?_⟩;refine⟨⟨p1,λ_=>(c1 w (λb cs e=>I.L.ag b cs (A b cs e))).1,?_⟩,?_⟩;obtain⟨M3,G,Q⟩:=N ⟨#[98]⟩ w aC I.L.ag;exact m7 (s:=⟨Tc ⟨w.size,0,Td⟩,1,1⟩) (h1:=Am ⟨#[98]⟩ w) aj (au _ p1 _ _ M3 aj (I.later G) Q (Rd.mono (A.trans G.le) ap));obtain⟨M3,G,Q⟩:=N ⟨#[98]⟩ w aC I.L.ag;have S3:=I.later G;refine m7 (s:=⟨Tc ⟨w.size,0,Td⟩,1,1⟩) (h1:=Am ⟨#[98]⟩ w) aj ⟨p1,λ_=>(c1 _ (λb cs e=>S3.L.ag b cs (G.le b cs (A b cs e)))).1,au _ p1 _ _ M3 aj S3 Q (Rd.mono (A.trans G.le) ap)⟩
end
end
section
section
variable {gl : Fr}
theorem Vw{s v:Tr}{R:Bool->Prop}(h:∀b,(b=Ta->gw s<=120/\Sm s/\gw v<=60/\Sm v)->R b):PC Tp gl 12 [Arg.mk .tree s,Arg.mk .tree v] [.bool] R:=by
 apply SO;simp only[qu];refine A6 (by omega) λb1 h1=>⟨λr=>r=Ta->gw v<=60/\Sm v,λ_=>A6 (by omega) λb2 e c=>⟨by have:=(e c).1;omega,(e c).2⟩,λr f=>h _ λc=>?_⟩;cases b1 with
 |false=>cases c
 |true=>have c:r=Ta:=c;have a:=h1 rfl;have b:=f rfl c;exact⟨by have:=a.1;omega,a.2,b.1,b.2⟩
end
end
section
variable {Q:Bool -> Prop}
theorem my{M:Fr}{g:zc}(ag:AgM M g){b:Nat}{a:Tr}{sk si:Sl}(e:M b=Tc (jm a.kind a.text sk si).toArray):zd g ⟨b,0,Td⟩ 0 [.int .i64 a.kind,.string a.text,aK sk,aK si]:=ku (vs:=jm a.kind a.text sk si) ag e rfl
section
variable {gl : Fr} {f : FuncId} {args : List Arg} {g : zc} {Mg : Fr} {vs : List Value}
theorem BP{T:Tr}(P:PC Tp gl f args [.tree] (λr=>r=T))(i:Fr.le gl Mg)(ag:AgM Mg g)(l:Y1 Mg args vs){K:Int->Bt->Sl->Sl->zc->Prop}
  (m:∀a b g' M',Later g Mg g' M'->RdV M' .tree T (fP T.kind T.text a b)->K T.kind T.text a b g'):XC Tp f vs.toArray g λv h'=>∃k:Int,∃s:Bt,∃a:Sl,∃b:Sl,v=fP k s a b/\K k s a b h':=by
 refine P.go i ag l λw g' M' r L c e=>?_;have e:r=T:=e;subst e;have h:=Yu.1 c;obtain⟨a,b,rfl,_⟩:=ye h;exact⟨_,_,a,b,rfl,m a b g' M' L h⟩
theorem ia(P:PC Tp gl f args [.bool] Q)(h:Fr.le gl Mg)(ag:AgM Mg g)(c:Y1 Mg args vs){K:Bool->zc->Prop}
  (i:∀r g' M',Later g Mg g' M'->Q r->K r g'):XC Tp f vs.toArray g λv h'=>∃r:Bool,v=.bool r/\K r h':=
 P.go h ag c λw g' M' r L b e=>⟨r,eP b,i r g' M' L e⟩
theorem Vo{g0:Bool}{C:zc->Prop}{av:Array Value}(h:C g)(E:g0=Ta->XC Tp f av g λv h'=>∃r:Bool,v=.bool r/\(C h'/\Q r)){Kt:Bool->zc->Prop}(k:∀r h',C h'->(g0=Ta->Q r)->Kt r h'):
  ∃J:Value->zc->Prop,(g0=Ta->XC Tp f av g λv h'=>∃r:Bool,v=.bool r/\J (.bool r) h')/\(g0=Tb->∃r:Bool,J (.bool r) g)/\(g0=Ta->∀v h',J v h'->∃r:Bool,v=.bool r)/\∀r:Bool,∀h',J (.bool r) h'->Kt r h':=by
 refine⟨λv h'=>∃r,v=.bool r/\C h'/\(g0=Ta->Q r),λe=>XC.mono (E e) λv h' ⟨r,b,c,q⟩=>⟨r,b,r,rfl,c,λ_=>q⟩,λe=>⟨Tb,Tb,rfl,h,λe'=>by rw[e]at e';cases e'⟩,λ_ v h' ⟨r,e,_⟩=>⟨r,e⟩,λr h' ⟨i,e,c,q⟩=>?_⟩;cases e;exact k r h' c q
end
section
variable {gl : Fr}
end
end
end Go.X
end
section
namespace Go.X
section
theorem TE(b:Int)(c:Bt)(d:Sl)(e:Sl)(f:Int)(g:Bt)(i:Sl)(j:Sl)(h:zc)(R:Value->zc->Prop) (H:let k:=h.push (.cells #[iV b,.string c,aK d,aK e] 25);let l:=k.push (.cells #[iV f,.string g,aK i,aK j] 25);∃m n o p,zd l ⟨h.size,0,Td⟩ 0 (tL m n o p)/\XC Tp 17 #[tA m n o p] l (λq r=>∃s,q=.bool s/\∃t u v w,((!(!s))=Ta->zd r ⟨k.size,0,Td⟩ 0 (tL t u v w))/\∃x:Value->zc->Prop,((!(!s))=Ta->XC Tp 25 #[tA t u v w] r (λy z=>∃A,y=.bool A/\x (.bool A) z))/\((!(!s))=Tb->∃B,x (.bool B) r)/\((!(!s))=Ta->∀C D,x C D->∃E,C=.bool E)/\∀F:Bool,∀G,x (.bool F) G->((bif (!s)then Ta else(!F))=Ta->R (.tuple #[.slice Td 0 0,iV 1]) G)/\((bif (!s)then Ta else(!F))=Tb->∃I J L M,zd G ⟨h.size,0,Td⟩ 0 (tL I J L M)/\∃N O P Q,zd G ⟨k.size,0,Td⟩ 0 (tL N O P Q)/\XC Tp 49 #[tA I J L M,tA N O P Q,.slice Td 0 0] G (λS T=>∃U,S=aK U/\R (.tuple #[aK U,iV 0]) T)))):
  XC Tp 14 #[.agg #[.int .i64 b,.string c,.slice d.a d.len d.cap,.slice e.a e.len e.cap],.agg #[.int .i64 f,.string g,.slice i.a i.len i.cap,.slice j.a j.len j.cap]] h R:=
 XF ⟨[],[],[]⟩ [.tmp 4,.tmp 5] 17 Tryz.func14 H
end
end Go.X
end
section
namespace Go.X
open Go Go.X Go.Proofs Go.Lib Go.RowKit
section
variable {M M0:Fr} {h g0 g:zc} {so:Sl} {n:Nat}
theorem Kl:qj Tp 9=Ta:=by kernel_rfl
theorem PS(b k:Nat):(⟨b,0,Td⟩:Addr).add ((((k:Nat):Int).toNat)*1)=⟨b,k,Td⟩:=by rw[qo,YO,zb1,ZP]
theorem Jv{r:List (List Bt×Bt)×Int}{w:Value}(h:Yf M [.row Xp,.int .i64] r w):∃s:Sl,w=.tuple #[aK s,.int .i64 r.2]/\Rd M (.row Xp) r.1 [aK s]:=by obtain⟨us,⟨i,e,rfl,h1,f,rfl,b⟩,rfl⟩:=h;obtain⟨s,rfl,c⟩:=lI h1;rw[yj b];exact⟨s,rfl,c⟩
set_option maxHeartbeats 1000000 in
theorem UX{gl:Fr}(F:GL gl){s v:Tr}(ss:Sm s)(sv:Sm v){us H:Value}(O:Fr.le gl M)(ag:AgM M h)(x:RdV M .tree s us)(z:RdV M .tree v H){K:Value->zc->Prop}
  (B:∀(g:zc) (M':Fr) (na:FA) (so:Sl) (lo:Nat),Later h M g M'->h.size<=lo->FS lo g M' na so->na.map (·.1)=(Y7 s v).1->K (.tuple #[aK so,.int .i64 (Y7 s v).2]) g):XC Tp 14 #[us,H] h K:=by
 have u:=x;have w:=z;obtain⟨sk,si,rfl,-,-⟩:=ye x;obtain⟨vk,vi,rfl,-,-⟩:=ye z;apply TE s.kind s.text sk si v.kind v.text vk vi;intro h1 i;obtain⟨M2,c,ms,P⟩:∃M2,Later h M i M2/\M2 h.size=Tc (jm s.kind s.text sk si).toArray/\M2 h1.size=Tc (jm v.kind v.text vk vi).toArray:=by have G:Later h M h1 (Mx M h.size (jm s.kind s.text sk si).toArray):=Later.frz ag _ 25;have J:Later h1 _ i (Mx _ h1.size (jm v.kind v.text vk vi).toArray):=Later.frz G.ag _ 25;exact⟨_,G.trans J,J.le _ _ (Ql ..),Ql ..⟩
 clear_value i h1;have m:∀{g Mg},Later i M2 g Mg->zd g ⟨h.size,0,Td⟩ 0 [.int .i64 s.kind,.string s.text,aK sk,aK si]:=λL=>my L.ag (L.le _ _ ms);have n:∀{g Mg},Later i M2 g Mg->zd g ⟨h1.size,0,Td⟩ 0 [.int .i64 v.kind,.string v.text,aK vk,aK vi]:=λL=>my L.ag (L.le _ _ P);have A:∀{g Mg},Later i M2 g Mg->RdV Mg .tree s (fP s.kind s.text sk si):=λL=>u.mono (c.le.trans L.le);have q:∀{g Mg},Later i M2 g Mg->RdV Mg .tree v (fP v.kind v.text vk vi):=λL=>w.mono (c.le.trans L.le);have o:∀{g Mg},Later i M2 g Mg->Fr.le gl Mg:=λL=>(O.trans c.le).trans L.le;have k:=Later.refl c.ag;refine⟨_,_,sk,si,m k,?_⟩;refine ia (vs:=[_]) (tj F ss (R:=λr=>r=dK s) rfl) (o k) k.ag (zm (A k) zz) λr U V p y=>?_;have y:r=dK s:=y;subst y;refine⟨_,_,vk,vi,λ_=>n p,?_⟩;refine Vo (C:=λg=>∃Mg,Later i M2 g Mg) (Q:=λb=>b=yn v) ⟨_,p⟩ (λ_=>?_) ?_;exact ia (vs:=[_]) (wx F sv (R:=λr=>r=yn v) rfl) (o p) p.ag (zm (q p) zz) λr g M L y=>⟨⟨_,p.trans L⟩,y⟩;rintro r2 g4 ⟨N,f⟩ t;by_cases l:dK s=Ta/\yn v=Ta;have c1:Y7 s v=(qi zr yy (bR s) s v [],0):=by unfold Y7;rw[zb l]
 have E:r2=yn v:=t (by rw[l.1];rfl);rw[c1]at B;rw[l.1,E,l.2];refine⟨λD=>(nomatch D),λ_=>⟨_,_,sk,si,m f,_,_,vk,vi,n f,?_⟩⟩;have os:=Q1 ss (t6 l.1);have I:=Q1 sv l.2;refine x5 F (bR s) s v (YM _) os I (tX l.1 (YM _)) [] (by have:=I.dp;simp;omega) g4 N (o f) f.ag _ _ (A f) (q f) ⟨Td,0,0⟩ zP _ λg M' nb sl L S e=>?_;exact⟨sl,rfl,B g M' nb sl g4.size (c.trans (f.trans L)) (c.trans f).keep.size S e⟩;have c1:Y7 s v=([],1):=by unfold Y7;rw[za l]
 rw[c1]at B;have e:(bif (!(dK s))then Ta else(!r2))=Ta:=by
  cases hs:dK s with
  |false=>rfl
  |true=>
   have E:r2=yn v:=t (by rw[hs];rfl);rw[E];cases hv:yn v with
   |false=>rfl
   |true=>exact absurd ⟨hs,hv⟩ l
 exact⟨λ_=>B g4 N [] ⟨Td,0,0⟩ g4.size (c.trans f) (c.trans f).keep.size FS.nil rfl,λD=>by rw[e]at D;cases D⟩
theorem FS.cell{lo:Nat}{na:FA}(H:FS lo h M na so){k:Nat}(o:k<na.length):∃e b,so.a=Tc ⟨e,0,Td⟩/\M e=Td/\Blk h e b/\b[k*2]?=Tc (aK na[k].2):=by have r:=H.len;rcases H.own.2 with⟨f,w⟩|⟨g,cap,b,f,l,n,p,s,m,c⟩;omega;simp only[ZU]at f;obtain⟨i,u,t⟩:=f;have q:Blk h g b:=⟨_,n⟩;refine⟨g,b,i,H.fr _ i,q,?_⟩;have:=Aa na k o 0 (by omega);rw[<-c,ZQ,zb (by omega)]at this;rw[zco]at this;rw[<-zav,this];rfl
structure Sp30 (lo:Nat) (g0:zc) (M0:Fr) (g:zc):Prop where
 sz:g0.size<=g.size
 lo:∀c,c<lo->g[c]?=g0[c]?
 un:∀c,c<g0.size->M0 c=Td->g[c]?=g0[c]?
 cs:∀c cs,Blk g0 c cs->∃cs',Blk g c cs'/\cs'.size=cs.size
theorem Sp30.refl(lo:Nat)(g0:zc)(M0:Fr):Sp30 lo g0 M0 g0:=⟨YM _,λ_ _=>rfl,λ_ _ _=>rfl,λ_ cs B=>⟨cs,B,rfl⟩⟩
theorem FS.path{lo:Nat}{na:FA}(H:FS lo g0 M0 na so)(ag:AgM M0 g0)(S:Sp30 lo g0 M0 g){x:dR×Sl}(w:x∈na)(k:n<x.1.1.length):∃b cs,x.2.a=Tc ⟨b,0,Td⟩/\lo<=b/\M0 b≠Td/\Blk g b cs/\n<cs.size:=by
 obtain⟨h1,u⟩:=H.nd x w;obtain⟨b,q,D,s,c,r⟩:=u (λe=>by rw[e]at k;cases k);obtain⟨h,o,cs,f,y,l⟩:=Go.X.rowAt h1 k;have B:h=b/\o=0:=by rw[q]at f;injection f with f;injection f with f f4 _;exact⟨f.symm,f4.symm⟩
 obtain⟨rfl,rfl⟩:=B;obtain⟨T,m,i⟩:=ag h cs y;obtain⟨A,p⟩:=r;have C:c=cs:=by rw[p]at i;injection i with i;injection i
 subst C;obtain⟨cs',t,z⟩:=S.cs h c ⟨A,p⟩;refine⟨h,cs',q,D,s,t,?_⟩;rw[z];have l:cut c (0+n*sz .str) (sz .str)=[.string x.1.1[n]]:=l;have:=congrArg zam l;unfold X.cut at this;simp[sz]at this;omega
theorem Sp30.put{lo:Nat}{g0 g g':zc}(S:Sp30 lo g0 M0 g){b n:Nat}{cs:Array Value}{u:Value}(x:lo<=b)(s:M0 b≠Td)(B:Blk g b cs)(r:Blk g' b (cs.setIfInBounds n u))(z:g'.size=g.size)(f:∀c,c≠b->g'[c]?=g[c]?):Sp30 lo g0 M0 g':=by refine⟨by have:=S.sz;omega,λc m=>(f c (by omega)).trans (S.lo c m),λc m e=>(f c λe'=>s (e' ▸ e)).trans (S.un c m e),λc k q=>?_⟩;obtain⟨l,o,p⟩:=S.cs c k q;by_cases i:c=b;subst i;obtain⟨w,t⟩:=B;obtain⟨y,h⟩:=o;rw[t]at h;injection h with h;injection h with h _ _;exact⟨_,r,by rw[zah,h];exact p⟩;exact⟨l,o.keep (f c i),p⟩
end
end Go.X
end
section
namespace Go.X
section
theorem Yq(b:Int)(c:Bt)(d:Sl)(e:Sl)(f:Int)(g:Bt)(i:Sl)(j:Sl)(h:zc)(R:Value->zc->Prop) (H:let k:=h.push (.cells #[iV b,.string c,aK d,aK e] 25);let l:=k.push (.cells #[iV f,.string g,aK i,aK j] 25);XC Tp 11 #[] l (λm n=>∃o,m=.bool o/\∃p q r s,zd n ⟨h.size,0,Td⟩ 0 (tL p q r s)/\∃t u v w,zd n ⟨k.size,0,Td⟩ 0 (tL t u v w)/\XC Tp 12 #[tA p q r s,tA t u v w] n (λx y=>∃z,x=.bool z/\((!z)=Ta->R (.bool o) y)/\((!z)=Tb->∃A B C D,zd y ⟨h.size,0,Td⟩ 0 (tL A B C D)/\XC Tp 13 #[tA A B C D] y (λE F=>∃G I J L,E=tA G I J L/\let M:=F.push (.cells tC 25);XRunU Tp (YN 25 (.pointer (Tc ⟨F.size,0,Td⟩)) (tA G I J L)) M (λN=>∃O P Q S,zd N ⟨k.size,0,Td⟩ 0 (tL O P Q S)/\XC Tp 13 #[tA O P Q S] N (λT U=>∃V W X Y,T=tA V W X Y/\let Z:=U.push (.cells tC 25);XRunU Tp (YN 25 (.pointer (Tc ⟨U.size,0,Td⟩)) (tA V W X Y)) Z (λaa=>∃ab ac ad ae,zd aa ⟨h.size,0,Td⟩ 0 (tL ab ac ad ae)/\∃af ag ah ai,zd aa ⟨k.size,0,Td⟩ 0 (tL af ag ah ai)/\XC Tp 14 #[tA ab ac ad ae,tA af ag ah ai] aa (λaj ak=>∃al am,aj=.tuple #[aK al,iV am]/\∃an ao ap aq,zd ak ⟨h.size,0,Td⟩ 0 (tL an ao ap aq)/\∃ar au av aw,zd ak ⟨k.size,0,Td⟩ 0 (tL ar au av aw)/\XC Tp 15 #[tA an ao ap aq,tA ar au av aw] ak (λax ay=>∃az aA,ax=.tuple #[aK az,iV aA]/\XC Tp 16 #[aK al,aK az] ay (λaB aC=>∃aD,aB=.bool aD/\∃(aE:Int->zc->Prop) (aF:Int->zc->Nat),aE 0 aC/\∀aG:Int,∀aH:zc,aE aG aH->((decide (aG<al.len)=Ta->∃(aI:Int->zc->Prop) (aJ:Int->zc->Nat),aI 0 aH/\∀aL:Int,∀aM:zc,aI aL aM->(∃aN,(al.a=Tc aN/\0<=aG/\aG<al.len)/\∃aO,ze aM (YK (aN.add (aG.toNat*2)) 0)=Tc (aK aO)/\(decide (aL<aO.len)=Ta->∃aP,(al.a=Tc aP/\0<=aG/\aG<al.len)/\∃aQ,ze aM (YK (aP.add (aG.toNat*2)) 0)=Tc (aK aQ)/\∃aS,(aQ.a=Tc aS/\0<=aL/\aL<aQ.len)/\XRunU Tp (YN 9 (.pointer (Tc (aS.add (aL.toNat*1)))) (.string (⟨#[115,112,111,105,108,116]⟩:Bt))) aM (λaT=>(aI (YJ .i64 (aL+1)) aT/\aJ (YJ .i64 (aL+1)) aT<aJ aL aM)))/\(decide (aL<aO.len)=Tb->(aE (YJ .i64 (aG+1)) aM/\aF (YJ .i64 (aG+1)) aM<aF aG aH))))/\(decide (aG<al.len)=Tb->∀aU:Bool->zc->Prop,(∀aV:Bool,∀aW:zc,(∀aX:Bool->zc->Prop,(∀aY:Bool,∀aZ:zc,(∀a0:Bool->zc->Prop,(∀a1:Bool,∀a2:zc,(∀a3:Bool->zc->Prop,(∀a4:Bool,∀a5:zc,(∀a6:Bool->zc->Prop,(∀a7:Bool,∀a8:zc,(∃a9 ba bb bc,(a7=Ta->zd a8 ⟨k.size,0,Td⟩ 0 (tL a9 ba bb bc))/\∃bd be bf bg,(a7=Ta->zd a8 ⟨U.size,0,Td⟩ 0 (tL bd be bf bg))/\∃bh:Value->zc->Prop,(a7=Ta->XC Tp 24 #[tA a9 ba bb bc,tA bd be bf bg] a8 (λbi bj=>∃bk,bi=.bool bk/\bh (.bool bk) bj))/\(a7=Tb->∃bl,bh (.bool bl) a8)/\(a7=Ta->∀bm bn,bh bm bn->∃bo,bm=.bool bo)/\∀bp:Bool,∀bq,bh (.bool bp) bq->R (.bool (bif a7 then bp else Tb)) bq)->a6 a7 a8)->∃br bs bt bu,(a4=Ta->zd a5 ⟨h.size,0,Td⟩ 0 (tL br bs bt bu))/\∃bv bw bx bz,(a4=Ta->zd a5 ⟨F.size,0,Td⟩ 0 (tL bv bw bx bz))/\∃bA:Value->zc->Prop,(a4=Ta->XC Tp 24 #[tA br bs bt bu,tA bv bw bx bz] a5 (λbB bC=>∃bD,bB=.bool bD/\bA (.bool bD) bC))/\(a4=Tb->∃bE,bA (.bool bE) a5)/\(a4=Ta->∀bF bG,bA bF bG->∃bH,bF=.bool bH)/\∀bI:Bool,∀bJ,bA (.bool bI) bJ->a6 (bif a4 then bI else Tb) bJ)->a3 a4 a5)->∃bL bM bN bO,(a1=Ta->zd a2 ⟨h.size,0,Td⟩ 0 (tL bL bM bN bO))/\∃bP bQ bS bT,(a1=Ta->zd a2 ⟨h.size,0,Td⟩ 0 (tL bP bQ bS bT))/\∃bU:Value->zc->Prop,(a1=Ta->XC Tp 22 #[tA bL bM bN bO] a2 (λbV bW=>∃bX,bV=aK bX/\bU (aK bX) bW))/\(a1=Tb->∃bY,bU (aK bY) a2)/\(a1=Ta->∀bZ b0,bU bZ b0->∃b1,bZ=aK b1)/\∀b2:Sl,∀b3,bU (aK b2) b3->(a1=Ta->(b3)[(⟨h.size,0,Td⟩:Addr).block]?=(a2)[(⟨h.size,0,Td⟩:Addr).block]?)/\∃b4:Value->zc->Prop,(a1=Ta->XC Tp 23 #[tA bP bQ bS bT] b3 (λb5 b6=>∃b7,b5=aK b7/\b4 (aK b7) b6))/\(a1=Tb->∃b8,b4 (aK b8) b3)/\(a1=Ta->∀b9 ca,b4 b9 ca->∃cb,b9=aK cb)/\∀cc:Sl,∀cd,b4 (aK cc) cd->∃ce:Value->zc->Prop,(a1=Ta->XC Tp 21 #[aK b2,aK cc] cd (λcf cg=>∃ch,cf=.bool ch/\ce (.bool ch) cg))/\(a1=Tb->∃ci,ce (.bool ci) cd)/\(a1=Ta->∀cj ck,ce cj ck->∃cl,cj=.bool cl)/\∀cm:Bool,∀cn,ce (.bool cm) cn->a3 (bif a1 then cm else Tb) cn)->a0 a1 a2)->∃co cp cq cr,(aY=Ta->zd aZ ⟨h.size,0,Td⟩ 0 (tL co cp cq cr))/\∃cs ct cu cv,(aY=Ta->zd aZ ⟨k.size,0,Td⟩ 0 (tL cs ct cu cv))/\∃cw cx cy cz,(aY=Ta->zd aZ ⟨h.size,0,Td⟩ 0 (tL cw cx cy cz))/\∃cA cB cC cD,(aY=Ta->zd aZ ⟨k.size,0,Td⟩ 0 (tL cA cB cC cD))/\∃cE:Value->zc->Prop,(aY=Ta->XC Tp 19 #[tA co cp cq cr,tA cs ct cu cv] aZ (λcF cG=>∃cH,cF=.bool cH/\cE (.bool cH) cG))/\(aY=Tb->∃cI,cE (.bool cI) aZ)/\(aY=Ta->∀cJ cL,cE cJ cL->∃cM,cJ=.bool cM)/\∀cN:Bool,∀cO,cE (.bool cN) cO->(aY=Ta->(cO)[(⟨k.size,0,Td⟩:Addr).block]?=(aZ)[(⟨k.size,0,Td⟩:Addr).block]?)/\(aY=Ta->(cO)[(⟨h.size,0,Td⟩:Addr).block]?=(aZ)[(⟨h.size,0,Td⟩:Addr).block]?)/\∃cP:Value->zc->Prop,(aY=Ta->XC Tp 20 #[tA cw cx cy cz,tA cA cB cC cD] cO (λcQ cS=>∃cT,cQ=.bool cT/\cP (.bool cT) cS))/\(aY=Tb->∃cU,cP (.bool cU) cO)/\(aY=Ta->∀cV cW,cP cV cW->∃cX,cV=.bool cX)/\∀cY:Bool,∀cZ,cP (.bool cY) cZ->a0 (bif aY then(cN==cY)else Tb) cZ)->aX aY aZ)->∃c0 c1 c2 c3,(aV=Ta->zd aW ⟨h.size,0,Td⟩ 0 (tL c0 c1 c2 c3))/\∃c4 c5 c6 c7,(aV=Ta->zd aW ⟨h.size,0,Td⟩ 0 (tL c4 c5 c6 c7))/\∃c8:Value->zc->Prop,(aV=Ta->XC Tp 17 #[tA c0 c1 c2 c3] aW (λc9 da=>∃db,c9=.bool db/\c8 (.bool db) da))/\(aV=Tb->∃dc,c8 (.bool dc) aW)/\(aV=Ta->∀dd de,c8 dd de->∃df,dd=.bool df)/\∀dg:Bool,∀dh,c8 (.bool dg) dh->(aV=Ta->(dh)[(⟨h.size,0,Td⟩:Addr).block]?=(aW)[(⟨h.size,0,Td⟩:Addr).block]?)/\∃di:Value->zc->Prop,(aV=Ta->XC Tp 18 #[tA c4 c5 c6 c7] dh (λdj dk=>∃dl,dj=.bool dl/\di (.bool dl) dk))/\(aV=Tb->∃dm,di (.bool dm) dh)/\(aV=Ta->∀dn dp,di dn dp->∃dq,dn=.bool dq)/\∀dr:Bool,∀ds,di (.bool dr) ds->aX (bif aV then(dg==dr)else Tb) ds)->aU aV aW)->aU (bif (bif o then aD else Tb)then(am==aA)else Tb) aH))))))))))))):
  XC Tp 3 #[.agg #[.int .i64 b,.string c,.slice d.a d.len d.cap,.slice e.a e.len e.cap],.agg #[.int .i64 f,.string g,.slice i.a i.len i.cap,.slice j.a j.len j.cap]] h R:=
 XF ⟨[],[(11,[(14,.one (.int .i64))]),(14,[(15,.one (.int .i64))])],[(117010,[(74,.one (.bool))]),(117016,[(80,.one (.bool))]),(117025,[(89,.one (.bool))]),(117032,[(96,.one (.bool))]),(117037,[(101,.one (.bool))])]⟩ [.tmp 4] 107 Tryz.func3 H
end
end Go.X
end
section
namespace Go.X
open Go Go.Lib
section
theorem BS:∀{l:Bs},l.all qy=Ta->eW l=Ta
 |[],_=>qT
 |c::l,h=>by rw[zbo,ZE]at h;have:=P5 h.1;rw[PP (by omega)];exact BS h.2
theorem RF(i:Nat):eW (lb (zY i))=Ta:=by rw[Sb];exact BS (Bo i i (YM _)).1
end
section
variable {same : Tr -> Tr -> Bool} {cmp : Tr -> Tr -> Int}
def iS(x:Bt):Prop:=eW (lb x)=Ta/\(lb x).length<=1048576
theorem RA{i:Nat}(h:i<=1000000):iS (bl (Lib.itoa i)):=by refine⟨RF i,?_⟩;rw[jg];have:=itoa_len (i:Int);omega
theorem CX{v:Tr}(b:zn v=Ta)(h:Sm v){k:Bt}(c:k∈v.keys):iS k:=by refine⟨?_,h.key c⟩;have f:=Pu b c;unfold zn at b;simp[f]at b;have e:=b.1.1;unfold ym at e;rw[ZE,ZJ]at e;exact e.1 k c
theorem qF{p:List Bt}{x:Bt}(b:∀y∈p,iS y)(e:iS x):∀y∈p++[x],iS y:=λy c=>by rcases ZG.1 c with h|h;exact b y h;rw[zaf.1 h];exact e
theorem DO:∀(n:Nat) (s v:Tr) (p:List Bt),qg n s=Ta->Q4 zn s=Ta->Q4 zn v=Ta->Sm s->Sm v->bK v<=1000000->(∀y∈p,iS y)->∀f∈qi same cmp n s v p,(∀y∈f.1,iS y)/\f.1.length<=p.length+bR v
 |0,_,_,_,_,_,_,_,_,_,_,f,h=>by cases h
 |n+1,s,v,p,hr,hs,hv,ss,sv,hz,hp,f,h=>by
  have G:=qm hv;have Q:=Xu v;rw[qi,zbf]at h;obtain⟨w,F,h⟩:=h;cases e:xe s (bl w)with
  |none=>rw[e]at h;cases h
  |some x=>
   rw[e]at h;have h:f∈fG same cmp (qi same cmp n) s w x v p:=h;have r:=v8 hr (qm hs) e;have C:=ql hs (wy e);have B:=ss.item (wy e);have l:∀{b:Bool} {u:Bs},f∈fa b p u->(∀y∈f.1,iS y)/\f.1.length<=p.length+bR v:=λ {b u} h=>by unfold fa at h;split at h;cases h;rw[zaf.1 h];exact⟨hp,Nat.le_add_right _ _⟩
   have o:∀(y u:Tr) (q:List Bt),qg n y=Ta->Q4 zn y=Ta->Sm y->(∀z∈q,iS z)->Q4 zn u=Ta->Sm u->bK u<=1000000->q.length+bR u<=p.length+bR v->f∈qi same cmp n y u q->(∀y∈f.1,iS y)/\f.1.length<=p.length+bR v:=λy u q h1 H J I N O M S P=>by have:=DO n y u q h1 H N J O M I f P;exact⟨this.1,by omega⟩
   simp only[sWords,YS,List.not_mem_nil,or_false]at F;rcases F with rfl|rfl|rfl|rfl|rfl|rfl|rfl|rfl|rfl|rfl|rfl|rfl|rfl;rw[LF]at h;exact l h;rw[Mn]at h;exact l h;rw[NU]at h;exact l h;rw[Rx]at h;exact l h;rw[P9]at h;exact l h;rw[Pe]at h;exact l h;rw[Ae]at h;have r:(decide (x.kind=5)&&x.items.all λx=>decide (x.kind=4))=Ta:=r;rw[ZE,ZJ]at r;split at h;obtain⟨y,t,rfl⟩:=za6.1 h;have t:=(zcq.1 t).1;have L:y.kind=4:=zB (r.2 y t);have E:=qm (ql C t);unfold zn at E;simp[L]at E;exact⟨qF hp ⟨E.1.1,(B.item t).text⟩,by simp;omega⟩;cases h;rw[y4]at h;split at h;obtain⟨k,D,rfl⟩:=za6.1 h;exact⟨qF hp (CX G sv (zcq.1 D).1),by simp;omega⟩;cases h;rw[xI]at h;have r:qg n x=Ta:=r;split at h;obtain⟨i,hi,h⟩:=zbf.1 h;have hi:=zbc.1 hi;rw[YR hi]at h;have c:=YW hi;have:=jd c;have:=q9 c;have:=Zo v.items;have:=Zu v;exact o x v.items[i] _ r C B (qF hp (RA (by omega))) (ql hv c) (sv.item c) (by omega) (by simp;omega) h;cases h;rw[xR]at h;have r:(decide (x.kind=6)&&x.items.all (qg n))=Ta:=r;rw[ZE,ZJ]at r;obtain⟨m,A,h⟩:=zbf.1 h;cases ek:xe x m.1 with
   |none=>rw[ek]at h;cases h
   |some y=>rw[ek]at h;have D:=(List.of_mem_zip (a:=m.1) (b:=m.2) A).1;have c:=sd A;have:=jd c;have:=q9 c;exact o y m.2 _ (r.2 y (wy ek)) (ql C (wy ek)) (B.item (wy ek)) (qF hp (CX G sv D)) (ql hv c) (sv.item c) (by omega) (by simp;omega) h
   rw[vD]at h;have r:(decide (x.kind=5)&&x.items.all (qg n))=Ta:=r;rw[ZE,ZJ]at r;obtain⟨y,t,h⟩:=zbf.1 h;exact o y v p (r.2 y t) (ql C t) (B.item t) hp hv sv hz (YM _) h;rw[Hr]at h;exact l h;rw[BU]at h;exact l h
end
end Go.X
end
section
namespace Go.X
open Go Go.X Go.Proofs Go.RowKit
set_option maxRecDepth 100000 in
set_option maxHeartbeats 2000000 in
section
theorem t8{gl:Fr}(v:Tr)(hv:Sm v)(ht:bK v<=1000000){R:Tr->Prop}(hR:R v):PC Tp gl 13 [Arg.mk .tree v] [.tree] R:=by
 have ap:=Zu v;have az:=hv.keys;have aC:v.items.length<=1000000:=by have:=Zo v.items;omega
 intro h M vs hM ag ha
 match vs,ha with
 |[u],⟨hu,_⟩=>
  obtain⟨sk,si,rfl,rk,ri⟩:=ye (show RdV M .tree v u from hu);have li:=(rowLen ri).1;apply PX.of;apply JC v.kind v.text sk si;intro h1;obtain⟨k1,z1,B1⟩:=jo (g:=h1) rfl;clear_value h1;intro f;obtain⟨k2,z2,R2⟩:=jo (g:=f) rfl;clear_value f;have B2:=B1.ofKeep k2;have L2:Later h M f M:=Later.same ag (k1.trans k2 (by omega));intro K5 ak;have Q:∀(b:Nat) (g:zc) (M2:Fr) (s:Sl),Later f M g M2->Rd M2 (.row .str) v.keys [aK s]->Blk g b #[.int .i64 0,.string ⟨#[]⟩,.slice Td 0 0,.slice Td 0 0]->f.size<=b->M2 b=Td->XRunU Tp (YN 25 (.pointer (Tc ⟨b,0,Td⟩)) (.agg #[.int .i64 v.kind,.string v.text,aK s,.slice Td 0 0])) g (λg'=>K5 ⟨b,0,Td⟩ g'):=by
   intro b g M2 s L rs O y nO;refine Yn (si:=⟨Td,0,0⟩) O λg1 f1 zg O1=>?_;have L1:Later f M g1 M2:=Later.stay L y nO f1 zg;apply ak;refine⟨λi g=>∃(m:Nat) (M':Fr) (zi:Sl) (bi:List Nat),i=(m:Int)/\m<=v.items.length/\Later f M g M'/\g1.size<=g.size/\ORow g1.size g M' .tree (v.items.take m) zi bi/\Blk g b #[.int .i64 v.kind,.string v.text,aK s,aK zi]/\M' b=Td/\Fr.le M2 M',λi _=>v.items.length-i.toNat,⟨0,M2,⟨Td,0,0⟩,[],rfl,ZN _,L1,YM _,ORow.nil,O1,nO,Fr.le.refl _⟩,?_⟩;rintro i g' ⟨m,M',zi,bi,rfl,E,x,aA,U,I,am,Z⟩;have Bg:=B2.keep (x.keep.get h.size (by omega));have Rg:=R2.keep (x.keep.get h1.size (by omega));have au:=O1.lt;refine⟨si,Bg.cellAdd (o:=0) (k:=3) rfl,λB=>?_,λB=>?_⟩;have A:m<v.items.length:=by have:=rX B;omega
   obtain⟨a,ck,ci,ea,ai,t1,t2⟩:=Xt x.ag (ri.mono x.le) A;refine⟨zi,I.cellAdd (o:=0) (k:=3) rfl,si,Bg.cellAdd (o:=0) (k:=3) rfl,a,⟨ea,by omega,by omega⟩,v.items[m].kind,v.items[m].text,ck,ci,by rw[YO];exact ai,?_⟩;have S:=YW A;have ay:=q9 S;refine(t8 (gl:=gl) v.items[m] (hv.item S) (by omega) (R:=λq=>q=v.items[m]) rfl).go (vs:=[_]) (hM.trans x.le) x.ag (zm (a:=Arg.mk .tree v.items[m]) (zj t1 t2) zz) λw h5 M5 q N V hq=>?_;subst hq;obtain⟨xk,xi,rfl,y1,y2⟩:=ye (Yu.1 V);have z5:=N.keep.size;have e5:=N.keep.get b I.lt;refine⟨_,_,xk,xi,rfl,by rw[zw];exact e5,?_⟩;intro h6;obtain⟨k6,z6,S6⟩:=jo (g:=h6) rfl;have J:Later g' M' h6 M5:=N.trans (Later.push N.ag _);clear_value h6;have n5:M5 b=Td:=by rw[N.old b I.lt];exact am
   have O6:=U.call J;have P:=I.keep (J.keep.get b I.lt);have D:=x.trans J;refine⟨by rw[zw];exact(k6.get b (by omega)).trans e5,?_⟩;refine ORow.app sj (by omega) J.ag O6 (by omega) (vs:=[.int .i64 v.items[m].kind,.string v.items[m].text,aK xk,aK xi]) S6 (C0 (zj y1 y2)) (by grind) λs7 h7 aa r7 z7 w7 f7=>⟨s7,rfl,?_⟩;have nb:b∉bi:=λE=>by have:=(O6.own b E).1;omega
   have aj:=P.keep (f7 b P.lt nb);have L7:Later f M h7 M5:=⟨⟨by omega,λj hj=>(f7 j (by omega) λE=>by have:=(O6.own j E).1;omega).trans (D.keep.get j hj)⟩,D.le,D.old,λc cs e=>by rw[f7 c (D.ag.lt e) λE=>by have:=(O6.own c E).2.2;grind];exact D.ag c cs e⟩;rw[zw];refine yr te sC aj (by simp) rfl λh8 O8 z8 f8=>?_;have hw:=qd A (by omega);refine⟨⟨m+1,M5,s7,aa,hw,A,Later.stay L7 y n5 f8 z8,by omega,?_,O8,n5,Z.trans J.le⟩,by simp;omega⟩;rw[YP A];exact r7.frame (λc B=>f8 c (by grind)) (Fr.le.refl _) (λc B=>(r7.own c B).2.2);have af:m=v.items.length:=by have:=uz B;omega
   subst af;rw[ZO]at U;have Lf:Later h M g' (MxL M' g' bi):=L2.trans (Later.own x λc B=>by have:=(U.own c B).1;omega);have nR:M' h1.size=Td:=by rw[x.old _ (by omega)];exact ag.none (by omega)
   refine sB Rg I Lf (by omega) ?_ (zj (v:=v) ((rs.mono Z).mono (Y4 x.ag _)) (U.rd x.ag (λc B=>B) (by omega))) hR;unfold MxL;rw[za λE=>by have:=(U.own _ E).1;omega];exact nR
  have app:∀(p:Addr) (g:zc),Later f M g M->∀{K:Value->zc->Prop},(∀(s':Sl) (g':zc) (M2:Fr),Later g M g' M2->Rd M2 (.row .str) v.keys [aK s']->K (aK s') g')->xd Tp (YY #[22,22] 22 #[.slice (Tc p) 0 0,aK sk]) g K:=λp g L K hK=>
   vP L.ag (olds:=[]) (news:=v.keys) (n:=0) (p:=p) ⟨_,rfl,_,_,rfl,⟨by simp,by simp⟩,.inl rfl⟩ (rk.mono L.le) (by simp;omega) λs g' M2 L2 r=>hK s g' M2 L2 r
  have t:∀{g:zc} {M2:Fr} (j:Nat),Later f M g M2->j<f.size->g[j]?=f[j]?:=λj L hj=>L.keep.get j hj;have P0:Later f M f M:=Later.refl L2.ag;refine⟨v.kind,B2.cellAdd (o:=0) (k:=0) rfl,v.text,B2.cellAdd (o:=0) (k:=1) rfl,sk,B2.cellAdd (o:=0) (k:=2) rfl,?_⟩;have l:h.size<f.size:=by omega
  have box:∀{g:zc} {M2:Fr},Later f M g M2->Blk (g.push (.cells #[.int .i64 0,.string ⟨#[]⟩,.slice Td 0 0,.slice Td 0 0] 25)) g.size #[.int .i64 0,.string ⟨#[]⟩,.slice Td 0 0,.slice Td 0 0]/\Later f M (g.push (.cells #[.int .i64 0,.string ⟨#[]⟩,.slice Td 0 0,.slice Td 0 0] 25)) M2/\M2 g.size=Td/\f.size<=g.size:=λ {g M2} L=>⟨Blk.new _ _ _,L.trans (Later.push L.ag _),L.ag.none (YM _),L.keep.size⟩;have row:∀{g:zc} {M2:Fr},Later f M g M2->Later f M (g.push (.cells #[] 9)) M2:=λ {g M2} L=>L.trans (Later.push L.ag _);intro ab ar ae;have F:∀{b:Nat} {g:zc} {M2:Fr} {s:Sl},Later f M g M2->Rd M2 (.row .str) v.keys [aK s]->Blk g b #[.int .i64 0,.string ⟨#[]⟩,.slice Td 0 0,.slice Td 0 0]->f.size<=b->M2 b=Td->ab ⟨b,0,Td⟩ s g:=λL rs O y nO=>Q _ _ _ _ L rs O y nO;have Y:∀{b:Nat} {g:zc} (p:Addr),Later f M g M->Blk g b #[.int .i64 0,.string ⟨#[]⟩,.slice Td 0 0,.slice Td 0 0]->f.size<=b->ae ⟨b,0,Td⟩ ⟨Tc p,0,0⟩ g:=λ {b g} p L O y=>app p g L λs g' M2 x r=>by have D:=L.trans x;have hl:=O.lt;exact⟨s,rfl,t _ D l,t _ D l,F D r (O.keep (x.keep.get b hl)) y (by rw[x.old b hl];exact L2.ag.none y)⟩
  refine⟨?_,?_⟩;intro G;have z:Later f M G M:=row P0;have an:G.size=f.size+1:=ZI _;refine⟨t _ z l,t _ z l,t _ z l,app _ G z λs ax M2 x r=>?_,?_⟩;have H:=z.trans x;obtain⟨b1,b2,b3,b4⟩:=box H;exact⟨s,rfl,t _ H l,t _ H l,F b2 r b1 b4 b3,t _ b2 l,t _ b2 l,F b2 r b1 b4 b3⟩;obtain⟨b1,b2,b3,b4⟩:=box z;exact⟨t _ b2 l,t _ b2 l,t _ b2 l,Y _ b2 b1 b4⟩;intro aB;obtain⟨b1,b2,b3,b4⟩:=box P0;refine⟨t _ b2 l,t _ b2 l,t _ b2 l,?_⟩;intro ah;have C:Later f M ah M:=row b2;exact⟨t _ C l,t _ C l,t _ C l,Y _ C (b1.ofKeep (Keep.push _ _ (YM _))) b4⟩
termination_by bK v
end
end Go.X
end
section
namespace Go.X
open Go Go.X Go.Proofs Go.Lib Go.RowKit
section
variable {gl:Fr} {g:zc} {s v:Tr}
theorem Dd{f:FuncId}{args:List Arg}{Mg:Fr}{vs:List Value}{X:List Bt}(P:PC Tp gl f args [.row .str] (λr=>r=X))(e:Fr.le gl Mg)(ag:AgM Mg g)(h:Y1 Mg args vs){K:Sl->zc->Prop}
  (i:∀r g' M',Later g Mg g' M'->Rd M' (.row .str) X [aK r]->K r g'):XC Tp f vs.toArray g λv h'=>∃r:Sl,v=aK r/\K r h':=by
 refine P.go e ag h λw g' M' r L b c=>?_;have c:r=X:=c;subst c;obtain⟨s,rfl,rd⟩:=lI (Yu.1 b);exact⟨s,rfl,i s g' M' L rd⟩
theorem T6(ss:Sm s)(sv:Sm v):(Y7 s v).1.length<=16777216/\∀x∈(Y7 s v).1.map fE,x.1.length<=1000000:=by
 by_cases b:dK s=Ta/\yn v=Ta;have c1:Y7 s v=(qi zr yy (bR s) s v [],0):=by unfold Y7;rw[zb b]
 have c:=Q1 sv b.2;have os:=Q1 ss (t6 b.1);rw[c1];refine⟨kf os c,λx e=>?_⟩;obtain⟨f,h,rfl⟩:=za6.1 e;have:=DO (same:=zr) (cmp:=yy) (bR s) s v [] (tX b.1 (YM _)) os.nd c.nd ss sv (by have:=c.sz;omega) (λy i=>nomatch i) f h;have k:=this.2;have:=c.dp;show f.1.length<=1000000;simp at k;omega;have c1:Y7 s v=([],1):=by unfold Y7;rw[za b]
 rw[c1];exact⟨by simp,λx e=>by simp at e⟩
theorem XY(s:Tr):(hH s).length<=1000000:=by unfold hH;split;rw[ZA];exact zaj (List.length_filter_le _ _) (by decide);simp
theorem DT{M:Fr}(ag:AgM M g){x:Tr}{sk si:Sl}{K:zc->Prop}(c:∀g' M',Later g M g' M'->M' g.size=Tc (jm x.kind x.text sk si).toArray->K g'):
  XRunU Tp (YN 25 (.pointer (Tc ⟨g.size,0,Td⟩)) (.agg #[.int .i64 x.kind,.string x.text,aK sk,aK si])) (g.push (.cells #[.int .i64 0,.string ⟨#[]⟩,.slice Td 0 0,.slice Td 0 0] 25)) K:=
 xm ag λg' L z B=>c g' (MxL M g' [g.size]) (MxL.later ag L.keep λb e=>by rw[zaf.1 e];exact YM _) (MxL.at (by simp) B)
set_option maxHeartbeats 8000000 in
set_option maxRecDepth 100000 in
theorem MK(hg:GL gl){R:Bool->Prop}(hR:R Ta):PC Tp gl 3 [Arg.mk .tree s,Arg.mk .tree v] [.bool] R:=by
 intro h M vs hM ag ha;obtain⟨us,uv,rfl,aI,aC⟩:∃us uv,vs=[us,uv]/\RdV M .tree s us/\RdV M .tree v uv:=by
  match vs,ha with
  |[a,b],⟨h1,F,_⟩=>exact⟨a,b,rfl,h1,F⟩
 have aH:=aI;have ax:=aC;obtain⟨sk,si,rfl,-,-⟩:=ye aI;obtain⟨vk,vi,rfl,-,-⟩:=ye aC;apply PX.of;apply Yq s.kind s.text sk si v.kind v.text vk vi;intro h1 F;obtain⟨M2,I,ms,mv⟩:∃M2,Later h M F M2/\M2 h.size=Tc (jm s.kind s.text sk si).toArray/\M2 h1.size=Tc (jm v.kind v.text vk vi).toArray:=by have L1:Later h M h1 (Mx M h.size (jm s.kind s.text sk si).toArray):=Later.frz ag _ 25;have L2:Later h1 _ F (Mx _ h1.size (jm v.kind v.text vk vi).toArray):=Later.frz L1.ag _ 25;exact⟨_,L1.trans L2,L2.le _ _ (Ql ..),Ql ..⟩
 clear_value F h1;have aJ:=hM.trans I.le;have f:∀{g Mg},Later F M2 g Mg->zd g ⟨h.size,0,Td⟩ 0 [.int .i64 s.kind,.string s.text,aK sk,aK si]:=λL=>my L.ag (L.le _ _ ms);have o:∀{g Mg},Later F M2 g Mg->zd g ⟨h1.size,0,Td⟩ 0 [.int .i64 v.kind,.string v.text,aK vk,aK vi]:=λL=>my L.ag (L.le _ _ mv);have p:∀{g Mg},Later F M2 g Mg->RdV Mg .tree s (fP s.kind s.text sk si):=λL=>aH.mono (I.le.trans L.le);have A:∀{g Mg},Later F M2 g Mg->RdV Mg .tree v (fP v.kind v.text vk vi):=λL=>ax.mono (I.le.trans L.le);have af:∀{g Mg},Later F M2 g Mg->h.size<g.size:=λL=>L.ag.lt (L.le _ _ ms);have aT:∀{g Mg},Later F M2 g Mg->h1.size<g.size:=λL=>L.ag.lt (L.le _ _ mv);have fin:∀{g Mg},Later F M2 g Mg->∃M' r,Later h M g M'/\Yf M' [.bool] r (.bool Ta)/\R r:=λL=>⟨_,Ta,I.trans L,Yu.2 (rdBool Ta),hR⟩;have l:∀{g Mg},Later F M2 g Mg->Fr.le gl Mg:=λL=>aJ.trans L.le;refine ia (vs:=[]) (Ma hg (R:=λr=>r=Ta) rfl) aJ I.ag zz λr g4 M4 L4 e=>?_;have e:r=Ta:=e;subst e;refine⟨_,_,sk,si,f L4,_,_,vk,vi,o L4,?_⟩;refine ia (vs:=[_,_]) (Vw (s:=s) (v:=v) (R:=λb=>b=Ta->gw s<=120/\Sm s/\gw v<=60/\Sm v) λb hb=>hb) (l L4) L4.ag (zm (p L4) (zm (A L4) zz)) λr1 g5 M5 L5 be=>?_
 replace L5:=L4.trans L5
 refine⟨λ_=>fin L5,λZ=>?_⟩;have e1:r1=Ta:=by revert Z;cases r1 <;> simp
 subst e1;obtain⟨ks,ss,kv,sv⟩:=be rfl;have zs:=s9 s;have zv:=s9 v;refine⟨_,_,sk,si,f L5,?_⟩;refine BP (vs:=[_]) (t8 s ss (by omega) (R:=λr=>r=s) rfl) (l L5) L5.ag (zm (p L5) zz) λwk wi g6 M6 L6 aN=>?_;have N6:=L5.trans L6;intro h7;refine DT N6.ag λg8 M8 L8 mw=>?_;have N8:=N6.trans L8;refine⟨_,_,vk,vi,o N8,?_⟩;refine BP (vs:=[_]) (t8 v sv (by omega) (R:=λr=>r=v) rfl) (l N8) N8.ag (zm (A N8) zz) λok oi g9 M9 L9 aO=>?_;have N9:=N8.trans L9;intro bD;refine DT N9.ag λy z Y mo=>?_;have t:=N9.trans Y;have aS:∀{g Mg},Later y z g Mg->RdV Mg .tree s (fP s.kind s.text wk wi):=λL=>aN.mono (L8.le.trans (L9.le.trans (Y.le.trans L.le)));have a8:∀{g Mg},Later y z g Mg->RdV Mg .tree v (fP v.kind v.text ok oi):=λL=>aO.mono (Y.le.trans L.le);have au:∀{g Mg},Later y z g Mg->zd g ⟨g6.size,0,Td⟩ 0 [.int .i64 s.kind,.string s.text,aK wk,aK wi]:=λL=>my L.ag (L.le _ _ (Y.le _ _ (L9.le _ _ mw)));have aG:∀{g Mg},Later y z g Mg->zd g ⟨g9.size,0,Td⟩ 0 [.int .i64 v.kind,.string v.text,aK ok,aK oi]:=λL=>my L.ag (L.le _ _ mo);refine⟨_,_,sk,si,f t,_,_,vk,vi,o t,?_⟩;refine UX hg ss sv (l t) t.ag (p t) (A t) λbP bq na so lo aF bz Q eD=>?_;have G:=t.trans aF;refine⟨so,_,rfl,_,_,sk,si,f G,_,_,vk,vi,o G,?_⟩;refine(Hl hg ss sv (R:=λq=>q=((Y7 s v).1.map fE,(Y7 s v).2)) rfl).go (vs:=[_,_]) (l G) G.ag (zm (p G) (zm (A G) zz)) λw a7 aa q C ay hq=>?_;have hq:q=((Y7 s v).1.map fE,(Y7 s v).2):=hq;subst hq;obtain⟨sm,rfl,rm⟩:=Jv ay;refine⟨sm,_,rfl,?_⟩
 replace Q:=Q.call C
 have D:=aF.trans C;obtain⟨fl,fp⟩:=T6 ss sv;have hn:na.length<=16777216:=by have:=congrArg zam eD;rw[ZA]at this;omega
 obtain⟨bs,bh,rd⟩:=Q.rd C.ag (by omega);have e2:(na.map λx=>fE x.1)=(Y7 s v).1.map fE:=by rw[<-eD,za8];rfl
 rw[e2]at rd;have aM:=t.trans D;refine ia (vs:=[aK so,aK sm]) (OZ (a:=(Y7 s v).1.map fE) (b:=(Y7 s v).1.map fE) (by rw[ZA];omega) fp (R:=λr=>r=Ta) λr e=>e.2 rfl) ((l aM).trans (Y4 C.ag bs)) (MxL.ag C.ag bs) (zm ((eK rfl).2 rd) (zm ((eK rfl).2 (rm.mono (Y4 C.ag _))) zz)) λr ah bO aV e=>?_;have e:r=Ta:=e;subst e;have J:Later a7 aa ah aa:=Later.same C.ag aV.keep
 replace Q:=Q.call J
 have E:=D.trans J;have bg:=Q.len;have ar:=J.ag;refine⟨λi g=>∃k:Nat,i=(k:Int)/\k<=na.length/\Sp30 lo ah aa g,λi _=>na.length-i.toNat,⟨0,rfl,ZN _,Sp30.refl _ _ _⟩,?_⟩;rintro i g ⟨k,rfl,hk,S⟩;refine⟨λZ=>?_,λZ=>?_⟩;have U:k<na.length:=by have:=zB Z;omega
 have N:=YW U;have bT:=(rowLen (Q.nd _ N).1).1;refine⟨λq g'=>∃n:Nat,q=(n:Int)/\n<=na[k].1.1.length/\Sp30 lo ah aa g',λq _=>na[k].1.1.length-q.toNat,⟨0,rfl,ZN _,S⟩,?_⟩;rintro q g' ⟨n,rfl,bG,S'⟩;obtain⟨rb,bm,ea,er,Br,ec⟩:=Q.cell U;have aL:=Br.keep (S'.un rb Br.lt er);have ce:ze g' (((⟨rb,0,Td⟩:Addr).add ((((k:Nat):Int).toNat)*2)).add 0)=Tc (aK na[k].2):=by rw[qo,qo,YO,ZP,zco];exact aL.cell ec
 have aE:so.a=Tc (⟨rb,0,Td⟩:Addr)/\(0:Int)<=(k:Int)/\((k:Nat):Int)<((so.len:Nat):Int):=⟨ea,by omega,by omega⟩;refine⟨⟨rb,0,Td⟩,aE,na[k].2,ce,λZ=>?_,λZ=>?_⟩;have ap:n<na[k].1.1.length:=by have:=zB Z;omega
 obtain⟨pb,cs,ep,aY,aQ,Bp,aU⟩:=Q.path ar S' N ap;refine⟨⟨rb,0,Td⟩,aE,na[k].2,ce,⟨pb,0,Td⟩,⟨ep,by omega,by omega⟩,?_⟩;rw[PS];refine yr Kl (by kernel_rfl) Bp aU rfl λg3 B3 z3 f3=>?_;rw[qd ap (by have:=(rowLen (Q.nd _ N).1).2.1;omega)];exact⟨⟨n+1,rfl,ap,S'.put aY aQ Bp B3 z3 f3⟩,by simp;omega⟩;rw[qd U (by omega)];exact⟨⟨k+1,rfl,U,S'⟩,by simp;omega⟩;have bS:=t.keep.size;have bI:=E.keep.size;have Lg:Later y z g z:=by have kk:Keep y.size y g:=⟨by have:=S.sz;omega,λc Z=>(S.lo c (by omega)).trans (E.keep.get c Z)⟩;exact Later.same t.ag kk
 have Ng:=t.trans Lg;intro K1 k1;have eA:(bif (bif Ta then Ta else Tb)then((Y7 s v).2==(Y7 s v).2)else Tb)=Ta:=by simp
 rw[eA];refine k1 _ _ ?_;clear k1;intro K2 k2;refine⟨_,_,sk,si,λ_=>f Ng,_,_,sk,si,λ_=>f Ng,?_⟩;refine Xx rfl (Kt:=λr g'=>_) ?_;refine ia (vs:=[_]) (tj hg ss (R:=λr=>r=dK s) rfl) (l Ng) Ng.ag (zm (p Ng) zz) λr bE bB ai e=>?_;have e:r=dK s:=e;subst e;have ab:=Ng.trans ai;refine⟨λ_=>ai.keep.get _ (af Ng),?_⟩;refine Xx rfl (Kt:=λr g'=>_) ?_;refine ia (vs:=[_]) (vu hg ss (R:=λr=>r=dK s) rfl) (l ab) ab.ag (zm (p ab) zz) λr bu bM aA e=>?_;have e:r=dK s:=e;subst e;have u:=ab.trans aA;have eB:(bif Ta then(dK s==dK s)else Tb)=Ta:=by simp
 rw[eB];refine k2 _ _ ?_;clear k2;intro K3 k3;refine⟨_,_,sk,si,λ_=>f u,_,_,vk,vi,λ_=>o u,_,_,sk,si,λ_=>f u,_,_,vk,vi,λ_=>o u,?_⟩;refine Xx rfl (Kt:=λr g'=>_) ?_;refine ia (vs:=[_,_]) (ve hg ss sv (R:=λr=>r=gK zr yy s v) rfl) (l u) u.ag (zm (p u) (zm (A u) zz)) λr bQ bJ ae e=>?_;have e:r=gK zr yy s v:=e;subst e;have H:=u.trans ae;refine⟨λ_=>ae.keep.get _ (aT u),λ_=>ae.keep.get _ (af u),?_⟩;refine Xx rfl (Kt:=λr g'=>_) ?_;refine ia (vs:=[_,_]) (NR hg ss sv (R:=λr=>r=gK zr yy s v) rfl) (l H) H.ag (zm (p H) (zm (A H) zz)) λr bn bj az e=>?_;have e:r=gK zr yy s v:=e;subst e;have B:=H.trans az;have eC:(bif Ta then(gK zr yy s v==gK zr yy s v)else Tb)=Ta:=by simp
 rw[eC];refine k3 _ _ ?_;clear k3;intro K4 k4;refine⟨_,_,sk,si,λ_=>f B,_,_,sk,si,λ_=>f B,?_⟩;refine sQ rfl (Kt:=λr g'=>_) ?_;refine Dd (vs:=[_]) (EW hg ss (R:=λr=>r=hH s) rfl) (l B) B.ag (zm (p B) zz) λw1 bH bL ak a6=>?_;have V:=B.trans ak;refine⟨λ_=>ak.keep.get _ (af B),?_⟩;refine sQ rfl (Kt:=λr g'=>_) ?_;refine Dd (vs:=[_]) (KW hg ss (R:=λr=>r=hH s) rfl) (l V) V.ag (zm (p V) zz) λw2 bo bN an aP=>?_;have aj:=V.trans an;refine Xx rfl (Kt:=λr g'=>_) ?_;refine ia (vs:=[aK w1,aK w2]) (oc (a:=hH s) (b:=hH s) (XY s) (R:=λr=>r=Ta) λr e=>e.2 rfl) (l aj) aj.ag (zm ((eK rfl).2 (a6.mono an.le)) (zm ((eK rfl).2 aP) zz)) λr ba aZ aB e=>?_;have e:r=Ta:=e;subst e;have O:=aj.trans aB;refine k4 _ _ ?_;clear k4;have m:Later y z ba aZ:=Lg.trans (ai.trans (aA.trans (ae.trans (az.trans (ak.trans (an.trans aB))))));intro K5 k5;refine⟨_,_,sk,si,λ_=>f O,_,_,wk,wi,λ_=>au m,?_⟩;refine Xx (g:=bif Ta then Ta else Tb) rfl (Kt:=λr g'=>_) ?_;refine ia (vs:=[_,_]) (uK s s (R:=λq=>q=Ta) λq hq=>hq.2 rfl) (l O) O.ag (zm (p O) (zm (aS m) zz)) λr bC br am e=>?_;have e:r=Ta:=e;subst e;have P:=O.trans am;refine k5 _ _ ?_;clear k5;refine⟨_,_,vk,vi,λ_=>o P,_,_,ok,oi,λ_=>aG (m.trans am),?_⟩;refine Xx (g:=bif (bif Ta then Ta else Tb)then Ta else Tb) rfl (Kt:=λr g'=>_) ?_;refine ia (vs:=[_,_]) (uK v v (R:=λq=>q=Ta) λq hq=>hq.2 rfl) (l P) P.ag (zm (A P) (zm (a8 (m.trans am)) zz)) λr bA bF a1 e=>?_;have e:r=Ta:=e;subst e;exact fin (P.trans a1)
end
end Go.X
end
