/- The law DiffNone returns true at every input, and each argument reads afterwards as it read before. No condition. -/
import Derived.Test.YtplilfikcimcbaaGreatDoorPeF
namespace Go.Proofs.YtplilfikcimcbaaGreatDoor
open Go Go.X Go.ChangeShapes Go.WideShapes Go.ChangeAt Go.RowKit
open Go.ChangeMaps (open_string shut_string)
set_option linter.unusedVariables false
set_option maxRecDepth 100000 in
theorem TV (os:Os) (started:os.Started) (H:Type) (enc:TypeId×Value->H):
  ReturnsInHanded {} Tryz.checked os 8 .any (λw args=>(Rows.diffNoneSpec.pre enc Tryz.prog Tryz.f8 Rows.diffNoneRow.domain false w args/\laidMetH Tryz.prog kc w)/\sizedMet enc Tryz.prog Tryz.f8 (OpenSpec.ofChange Rows.diffNoneSpec) false w args)
   (Rows.diffNoneSpec.post enc Tryz.prog Tryz.f8 false true false false):=by
 refine TL (C:=Tryz.checked) (X:=λw _=>laidMetH Tryz.prog kc w) (λ_ _ _ hh h=>h.of_heap hh) Tryz.own started (by kernel_rfl) Tryz.func8
  (ChangeSpec.witness_shaped (enc:=enc) (C:=Tryz.checked) (os:=os) (X:=λw _=>laidMetH Tryz.prog kc w) false (v9 os) #[.agg #[.int .i64 0,.string ⟨#[]⟩,.slice none 0 0,.slice none 0 0],.agg #[.int .i64 0,.string ⟨#[]⟩,.slice none 0 0,.slice none 0 0]] 8 (World.laidAll_os _ _ _) (I4 os _) (by kernel_rfl) (by kernel_rfl) (by kernel_rfl) (Rn os _)) ?_
 intro W base args ds gs before hval0 hW hZ hL hS
 have hg:=KB hL hS
 have hval:∀(j:Nat) t v,Tryz.f8.params[j]?=some t->args[j]?=some v->Value.okWide Tryz.prog W .any base t v:=hval0
 have hW':=hW
 obtain⟨p,q,nZ,hV,rfl,hfz,hnd⟩:=hW
 have hA:DataW.TrodAll enc Tryz.prog W 0 (λ_=>true) true Tryz.f8.params.toList args.toList ds p:=nZ
 rw[Tryz.params8]at hA hval
 obtain⟨v0,vs0,d0,ds0,p0,q0,hargs,rfl,rfl,h0,r0⟩:=trodAll_cons hA
 obtain⟨v1,vs1,d1,ds1,p1,q1,rfl,rfl,rfl,h1,r1⟩:=trodAll_cons r0
 obtain⟨rfl,rfl,rfl⟩:=trodAll_nil r1
 obtain rfl:args=#[v0,v1]:=by cases args;simp_all
 obtain⟨rfl,rfl⟩:=trodVars_none hV
 have lt0:∀x∈p0,x.block<W.heap.size:=by obtain⟨m,hm⟩:=h0;exact DataW.trod_lt m _ _ _ hm
 have lt1:∀x∈p1,x.block<W.heap.size:=by obtain⟨m,hm⟩:=h1;exact DataW.trod_lt m _ _ _ hm
 obtain⟨c0,rfl,_⟩:=okWide_struct Tryz.underlying25 (hval 0 25 v0 rfl rfl)
 obtain⟨x0,o0⟩:∃t:Tr,RdV (Fz W) .tree t (.agg c0):=by obtain⟨fu,hf⟩:=h0;obtain⟨t,hx⟩:=F3 _ _ _ hf (D3 hZ (j:=0) rfl rfl);exact⟨t,CX hx⟩
 obtain⟨c1,rfl,_⟩:=okWide_struct Tryz.underlying25 (hval 1 25 v1 rfl rfl)
 obtain⟨x1,o1⟩:∃t:Tr,RdV (Fz W) .tree t (.agg c1):=by obtain⟨fu,hf⟩:=h1;obtain⟨t,hx⟩:=F3 _ _ _ hf (D3 hZ (j:=1) rfl rfl);exact⟨t,CX hx⟩
 clear nZ hval0
 refine(Le (NG hg (Ko hL) rfl) (zn o0 (zn o1 qg))).mono λe W' ⟨he,bel⟩=>?_
 subst he
 exact⟨_,rfl,_,_,_,[],_,[],hW',trodAll_mk1 (shut_bool Tryz.underlying4 _),(trodAll_cons_mk (Below.trod Tryz.laidOut (by kernel_rfl) (of_decide_eq_true (by kernel_rfl)) h0 bel lt0) (trodAll_cons_mk (Below.trod Tryz.laidOut (by kernel_rfl) (of_decide_eq_true (by kernel_rfl)) h1 bel lt1) trodAll_mk0)),rfl,bel.frame _,λh=>by cases h⟩
/- Closed facts, each by itself: the kernel gives its memory back behind each. -/
theorem TK:(Rows.diffNoneRow.inPlace==Tryz.pinned.checked.prog.inPlace 8)=true:=by kernel_rfl
theorem KH:(Rows.diffNoneRow.unfollowed==Tryz.pinned.checked.prog.unfollowed 8)=true:=by kernel_rfl
theorem LR:(Rows.diffNoneRow.recurses==Tryz.pinned.checked.prog.recurses 8)=true:=by kernel_rfl
theorem Ht:(Rows.diffNoneRow.named==Tryz.pinned.checked.prog.varsNamed 8)=true:=by kernel_rfl
theorem NV:joinedFacts Tryz.pinned.checked.prog 8 Tryz.f8 Rows.diffNoneSpec Rows.diffNoneRow=true:=by
 unfold joinedFacts
 rw[TK,KH,LR,Ht]
 kernel_rfl
theorem closedB_DiffNone:Tryz.pinned.checked.prog.funcNamed Rows.diffNoneRow.func=some 8:=by kernel_rfl
theorem KP:Tryz.f8.isInstance Tryz.pinned.checked.prog Rows.diffNoneRow.origin Rows.diffNoneRow.targs:=of_decide_eq_true (by kernel_rfl)
theorem Pi:Tryz.f8.isWrapper Tryz.pinned.checked.prog Rows.diffNoneRow.wrapper Rows.diffNoneRow.mainSum:=by
 unfold Func.isWrapper;first|(rw[if_pos (by decide +kernel)];kernel_rfl)|(rw[if_neg (by decide +kernel)];exact⟨rfl,rfl⟩)
theorem TO:Rows.diffNoneRow.wfByText (OpenSpec.ofChange Rows.diffNoneSpec)=true:=by kernel_rfl
theorem SE : Tryz.pinned.checked.prog.mainIs = some (true, "d4aba09234a65c7f4d29bd0d864b029f59306d85c0a3492698ddf1dfb64c2b83".toList) := by kernel_rfl
theorem SB:true=Tryz.pinned.checked.prog.looks []:=by kernel_rfl
theorem R3:false=Rows.diffNoneRow.goesBy Tryz.pinned.checked.prog:=by kernel_rfl
theorem Su:([25,25].all λu=>!Tryz.prog.wantsStandIn u)=true:=by kernel_rfl
theorem IP:Rows.diffNoneRow.holds Tryz.pinned (OpenSpec.ofChange Rows.diffNoneSpec):=
 OpenClaim.holds_of_wide 8 Tryz.f8 rfl rfl rfl rfl rfl rfl rfl ⟨rfl,rfl,rfl,rfl,rfl⟩ rfl rfl rfl rfl rfl closedB_DiffNone Tryz.func8 NV KP Pi
  (λos started H enc _=>TV os started H enc)
theorem DiffNoneProved:Rows.DiffNoneCardSaid:=
 Claim7.holds_tied_plain_at .later [] [.data, .data, .data, .data, .sentinel, .sentinel, .pinned] true (true, "d4aba09234a65c7f4d29bd0d864b029f59306d85c0a3492698ddf1dfb64c2b83") true
  IP (λ_ h=>by cases h) TO (λ_ h=>by cases h) diffNone_row_tie rfl ⟨rfl,rfl⟩ SE rfl
  (λf fn hf hfn=>by
   obtain rfl:f=8:=Option.some.inj (closedB_DiffNone.symm.trans hf) |>.symm
   obtain rfl:fn=Tryz.f8:=(Option.some.inj (Tryz.func8.symm.trans hfn)).symm
   exact⟨SB,λj t ht=>by
    rw[Tryz.params8]at ht
    have hm:t∈[25,25]:=by simpa using Array.mem_of_getElem? ht
    exact(show Tryz.prog.wantsStandIn t=false by simpa using List.all_eq_true.1 Su t hm)⟩)
  R3
#print axioms DiffNoneProved
end Go.Proofs.YtplilfikcimcbaaGreatDoor
