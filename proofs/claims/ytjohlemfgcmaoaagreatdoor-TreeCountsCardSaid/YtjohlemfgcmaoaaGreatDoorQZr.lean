/- The law TreeCounts returns true at every input, and each argument reads afterwards as it read before. No condition. -/
import Derived.Test.YtjohlemfgcmaoaaGreatDoorPrG
namespace Go.Proofs.YtjohlemfgcmaoaaGreatDoor
open Go Go.X Go.ChangeShapes Go.WideShapes Go.ChangeAt Go.RowKit
open Go.ChangeMaps (open_string shut_string)
set_option linter.unusedVariables false
set_option maxRecDepth 100000 in
theorem zgk (os:Os) (started:os.Started) (H:Type) (enc:TypeId×Value->H):
  ReturnsInHanded {} Tryz.checked os 12 .any (λw args=>(Rows.treeCountsSpec.pre enc Tryz.prog Tryz.f12 Rows.treeCountsRow.domain false w args/\laidMetH Tryz.prog zjk w)/\sizedMet enc Tryz.prog Tryz.f12 (OpenSpec.ofChange Rows.treeCountsSpec) false w args)
   (Rows.treeCountsSpec.post enc Tryz.prog Tryz.f12 false true false false):=by
 refine zn7 (C:=Tryz.checked) (X:=λw _=>laidMetH Tryz.prog zjk w) (λ_ _ _ hh h=>h.of_heap hh) Tryz.own started (by kernel_rfl) Tryz.func12
  (ChangeSpec.witness_shaped (enc:=enc) (C:=Tryz.checked) (os:=os) (X:=λw _=>laidMetH Tryz.prog zjk w) false (qk1 os) #[.agg #[.int .i64 0,.string ⟨#[]⟩,.slice none 0 0,.slice none 0 0]] 8 (World.laidAll_os _ _ _) (zuu os _) (by kernel_rfl) (by kernel_rfl) (by kernel_rfl) (qao os _)) ?_
 intro W base args ds gs before hval0 hW hZ hL hS
 have hg:=qk0 hL hS
 have hval:∀(j:Nat) t v,Tryz.f12.params[j]?=some t->args[j]?=some v->Value.okWide Tryz.prog W .any base t v:=hval0
 have hW':=hW
 obtain⟨p,q,hA0,hV,rfl,hfz,hnd⟩:=hW
 have hA:DataW.TrodAll enc Tryz.prog W 0 (λ_=>true) true Tryz.f12.params.toList args.toList ds p:=hA0
 rw[Tryz.params12]at hA hval
 obtain⟨v0,vs0,d0,ds0,p0,q0,hargs,rfl,rfl,h0,r0⟩:=trodAll_cons hA
 obtain⟨rfl,rfl,rfl⟩:=trodAll_nil r0
 obtain rfl:args=#[v0]:=by cases args;simp_all
 obtain⟨rfl,rfl⟩:=trodVars_none hV
 have lt0:∀x∈p0,x.block<W.heap.size:=by obtain⟨m,hm⟩:=h0;exact DataW.trod_lt m _ _ _ hm
 obtain⟨c0,rfl,_⟩:=okWide_struct Tryz.underlying26 (hval 0 26 v0 rfl rfl)
 obtain⟨x0,o0⟩:∃t:Tr,RdV (Fz W) .tree t (.agg c0):=by obtain⟨fu,hf⟩:=h0;obtain⟨t,hx⟩:=qex _ _ _ hf (qap hZ (j:=0) rfl rfl);exact⟨t,qai hx⟩
 clear hA0 hval0
 refine(zul (zpt hg (qia hL) rfl) (qc o0 qt)).mono λe W' ⟨he,bel⟩=>?_
 subst he
 exact⟨_,rfl,_,_,_,[],_,[],hW',trodAll_mk1 (shut_bool Tryz.underlying4 _),(trodAll_cons_mk (Below.trod Tryz.laidOut (by kernel_rfl) (of_decide_eq_true (by kernel_rfl)) h0 bel lt0) trodAll_mk0),rfl,bel.frame _,λh=>by cases h⟩
/- Closed facts, each by itself: the kernel gives its memory back behind each. -/
theorem zda:(Rows.treeCountsRow.inPlace==Tryz.pinned.checked.prog.inPlace 12)=true:=by kernel_rfl
theorem zdb:(Rows.treeCountsRow.unfollowed==Tryz.pinned.checked.prog.unfollowed 12)=true:=by kernel_rfl
theorem zdc:(Rows.treeCountsRow.recurses==Tryz.pinned.checked.prog.recurses 12)=true:=by kernel_rfl
theorem zdd:(Rows.treeCountsRow.named==Tryz.pinned.checked.prog.varsNamed 12)=true:=by kernel_rfl
theorem ze3:joinedFacts Tryz.pinned.checked.prog 12 Tryz.f12 Rows.treeCountsSpec Rows.treeCountsRow=true:=by
 unfold joinedFacts
 rw[zda,zdb,zdc,zdd]
 kernel_rfl
theorem closedB_TreeCounts:Tryz.pinned.checked.prog.funcNamed Rows.treeCountsRow.func=some 12:=by kernel_rfl
theorem ze4:Tryz.f12.isInstance Tryz.pinned.checked.prog Rows.treeCountsRow.origin Rows.treeCountsRow.targs:=of_decide_eq_true (by kernel_rfl)
theorem ze5:Tryz.f12.isWrapper Tryz.pinned.checked.prog Rows.treeCountsRow.wrapper Rows.treeCountsRow.mainSum:=by
 unfold Func.isWrapper;first|(rw[if_pos (by decide +kernel)];kernel_rfl)|(rw[if_neg (by decide +kernel)];exact⟨rfl,rfl⟩)
theorem ze6:Rows.treeCountsRow.wfByText (OpenSpec.ofChange Rows.treeCountsSpec)=true:=by kernel_rfl
theorem ze7 : Tryz.pinned.checked.prog.mainIs = some (true, "f4175d477fc9cabb7fed400f14f396e7c5fe7eb1e191b280800561e608d17418".toList) := by kernel_rfl
theorem ze8:true=Tryz.pinned.checked.prog.looks []:=by kernel_rfl
theorem ze9:false=Rows.treeCountsRow.goesBy Tryz.pinned.checked.prog:=by kernel_rfl
theorem zfa:([26].all λu=>!Tryz.prog.wantsStandIn u)=true:=by kernel_rfl
theorem zkk:Rows.treeCountsRow.holds Tryz.pinned (OpenSpec.ofChange Rows.treeCountsSpec):=
 OpenClaim.holds_of_wide 12 Tryz.f12 rfl rfl rfl rfl rfl rfl rfl ⟨rfl,rfl,rfl,rfl,rfl⟩ rfl rfl rfl rfl rfl closedB_TreeCounts Tryz.func12 ze3 ze4 ze5
  (λos started H enc _=>zgk os started H enc)
theorem TreeCountsProved:Rows.TreeCountsCardSaid:=
 Claim7.holds_tied_plain_at .later [] [.data, .data, .data, .data, .sentinel, .sentinel, .pinned] true (true, "f4175d477fc9cabb7fed400f14f396e7c5fe7eb1e191b280800561e608d17418") true
  zkk (λ_ h=>by cases h) ze6 (λ_ h=>by cases h) treeCounts_row_tie rfl ⟨rfl,rfl⟩ ze7 rfl
  (λf fn hf hfn=>by
   obtain rfl:f=12:=Option.some.inj (closedB_TreeCounts.symm.trans hf) |>.symm
   obtain rfl:fn=Tryz.f12:=(Option.some.inj (Tryz.func12.symm.trans hfn)).symm
   exact⟨ze8,λj t ht=>by
    rw[Tryz.params12]at ht
    have hm:t∈[26]:=by simpa using Array.mem_of_getElem? ht
    exact(show Tryz.prog.wantsStandIn t=false by simpa using List.all_eq_true.1 zfa t hm)⟩)
  ze9
#print axioms TreeCountsProved
end Go.Proofs.YtjohlemfgcmaoaaGreatDoor
