/- The law TreeFroms returns true at every input, and each argument reads afterwards as it read before. No condition. -/
import Derived.Test.YtplilfikcimcbaaGreatDoorPhF
namespace Go.Proofs.YtplilfikcimcbaaGreatDoor
open Go Go.X Go.ChangeShapes Go.WideShapes Go.ChangeAt Go.RowKit
open Go.ChangeMaps (open_string shut_string)
set_option linter.unusedVariables false
set_option maxRecDepth 100000 in
theorem Nz (os:Os) (started:os.Started) (H:Type) (enc:TypeId×Value->H):
  ReturnsInHanded {} Tryz.checked os 3 .any (λw args=>(Rows.treeFromsSpec.pre enc Tryz.prog Tryz.f3 Rows.treeFromsRow.domain false w args/\laidMetH Tryz.prog fX w)/\sizedMet enc Tryz.prog Tryz.f3 (OpenSpec.ofChange Rows.treeFromsSpec) false w args)
   (Rows.treeFromsSpec.post enc Tryz.prog Tryz.f3 false true false false):=by
 refine Hq (C:=Tryz.checked) (X:=λw _=>laidMetH Tryz.prog fX w) (λ_ _ _ hh h=>h.of_heap hh) Tryz.own started (by kernel_rfl) Tryz.func3
  (ChangeSpec.witness_shaped (enc:=enc) (C:=Tryz.checked) (os:=os) (X:=λw _=>laidMetH Tryz.prog fX w) false (td os) #[.agg #[.int .i64 0,.string ⟨#[]⟩,.slice none 0 0,.slice none 0 0]] 8 (World.laidAll_os _ _ _) (Ha os _) (by kernel_rfl) (by kernel_rfl) (by kernel_rfl) (GF os _)) ?_
 intro W base args ds gs before hval0 hW hZ hL hS
 have hg:=KP hL hS
 have hval:∀(j:Nat) t v,Tryz.f3.params[j]?=some t->args[j]?=some v->Value.okWide Tryz.prog W .any base t v:=hval0
 have hW':=hW
 obtain⟨p,q,jP,hV,rfl,hfz,hnd⟩:=hW
 have hA:DataW.TrodAll enc Tryz.prog W 0 (λ_=>true) true Tryz.f3.params.toList args.toList ds p:=jP
 rw[Tryz.params3]at hA hval
 obtain⟨v0,vs0,d0,ds0,p0,q0,hargs,rfl,rfl,h0,r0⟩:=trodAll_cons hA
 obtain⟨rfl,rfl,rfl⟩:=trodAll_nil r0
 obtain rfl:args=#[v0]:=by cases args;simp_all
 obtain⟨rfl,rfl⟩:=trodVars_none hV
 have lt0:∀x∈p0,x.block<W.heap.size:=by obtain⟨m,hm⟩:=h0;exact DataW.trod_lt m _ _ _ hm
 obtain⟨c0,rfl,_⟩:=okWide_struct Tryz.underlying25 (hval 0 25 v0 rfl rfl)
 obtain⟨x0,o0⟩:∃t:Tr,RdV (Fz W) .tree t (.agg c0):=by obtain⟨fu,hf⟩:=h0;obtain⟨t,hx⟩:=FK _ _ _ hf (KH hZ (j:=0) rfl rfl);exact⟨t,QD hx⟩
 clear jP hval0
 refine(Hu (Ix hg (LZ hL) rfl) (zq o0 zy)).mono λe W' ⟨he,bel⟩=>?_
 subst he
 exact⟨_,rfl,_,_,_,[],_,[],hW',trodAll_mk1 (shut_bool Tryz.underlying4 _),(trodAll_cons_mk (Below.trod Tryz.laidOut (by kernel_rfl) (of_decide_eq_true (by kernel_rfl)) h0 bel lt0) trodAll_mk0),rfl,bel.frame _,λh=>by cases h⟩
/- Closed facts, each by itself: the kernel gives its memory back behind each. -/
theorem GU:(Rows.treeFromsRow.inPlace==Tryz.pinned.checked.prog.inPlace 3)=true:=by kernel_rfl
theorem Sr:(Rows.treeFromsRow.unfollowed==Tryz.pinned.checked.prog.unfollowed 3)=true:=by kernel_rfl
theorem Su:(Rows.treeFromsRow.recurses==Tryz.pinned.checked.prog.recurses 3)=true:=by kernel_rfl
theorem Ri:(Rows.treeFromsRow.named==Tryz.pinned.checked.prog.varsNamed 3)=true:=by kernel_rfl
theorem KB:joinedFacts Tryz.pinned.checked.prog 3 Tryz.f3 Rows.treeFromsSpec Rows.treeFromsRow=true:=by
 unfold joinedFacts
 rw[GU,Sr,Su,Ri]
 kernel_rfl
theorem closedB_TreeFroms:Tryz.pinned.checked.prog.funcNamed Rows.treeFromsRow.func=some 3:=by kernel_rfl
theorem Re:Tryz.f3.isInstance Tryz.pinned.checked.prog Rows.treeFromsRow.origin Rows.treeFromsRow.targs:=of_decide_eq_true (by kernel_rfl)
theorem Od:Tryz.f3.isWrapper Tryz.pinned.checked.prog Rows.treeFromsRow.wrapper Rows.treeFromsRow.mainSum:=by
 unfold Func.isWrapper;first|(rw[if_pos (by decide +kernel)];kernel_rfl)|(rw[if_neg (by decide +kernel)];exact⟨rfl,rfl⟩)
theorem P7:Rows.treeFromsRow.wfByText (OpenSpec.ofChange Rows.treeFromsSpec)=true:=by kernel_rfl
theorem G5 : Tryz.pinned.checked.prog.mainIs = some (true, "d4aba09234a65c7f4d29bd0d864b029f59306d85c0a3492698ddf1dfb64c2b83".toList) := by kernel_rfl
theorem OG:true=Tryz.pinned.checked.prog.looks []:=by kernel_rfl
theorem TN:false=Rows.treeFromsRow.goesBy Tryz.pinned.checked.prog:=by kernel_rfl
theorem IN:([25].all λu=>!Tryz.prog.wantsStandIn u)=true:=by kernel_rfl
theorem NX:Rows.treeFromsRow.holds Tryz.pinned (OpenSpec.ofChange Rows.treeFromsSpec):=
 OpenClaim.holds_of_wide 3 Tryz.f3 rfl rfl rfl rfl rfl rfl rfl ⟨rfl,rfl,rfl,rfl,rfl⟩ rfl rfl rfl rfl rfl closedB_TreeFroms Tryz.func3 KB Re Od
  (λos started H enc _=>Nz os started H enc)
theorem TreeFromsProved:Rows.TreeFromsCardSaid:=
 Claim7.holds_tied_plain_at .later [] [.data, .data, .data, .data, .sentinel, .sentinel, .pinned] true (true, "d4aba09234a65c7f4d29bd0d864b029f59306d85c0a3492698ddf1dfb64c2b83") true
  NX (λ_ h=>by cases h) P7 (λ_ h=>by cases h) treeFroms_row_tie rfl ⟨rfl,rfl⟩ G5 rfl
  (λf fn hf hfn=>by
   obtain rfl:f=3:=Option.some.inj (closedB_TreeFroms.symm.trans hf) |>.symm
   obtain rfl:fn=Tryz.f3:=(Option.some.inj (Tryz.func3.symm.trans hfn)).symm
   exact⟨OG,λj t ht=>by
    rw[Tryz.params3]at ht
    have hm:t∈[25]:=by simpa using Array.mem_of_getElem? ht
    exact(show Tryz.prog.wantsStandIn t=false by simpa using List.all_eq_true.1 IN t hm)⟩)
  TN
#print axioms TreeFromsProved
end Go.Proofs.YtplilfikcimcbaaGreatDoor
