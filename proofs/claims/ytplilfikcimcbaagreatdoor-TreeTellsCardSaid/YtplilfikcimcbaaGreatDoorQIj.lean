/- The law TreeTells returns true at every input, and each argument reads afterwards as it read before. No condition. -/
import Derived.Test.YtplilfikcimcbaaGreatDoorPjF
namespace Go.Proofs.YtplilfikcimcbaaGreatDoor
open Go Go.X Go.ChangeShapes Go.WideShapes Go.ChangeAt Go.RowKit
open Go.ChangeMaps (open_string shut_string)
set_option linter.unusedVariables false
set_option maxRecDepth 100000 in
theorem IA (os:Os) (started:os.Started) (H:Type) (enc:TypeId×Value->H):
  ReturnsInHanded {} Tryz.checked os 4 .any (λw args=>(Rows.treeTellsSpec.pre enc Tryz.prog Tryz.f4 Rows.treeTellsRow.domain false w args/\laidMetH Tryz.prog iz w)/\sizedMet enc Tryz.prog Tryz.f4 (OpenSpec.ofChange Rows.treeTellsSpec) false w args)
   (Rows.treeTellsSpec.post enc Tryz.prog Tryz.f4 false true false false):=by
 refine LG (C:=Tryz.checked) (X:=λw _=>laidMetH Tryz.prog iz w) (λ_ _ _ hh h=>h.of_heap hh) Tryz.own started (by kernel_rfl) Tryz.func4
  (ChangeSpec.witness_shaped (enc:=enc) (C:=Tryz.checked) (os:=os) (X:=λw _=>laidMetH Tryz.prog iz w) false (uy os) #[.agg #[.slice none 0 0,.slice none 0 0]] 8 (World.laidAll_os _ _ _) (OD os _) (by kernel_rfl) (by kernel_rfl) (by kernel_rfl) (Mc os _)) ?_
 intro W base args ds gs before hval0 hW hZ hL hS
 have hg:=QU hL hS
 have hval:∀(j:Nat) t v,Tryz.f4.params[j]?=some t->args[j]?=some v->Value.okWide Tryz.prog W .any base t v:=hval0
 have hW':=hW
 obtain⟨p,q,l8,hV,rfl,hfz,hnd⟩:=hW
 have hA:DataW.TrodAll enc Tryz.prog W 0 (λ_=>true) true Tryz.f4.params.toList args.toList ds p:=l8
 rw[Tryz.params4]at hA hval
 obtain⟨v0,vs0,d0,ds0,p0,q0,hargs,rfl,rfl,h0,r0⟩:=trodAll_cons hA
 obtain⟨rfl,rfl,rfl⟩:=trodAll_nil r0
 obtain rfl:args=#[v0]:=by cases args;simp_all
 obtain⟨rfl,rfl⟩:=trodVars_none hV
 have lt0:∀x∈p0,x.block<W.heap.size:=by obtain⟨m,hm⟩:=h0;exact DataW.trod_lt m _ _ _ hm
 obtain⟨c0,rfl,_⟩:=okWide_struct Tryz.underlying31 (hval 0 31 v0 rfl rfl)
 obtain⟨x0,o0⟩:∃t:List ByteArray×List Int,RdV (Fz W) (.pair (.row .str) (.row (.int .i64))) t (.agg c0):=by obtain⟨fu,hf⟩:=h0;obtain⟨t,hx⟩:=SA hf (Lq hZ (j:=0) rfl rfl);exact⟨t,LF hx⟩
 clear l8 hval0
 refine(U3 (VO hg (SJ hL) rfl) (zn o0 zw)).mono λe W' ⟨he,bel⟩=>?_
 subst he
 exact⟨_,rfl,_,_,_,[],_,[],hW',trodAll_mk1 (shut_bool Tryz.underlying4 _),(trodAll_cons_mk (Below.trod Tryz.laidOut (by kernel_rfl) (of_decide_eq_true (by kernel_rfl)) h0 bel lt0) trodAll_mk0),rfl,bel.frame _,λh=>by cases h⟩
/- Closed facts, each by itself: the kernel gives its memory back behind each. -/
theorem Mk:(Rows.treeTellsRow.inPlace==Tryz.pinned.checked.prog.inPlace 4)=true:=by kernel_rfl
theorem SH:(Rows.treeTellsRow.unfollowed==Tryz.pinned.checked.prog.unfollowed 4)=true:=by kernel_rfl
theorem N4:(Rows.treeTellsRow.recurses==Tryz.pinned.checked.prog.recurses 4)=true:=by kernel_rfl
theorem Rj:(Rows.treeTellsRow.named==Tryz.pinned.checked.prog.varsNamed 4)=true:=by kernel_rfl
theorem MN:joinedFacts Tryz.pinned.checked.prog 4 Tryz.f4 Rows.treeTellsSpec Rows.treeTellsRow=true:=by
 unfold joinedFacts
 rw[Mk,SH,N4,Rj]
 kernel_rfl
theorem closedB_TreeTells:Tryz.pinned.checked.prog.funcNamed Rows.treeTellsRow.func=some 4:=by kernel_rfl
theorem Nv:Tryz.f4.isInstance Tryz.pinned.checked.prog Rows.treeTellsRow.origin Rows.treeTellsRow.targs:=of_decide_eq_true (by kernel_rfl)
theorem So:Tryz.f4.isWrapper Tryz.pinned.checked.prog Rows.treeTellsRow.wrapper Rows.treeTellsRow.mainSum:=by
 unfold Func.isWrapper;first|(rw[if_pos (by decide +kernel)];kernel_rfl)|(rw[if_neg (by decide +kernel)];exact⟨rfl,rfl⟩)
theorem Um:Rows.treeTellsRow.wfByText (OpenSpec.ofChange Rows.treeTellsSpec)=true:=by kernel_rfl
theorem Pa : Tryz.pinned.checked.prog.mainIs = some (true, "d4aba09234a65c7f4d29bd0d864b029f59306d85c0a3492698ddf1dfb64c2b83".toList) := by kernel_rfl
theorem II:true=Tryz.pinned.checked.prog.looks []:=by kernel_rfl
theorem JF:false=Rows.treeTellsRow.goesBy Tryz.pinned.checked.prog:=by kernel_rfl
theorem WT:([31].all λu=>!Tryz.prog.wantsStandIn u)=true:=by kernel_rfl
theorem XK:Rows.treeTellsRow.holds Tryz.pinned (OpenSpec.ofChange Rows.treeTellsSpec):=
 OpenClaim.holds_of_wide 4 Tryz.f4 rfl rfl rfl rfl rfl rfl rfl ⟨rfl,rfl,rfl,rfl,rfl⟩ rfl rfl rfl rfl rfl closedB_TreeTells Tryz.func4 MN Nv So
  (λos started H enc _=>IA os started H enc)
theorem TreeTellsProved:Rows.TreeTellsCardSaid:=
 Claim7.holds_tied_plain_at .later [] [.data, .data, .data, .data, .sentinel, .sentinel, .pinned] true (true, "d4aba09234a65c7f4d29bd0d864b029f59306d85c0a3492698ddf1dfb64c2b83") true
  XK (λ_ h=>by cases h) Um (λ_ h=>by cases h) treeTells_row_tie rfl ⟨rfl,rfl⟩ Pa rfl
  (λf fn hf hfn=>by
   obtain rfl:f=4:=Option.some.inj (closedB_TreeTells.symm.trans hf) |>.symm
   obtain rfl:fn=Tryz.f4:=(Option.some.inj (Tryz.func4.symm.trans hfn)).symm
   exact⟨II,λj t ht=>by
    rw[Tryz.params4]at ht
    have hm:t∈[31]:=by simpa using Array.mem_of_getElem? ht
    exact(show Tryz.prog.wantsStandIn t=false by simpa using List.all_eq_true.1 WT t hm)⟩)
  JF
#print axioms TreeTellsProved
end Go.Proofs.YtplilfikcimcbaaGreatDoor
