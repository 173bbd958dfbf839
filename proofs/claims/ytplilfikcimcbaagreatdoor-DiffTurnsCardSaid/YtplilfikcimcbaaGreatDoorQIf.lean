/- The law DiffTurns returns true at every input, and each argument reads afterwards as it read before. No condition. -/
import Derived.Test.YtplilfikcimcbaaGreatDoorPfG
namespace Go.Proofs.YtplilfikcimcbaaGreatDoor
open Go Go.X Go.ChangeShapes Go.WideShapes Go.ChangeAt Go.RowKit
open Go.ChangeMaps (open_string shut_string)
set_option linter.unusedVariables false
set_option maxRecDepth 100000 in
theorem LP (os:Os) (started:os.Started) (H:Type) (enc:TypeId×Value->H):
  ReturnsInHanded {} Tryz.checked os 10 .any (λw args=>(Rows.diffTurnsSpec.pre enc Tryz.prog Tryz.f10 Rows.diffTurnsRow.domain false w args/\laidMetH Tryz.prog kI w)/\sizedMet enc Tryz.prog Tryz.f10 (OpenSpec.ofChange Rows.diffTurnsSpec) false w args)
   (Rows.diffTurnsSpec.post enc Tryz.prog Tryz.f10 false true false false):=by
 refine Lh (C:=Tryz.checked) (X:=λw _=>laidMetH Tryz.prog kI w) (λ_ _ _ hh h=>h.of_heap hh) Tryz.own started (by kernel_rfl) Tryz.func10
  (ChangeSpec.witness_shaped (enc:=enc) (C:=Tryz.checked) (os:=os) (X:=λw _=>laidMetH Tryz.prog kI w) false (Bz os) #[.agg #[.int .i64 0,.string ⟨#[]⟩,.slice none 0 0,.slice none 0 0],.agg #[.int .i64 0,.string ⟨#[]⟩,.slice none 0 0,.slice none 0 0]] 8 (World.laidAll_os _ _ _) (YV os _) (by kernel_rfl) (by kernel_rfl) (by kernel_rfl) (Lm os _)) ?_
 intro W base args ds gs before hval0 hW hZ hL hS
 have hg:=ZQ hL hS
 have hval:∀(j:Nat) t v,Tryz.f10.params[j]?=some t->args[j]?=some v->Value.okWide Tryz.prog W .any base t v:=hval0
 have hW':=hW
 obtain⟨p,q,oV,hV,rfl,hfz,hnd⟩:=hW
 have hA:DataW.TrodAll enc Tryz.prog W 0 (λ_=>true) true Tryz.f10.params.toList args.toList ds p:=oV
 rw[Tryz.params10]at hA hval
 obtain⟨v0,vs0,d0,ds0,p0,q0,hargs,rfl,rfl,h0,r0⟩:=trodAll_cons hA
 obtain⟨v1,vs1,d1,ds1,p1,q1,rfl,rfl,rfl,h1,r1⟩:=trodAll_cons r0
 obtain⟨rfl,rfl,rfl⟩:=trodAll_nil r1
 obtain rfl:args=#[v0,v1]:=by cases args;simp_all
 obtain⟨rfl,rfl⟩:=trodVars_none hV
 have lt0:∀x∈p0,x.block<W.heap.size:=by obtain⟨m,hm⟩:=h0;exact DataW.trod_lt m _ _ _ hm
 have lt1:∀x∈p1,x.block<W.heap.size:=by obtain⟨m,hm⟩:=h1;exact DataW.trod_lt m _ _ _ hm
 obtain⟨c0,rfl,_⟩:=okWide_struct Tryz.underlying25 (hval 0 25 v0 rfl rfl)
 obtain⟨x0,o0⟩:∃t:Tr,RdV (Fz W) .tree t (.agg c0):=by obtain⟨fu,hf⟩:=h0;obtain⟨t,hx⟩:=Im _ _ _ hf (CQ hZ (j:=0) rfl rfl);exact⟨t,FA hx⟩
 obtain⟨c1,rfl,_⟩:=okWide_struct Tryz.underlying25 (hval 1 25 v1 rfl rfl)
 obtain⟨x1,o1⟩:∃t:Tr,RdV (Fz W) .tree t (.agg c1):=by obtain⟨fu,hf⟩:=h1;obtain⟨t,hx⟩:=Im _ _ _ hf (CQ hZ (j:=1) rfl rfl);exact⟨t,FA hx⟩
 clear oV hval0
 refine(Vq (N9 hg (MN hL) rfl) (zr o0 (zr o1 qj))).mono λe W' ⟨he,bel⟩=>?_
 subst he
 exact⟨_,rfl,_,_,_,[],_,[],hW',trodAll_mk1 (shut_bool Tryz.underlying4 _),(trodAll_cons_mk (Below.trod Tryz.laidOut (by kernel_rfl) (of_decide_eq_true (by kernel_rfl)) h0 bel lt0) (trodAll_cons_mk (Below.trod Tryz.laidOut (by kernel_rfl) (of_decide_eq_true (by kernel_rfl)) h1 bel lt1) trodAll_mk0)),rfl,bel.frame _,λh=>by cases h⟩
/- Closed facts, each by itself: the kernel gives its memory back behind each. -/
theorem V2:(Rows.diffTurnsRow.inPlace==Tryz.pinned.checked.prog.inPlace 10)=true:=by kernel_rfl
theorem Tv:(Rows.diffTurnsRow.unfollowed==Tryz.pinned.checked.prog.unfollowed 10)=true:=by kernel_rfl
theorem Pk:(Rows.diffTurnsRow.recurses==Tryz.pinned.checked.prog.recurses 10)=true:=by kernel_rfl
theorem Rx:(Rows.diffTurnsRow.named==Tryz.pinned.checked.prog.varsNamed 10)=true:=by kernel_rfl
theorem On:joinedFacts Tryz.pinned.checked.prog 10 Tryz.f10 Rows.diffTurnsSpec Rows.diffTurnsRow=true:=by
 unfold joinedFacts
 rw[V2,Tv,Pk,Rx]
 kernel_rfl
theorem closedB_DiffTurns:Tryz.pinned.checked.prog.funcNamed Rows.diffTurnsRow.func=some 10:=by kernel_rfl
theorem VP:Tryz.f10.isInstance Tryz.pinned.checked.prog Rows.diffTurnsRow.origin Rows.diffTurnsRow.targs:=of_decide_eq_true (by kernel_rfl)
theorem Pu:Tryz.f10.isWrapper Tryz.pinned.checked.prog Rows.diffTurnsRow.wrapper Rows.diffTurnsRow.mainSum:=by
 unfold Func.isWrapper;first|(rw[if_pos (by decide +kernel)];kernel_rfl)|(rw[if_neg (by decide +kernel)];exact⟨rfl,rfl⟩)
theorem QJ:Rows.diffTurnsRow.wfByText (OpenSpec.ofChange Rows.diffTurnsSpec)=true:=by kernel_rfl
theorem Sr : Tryz.pinned.checked.prog.mainIs = some (true, "d4aba09234a65c7f4d29bd0d864b029f59306d85c0a3492698ddf1dfb64c2b83".toList) := by kernel_rfl
theorem Pw:true=Tryz.pinned.checked.prog.looks []:=by kernel_rfl
theorem WZ:false=Rows.diffTurnsRow.goesBy Tryz.pinned.checked.prog:=by kernel_rfl
theorem Rz:([25,25].all λu=>!Tryz.prog.wantsStandIn u)=true:=by kernel_rfl
theorem MP:Rows.diffTurnsRow.holds Tryz.pinned (OpenSpec.ofChange Rows.diffTurnsSpec):=
 OpenClaim.holds_of_wide 10 Tryz.f10 rfl rfl rfl rfl rfl rfl rfl ⟨rfl,rfl,rfl,rfl,rfl⟩ rfl rfl rfl rfl rfl closedB_DiffTurns Tryz.func10 On VP Pu
  (λos started H enc _=>LP os started H enc)
theorem DiffTurnsProved:Rows.DiffTurnsCardSaid:=
 Claim7.holds_tied_plain_at .later [] [.data, .data, .data, .data, .sentinel, .sentinel, .pinned] true (true, "d4aba09234a65c7f4d29bd0d864b029f59306d85c0a3492698ddf1dfb64c2b83") true
  MP (λ_ h=>by cases h) QJ (λ_ h=>by cases h) diffTurns_row_tie rfl ⟨rfl,rfl⟩ Sr rfl
  (λf fn hf hfn=>by
   obtain rfl:f=10:=Option.some.inj (closedB_DiffTurns.symm.trans hf) |>.symm
   obtain rfl:fn=Tryz.f10:=(Option.some.inj (Tryz.func10.symm.trans hfn)).symm
   exact⟨Pw,λj t ht=>by
    rw[Tryz.params10]at ht
    have hm:t∈[25,25]:=by simpa using Array.mem_of_getElem? ht
    exact(show Tryz.prog.wantsStandIn t=false by simpa using List.all_eq_true.1 Rz t hm)⟩)
  WZ
#print axioms DiffTurnsProved
end Go.Proofs.YtplilfikcimcbaaGreatDoor
