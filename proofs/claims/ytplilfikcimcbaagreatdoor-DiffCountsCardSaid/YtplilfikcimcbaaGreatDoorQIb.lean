/- The law DiffCounts returns true at every input, and each argument reads afterwards as it read before. No condition. -/
import Derived.Test.YtplilfikcimcbaaGreatDoorPdG
namespace Go.Proofs.YtplilfikcimcbaaGreatDoor
open Go Go.X Go.ChangeShapes Go.WideShapes Go.ChangeAt Go.RowKit
open Go.ChangeMaps (open_string shut_string)
set_option linter.unusedVariables false
set_option maxRecDepth 100000 in
theorem RI (os:Os) (started:os.Started) (H:Type) (enc:TypeId×Value->H):
  ReturnsInHanded {} Tryz.checked os 7 .any (λw args=>(Rows.diffCountsSpec.pre enc Tryz.prog Tryz.f7 Rows.diffCountsRow.domain false w args/\laidMetH Tryz.prog jZ w)/\sizedMet enc Tryz.prog Tryz.f7 (OpenSpec.ofChange Rows.diffCountsSpec) false w args)
   (Rows.diffCountsSpec.post enc Tryz.prog Tryz.f7 false true false false):=by
 refine HL (C:=Tryz.checked) (X:=λw _=>laidMetH Tryz.prog jZ w) (λ_ _ _ hh h=>h.of_heap hh) Tryz.own started (by kernel_rfl) Tryz.func7
  (ChangeSpec.witness_shaped (enc:=enc) (C:=Tryz.checked) (os:=os) (X:=λw _=>laidMetH Tryz.prog jZ w) false (t8 os) #[.agg #[.int .i64 0,.string ⟨#[]⟩,.slice none 0 0,.slice none 0 0],.agg #[.int .i64 0,.string ⟨#[]⟩,.slice none 0 0,.slice none 0 0]] 8 (World.laidAll_os _ _ _) (Gu os _) (by kernel_rfl) (by kernel_rfl) (by kernel_rfl) (Cu os _)) ?_
 intro W base args ds gs before hval0 hW hZ hL hS
 have hg:=Dl hL hS
 have hval:∀(j:Nat) t v,Tryz.f7.params[j]?=some t->args[j]?=some v->Value.okWide Tryz.prog W .any base t v:=hval0
 have hW':=hW
 obtain⟨p,q,mo,hV,rfl,hfz,hnd⟩:=hW
 have hA:DataW.TrodAll enc Tryz.prog W 0 (λ_=>true) true Tryz.f7.params.toList args.toList ds p:=mo
 rw[Tryz.params7]at hA hval
 obtain⟨v0,vs0,d0,ds0,p0,q0,hargs,rfl,rfl,h0,r0⟩:=trodAll_cons hA
 obtain⟨v1,vs1,d1,ds1,p1,q1,rfl,rfl,rfl,h1,r1⟩:=trodAll_cons r0
 obtain⟨rfl,rfl,rfl⟩:=trodAll_nil r1
 obtain rfl:args=#[v0,v1]:=by cases args;simp_all
 obtain⟨rfl,rfl⟩:=trodVars_none hV
 have lt0:∀x∈p0,x.block<W.heap.size:=by obtain⟨m,hm⟩:=h0;exact DataW.trod_lt m _ _ _ hm
 have lt1:∀x∈p1,x.block<W.heap.size:=by obtain⟨m,hm⟩:=h1;exact DataW.trod_lt m _ _ _ hm
 obtain⟨c0,rfl,_⟩:=okWide_struct Tryz.underlying25 (hval 0 25 v0 rfl rfl)
 obtain⟨x0,o0⟩:∃t:Tr,RdV (Fz W) .tree t (.agg c0):=by obtain⟨fu,hf⟩:=h0;obtain⟨t,hx⟩:=xN _ _ _ hf (Am hZ (j:=0) rfl rfl);exact⟨t,FK hx⟩
 obtain⟨c1,rfl,_⟩:=okWide_struct Tryz.underlying25 (hval 1 25 v1 rfl rfl)
 obtain⟨x1,o1⟩:∃t:Tr,RdV (Fz W) .tree t (.agg c1):=by obtain⟨fu,hf⟩:=h1;obtain⟨t,hx⟩:=xN _ _ _ hf (Am hZ (j:=1) rfl rfl);exact⟨t,FK hx⟩
 clear mo hval0
 refine(Dh (N2 hg (Fh hL) rfl) (qk o0 (qk o1 ym))).mono λe W' ⟨he,bel⟩=>?_
 subst he
 exact⟨_,rfl,_,_,_,[],_,[],hW',trodAll_mk1 (shut_bool Tryz.underlying4 _),(trodAll_cons_mk (Below.trod Tryz.laidOut (by kernel_rfl) (of_decide_eq_true (by kernel_rfl)) h0 bel lt0) (trodAll_cons_mk (Below.trod Tryz.laidOut (by kernel_rfl) (of_decide_eq_true (by kernel_rfl)) h1 bel lt1) trodAll_mk0)),rfl,bel.frame _,λh=>by cases h⟩
/- Closed facts, each by itself: the kernel gives its memory back behind each. -/
theorem Us:(Rows.diffCountsRow.inPlace==Tryz.pinned.checked.prog.inPlace 7)=true:=by kernel_rfl
theorem NC:(Rows.diffCountsRow.unfollowed==Tryz.pinned.checked.prog.unfollowed 7)=true:=by kernel_rfl
theorem MJ:(Rows.diffCountsRow.recurses==Tryz.pinned.checked.prog.recurses 7)=true:=by kernel_rfl
theorem OJ:(Rows.diffCountsRow.named==Tryz.pinned.checked.prog.varsNamed 7)=true:=by kernel_rfl
theorem Lc:joinedFacts Tryz.pinned.checked.prog 7 Tryz.f7 Rows.diffCountsSpec Rows.diffCountsRow=true:=by
 unfold joinedFacts
 rw[Us,NC,MJ,OJ]
 kernel_rfl
theorem closedB_DiffCounts:Tryz.pinned.checked.prog.funcNamed Rows.diffCountsRow.func=some 7:=by kernel_rfl
theorem Vs:Tryz.f7.isInstance Tryz.pinned.checked.prog Rows.diffCountsRow.origin Rows.diffCountsRow.targs:=of_decide_eq_true (by kernel_rfl)
theorem Vu:Tryz.f7.isWrapper Tryz.pinned.checked.prog Rows.diffCountsRow.wrapper Rows.diffCountsRow.mainSum:=by
 unfold Func.isWrapper;first|(rw[if_pos (by decide +kernel)];kernel_rfl)|(rw[if_neg (by decide +kernel)];exact⟨rfl,rfl⟩)
theorem Ug:Rows.diffCountsRow.wfByText (OpenSpec.ofChange Rows.diffCountsSpec)=true:=by kernel_rfl
theorem WY : Tryz.pinned.checked.prog.mainIs = some (true, "d4aba09234a65c7f4d29bd0d864b029f59306d85c0a3492698ddf1dfb64c2b83".toList) := by kernel_rfl
theorem XM:true=Tryz.pinned.checked.prog.looks []:=by kernel_rfl
theorem XH:false=Rows.diffCountsRow.goesBy Tryz.pinned.checked.prog:=by kernel_rfl
theorem UK:([25,25].all λu=>!Tryz.prog.wantsStandIn u)=true:=by kernel_rfl
theorem P7:Rows.diffCountsRow.holds Tryz.pinned (OpenSpec.ofChange Rows.diffCountsSpec):=
 OpenClaim.holds_of_wide 7 Tryz.f7 rfl rfl rfl rfl rfl rfl rfl ⟨rfl,rfl,rfl,rfl,rfl⟩ rfl rfl rfl rfl rfl closedB_DiffCounts Tryz.func7 Lc Vs Vu
  (λos started H enc _=>RI os started H enc)
theorem DiffCountsProved:Rows.DiffCountsCardSaid:=
 Claim7.holds_tied_plain_at .later [] [.data, .data, .data, .data, .sentinel, .sentinel, .pinned] true (true, "d4aba09234a65c7f4d29bd0d864b029f59306d85c0a3492698ddf1dfb64c2b83") true
  P7 (λ_ h=>by cases h) Ug (λ_ h=>by cases h) diffCounts_row_tie rfl ⟨rfl,rfl⟩ WY rfl
  (λf fn hf hfn=>by
   obtain rfl:f=7:=Option.some.inj (closedB_DiffCounts.symm.trans hf) |>.symm
   obtain rfl:fn=Tryz.f7:=(Option.some.inj (Tryz.func7.symm.trans hfn)).symm
   exact⟨XM,λj t ht=>by
    rw[Tryz.params7]at ht
    have hm:t∈[25,25]:=by simpa using Array.mem_of_getElem? ht
    exact(show Tryz.prog.wantsStandIn t=false by simpa using List.all_eq_true.1 UK t hm)⟩)
  XH
#print axioms DiffCountsProved
end Go.Proofs.YtplilfikcimcbaaGreatDoor
