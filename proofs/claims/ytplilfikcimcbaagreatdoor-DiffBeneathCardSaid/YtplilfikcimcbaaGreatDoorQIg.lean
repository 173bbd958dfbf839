/- The law DiffBeneath returns true at every input, and each argument reads afterwards as it read before. No condition. -/
import Derived.Test.YtplilfikcimcbaaGreatDoorPgF
namespace Go.Proofs.YtplilfikcimcbaaGreatDoor
open Go Go.X Go.ChangeShapes Go.WideShapes Go.ChangeAt Go.RowKit
open Go.ChangeMaps (open_string shut_string)
set_option linter.unusedVariables false
set_option maxRecDepth 100000 in
theorem Km (os:Os) (started:os.Started) (H:Type) (enc:TypeId×Value->H):
  ReturnsInHanded {} Tryz.checked os 9 .any (λw args=>(Rows.diffBeneathSpec.pre enc Tryz.prog Tryz.f9 Rows.diffBeneathRow.domain false w args/\laidMetH Tryz.prog kE w)/\sizedMet enc Tryz.prog Tryz.f9 (OpenSpec.ofChange Rows.diffBeneathSpec) false w args)
   (Rows.diffBeneathSpec.post enc Tryz.prog Tryz.f9 false true false false):=by
 refine RU (C:=Tryz.checked) (X:=λw _=>laidMetH Tryz.prog kE w) (λ_ _ _ hh h=>h.of_heap hh) Tryz.own started (by kernel_rfl) Tryz.func9
  (ChangeSpec.witness_shaped (enc:=enc) (C:=Tryz.checked) (os:=os) (X:=λw _=>laidMetH Tryz.prog kE w) false (uc os) #[.agg #[.int .i64 0,.string ⟨#[]⟩,.slice none 0 0,.slice none 0 0],.agg #[.int .i64 0,.string ⟨#[]⟩,.slice none 0 0,.slice none 0 0],.string ⟨#[]⟩] 8 (World.laidAll_os _ _ _) (PQ os _) (by kernel_rfl) (by kernel_rfl) (by kernel_rfl) (JW os _)) ?_
 intro W base args ds gs before hval0 hW hZ hL hS
 have hg:=OP hL hS
 have hval:∀(j:Nat) t v,Tryz.f9.params[j]?=some t->args[j]?=some v->Value.okWide Tryz.prog W .any base t v:=hval0
 have hW':=hW
 obtain⟨p,q,nX,hV,rfl,hfz,hnd⟩:=hW
 have hA:DataW.TrodAll enc Tryz.prog W 0 (λ_=>true) true Tryz.f9.params.toList args.toList ds p:=nX
 rw[Tryz.params9]at hA hval
 obtain⟨v0,vs0,d0,ds0,p0,q0,hargs,rfl,rfl,h0,r0⟩:=trodAll_cons hA
 obtain⟨v1,vs1,d1,ds1,p1,q1,rfl,rfl,rfl,h1,r1⟩:=trodAll_cons r0
 obtain⟨v2,vs2,d2,ds2,p2,q2,rfl,rfl,rfl,h2,r2⟩:=trodAll_cons r1
 obtain⟨rfl,rfl,rfl⟩:=trodAll_nil r2
 obtain rfl:args=#[v0,v1,v2]:=by cases args;simp_all
 obtain⟨rfl,rfl⟩:=trodVars_none hV
 have lt0:∀x∈p0,x.block<W.heap.size:=by obtain⟨m,hm⟩:=h0;exact DataW.trod_lt m _ _ _ hm
 have lt1:∀x∈p1,x.block<W.heap.size:=by obtain⟨m,hm⟩:=h1;exact DataW.trod_lt m _ _ _ hm
 have lt2:∀x∈p2,x.block<W.heap.size:=by obtain⟨m,hm⟩:=h2;exact DataW.trod_lt m _ _ _ hm
 obtain⟨c0,rfl,_⟩:=okWide_struct Tryz.underlying25 (hval 0 25 v0 rfl rfl)
 obtain⟨x0,o0⟩:∃t:Tr,RdV (Fz W) .tree t (.agg c0):=by obtain⟨fu,hf⟩:=h0;obtain⟨t,hx⟩:=DG _ _ _ hf (C7 hZ (j:=0) rfl rfl);exact⟨t,Gr hx⟩
 obtain⟨c1,rfl,_⟩:=okWide_struct Tryz.underlying25 (hval 1 25 v1 rfl rfl)
 obtain⟨x1,o1⟩:∃t:Tr,RdV (Fz W) .tree t (.agg c1):=by obtain⟨fu,hf⟩:=h1;obtain⟨t,hx⟩:=DG _ _ _ hf (C7 hZ (j:=1) rfl rfl);exact⟨t,Gr hx⟩
 obtain⟨x2,rfl,rfl,rfl,w2⟩:=open_string Tryz.underlying9 (hval 2 9 v2 rfl rfl) h2
 have o2:RdV (Fz W) .str x2 (.string x2):=rdStr x2
 clear nX hval0
 refine(Ma (Me hg (LC hL) rfl) (zh o0 (zh o1 (zh o2 zy)))).mono λe W' ⟨he,bel⟩=>?_
 subst he
 exact⟨_,rfl,_,_,_,[],_,[],hW',trodAll_mk1 (shut_bool Tryz.underlying4 _),(trodAll_cons_mk (Below.trod Tryz.laidOut (by kernel_rfl) (of_decide_eq_true (by kernel_rfl)) h0 bel lt0) (trodAll_cons_mk (Below.trod Tryz.laidOut (by kernel_rfl) (of_decide_eq_true (by kernel_rfl)) h1 bel lt1) (trodAll_cons_mk (Below.trod Tryz.laidOut (by kernel_rfl) (of_decide_eq_true (by kernel_rfl)) h2 bel lt2) trodAll_mk0))),rfl,bel.frame _,λh=>by cases h⟩
/- Closed facts, each by itself: the kernel gives its memory back behind each. -/
theorem Xx:(Rows.diffBeneathRow.inPlace==Tryz.pinned.checked.prog.inPlace 9)=true:=by kernel_rfl
theorem Xy:(Rows.diffBeneathRow.unfollowed==Tryz.pinned.checked.prog.unfollowed 9)=true:=by kernel_rfl
theorem Xz:(Rows.diffBeneathRow.recurses==Tryz.pinned.checked.prog.recurses 9)=true:=by kernel_rfl
theorem X0:(Rows.diffBeneathRow.named==Tryz.pinned.checked.prog.varsNamed 9)=true:=by kernel_rfl
theorem PU:joinedFacts Tryz.pinned.checked.prog 9 Tryz.f9 Rows.diffBeneathSpec Rows.diffBeneathRow=true:=by
 unfold joinedFacts
 rw[Xx,Xy,Xz,X0]
 kernel_rfl
theorem closedB_DiffBeneath:Tryz.pinned.checked.prog.funcNamed Rows.diffBeneathRow.func=some 9:=by kernel_rfl
theorem MP:Tryz.f9.isInstance Tryz.pinned.checked.prog Rows.diffBeneathRow.origin Rows.diffBeneathRow.targs:=of_decide_eq_true (by kernel_rfl)
theorem RJ:Tryz.f9.isWrapper Tryz.pinned.checked.prog Rows.diffBeneathRow.wrapper Rows.diffBeneathRow.mainSum:=by
 unfold Func.isWrapper;first|(rw[if_pos (by decide +kernel)];kernel_rfl)|(rw[if_neg (by decide +kernel)];exact⟨rfl,rfl⟩)
theorem Pn:Rows.diffBeneathRow.wfByText (OpenSpec.ofChange Rows.diffBeneathSpec)=true:=by kernel_rfl
theorem OI : Tryz.pinned.checked.prog.mainIs = some (true, "d4aba09234a65c7f4d29bd0d864b029f59306d85c0a3492698ddf1dfb64c2b83".toList) := by kernel_rfl
theorem GW:true=Tryz.pinned.checked.prog.looks []:=by kernel_rfl
theorem IZ:false=Rows.diffBeneathRow.goesBy Tryz.pinned.checked.prog:=by kernel_rfl
theorem Li:([25,25,9].all λu=>!Tryz.prog.wantsStandIn u)=true:=by kernel_rfl
theorem RF:Rows.diffBeneathRow.holds Tryz.pinned (OpenSpec.ofChange Rows.diffBeneathSpec):=
 OpenClaim.holds_of_wide 9 Tryz.f9 rfl rfl rfl rfl rfl rfl rfl ⟨rfl,rfl,rfl,rfl,rfl⟩ rfl rfl rfl rfl rfl closedB_DiffBeneath Tryz.func9 PU MP RJ
  (λos started H enc _=>Km os started H enc)
theorem DiffBeneathProved:Rows.DiffBeneathCardSaid:=
 Claim7.holds_tied_plain_at .later [] [.data, .data, .data, .data, .sentinel, .sentinel, .pinned] true (true, "d4aba09234a65c7f4d29bd0d864b029f59306d85c0a3492698ddf1dfb64c2b83") true
  RF (λ_ h=>by cases h) Pn (λ_ h=>by cases h) diffBeneath_row_tie rfl ⟨rfl,rfl⟩ OI rfl
  (λf fn hf hfn=>by
   obtain rfl:f=9:=Option.some.inj (closedB_DiffBeneath.symm.trans hf) |>.symm
   obtain rfl:fn=Tryz.f9:=(Option.some.inj (Tryz.func9.symm.trans hfn)).symm
   exact⟨GW,λj t ht=>by
    rw[Tryz.params9]at ht
    have hm:t∈[25,25,9]:=by simpa using Array.mem_of_getElem? ht
    exact(show Tryz.prog.wantsStandIn t=false by simpa using List.all_eq_true.1 Li t hm)⟩)
  IZ
#print axioms DiffBeneathProved
end Go.Proofs.YtplilfikcimcbaaGreatDoor
