/- The law DiffTells returns true at every input, and each argument reads afterwards as it read before. No condition. -/
import Derived.Test.YtplilfikcimcbaaGreatDoorPiF
namespace Go.Proofs.YtplilfikcimcbaaGreatDoor
open Go Go.X Go.ChangeShapes Go.WideShapes Go.ChangeAt Go.RowKit
open Go.ChangeMaps (open_string shut_string)
set_option linter.unusedVariables false
set_option maxRecDepth 100000 in
theorem PI (os:Os) (started:os.Started) (H:Type) (enc:TypeId×Value->H):
  ReturnsInHanded {} Tryz.checked os 5 .any (λw args=>(Rows.diffTellsSpec.pre enc Tryz.prog Tryz.f5 Rows.diffTellsRow.domain false w args/\laidMetH Tryz.prog lU w)/\sizedMet enc Tryz.prog Tryz.f5 (OpenSpec.ofChange Rows.diffTellsSpec) false w args)
   (Rows.diffTellsSpec.post enc Tryz.prog Tryz.f5 false true false false):=by
 refine YP (C:=Tryz.checked) (X:=λw _=>laidMetH Tryz.prog lU w) (λ_ _ _ hh h=>h.of_heap hh) Tryz.own started (by kernel_rfl) Tryz.func5
  (ChangeSpec.witness_shaped (enc:=enc) (C:=Tryz.checked) (os:=os) (X:=λw _=>laidMetH Tryz.prog lU w) false (DO os) #[.agg #[.int .i64 0,.string ⟨#[]⟩,.slice none 0 0,.slice none 0 0],.agg #[.int .i64 0,.string ⟨#[]⟩,.slice none 0 0,.slice none 0 0]] 8 (World.laidAll_os _ _ _) (Vw os _) (by kernel_rfl) (by kernel_rfl) (by kernel_rfl) (My os _)) ?_
 intro W base args ds gs before hval0 hW hZ hL hS
 have hg:=MG hL hS
 have hval:∀(j:Nat) t v,Tryz.f5.params[j]?=some t->args[j]?=some v->Value.okWide Tryz.prog W .any base t v:=hval0
 have hW':=hW
 obtain⟨p,q,py,hV,rfl,hfz,hnd⟩:=hW
 have hA:DataW.TrodAll enc Tryz.prog W 0 (λ_=>true) true Tryz.f5.params.toList args.toList ds p:=py
 rw[Tryz.params5]at hA hval
 obtain⟨v0,vs0,d0,ds0,p0,q0,hargs,rfl,rfl,h0,r0⟩:=trodAll_cons hA
 obtain⟨v1,vs1,d1,ds1,p1,q1,rfl,rfl,rfl,h1,r1⟩:=trodAll_cons r0
 obtain⟨rfl,rfl,rfl⟩:=trodAll_nil r1
 obtain rfl:args=#[v0,v1]:=by cases args;simp_all
 obtain⟨rfl,rfl⟩:=trodVars_none hV
 have lt0:∀x∈p0,x.block<W.heap.size:=by obtain⟨m,hm⟩:=h0;exact DataW.trod_lt m _ _ _ hm
 have lt1:∀x∈p1,x.block<W.heap.size:=by obtain⟨m,hm⟩:=h1;exact DataW.trod_lt m _ _ _ hm
 obtain⟨c0,rfl,_⟩:=okWide_struct Tryz.underlying25 (hval 0 25 v0 rfl rfl)
 obtain⟨x0,o0⟩:∃t:Tr,RdV (Fz W) .tree t (.agg c0):=by obtain⟨fu,hf⟩:=h0;obtain⟨t,hx⟩:=Hh _ _ _ hf (I4 hZ (j:=0) rfl rfl);exact⟨t,JH hx⟩
 obtain⟨c1,rfl,_⟩:=okWide_struct Tryz.underlying25 (hval 1 25 v1 rfl rfl)
 obtain⟨x1,o1⟩:∃t:Tr,RdV (Fz W) .tree t (.agg c1):=by obtain⟨fu,hf⟩:=h1;obtain⟨t,hx⟩:=Hh _ _ _ hf (I4 hZ (j:=1) rfl rfl);exact⟨t,JH hx⟩
 clear py hval0
 refine(Pn (z3y hg (UF hL) rfl) (zo o0 (zo o1 qc))).mono λe W' ⟨he,bel⟩=>?_
 subst he
 exact⟨_,rfl,_,_,_,[],_,[],hW',trodAll_mk1 (shut_bool Tryz.underlying4 _),(trodAll_cons_mk (Below.trod Tryz.laidOut (by kernel_rfl) (of_decide_eq_true (by kernel_rfl)) h0 bel lt0) (trodAll_cons_mk (Below.trod Tryz.laidOut (by kernel_rfl) (of_decide_eq_true (by kernel_rfl)) h1 bel lt1) trodAll_mk0)),rfl,bel.frame _,λh=>by cases h⟩
/- Closed facts, each by itself: the kernel gives its memory back behind each. -/
theorem Nl:(Rows.diffTellsRow.inPlace==Tryz.pinned.checked.prog.inPlace 5)=true:=by kernel_rfl
theorem zgy:(Rows.diffTellsRow.unfollowed==Tryz.pinned.checked.prog.unfollowed 5)=true:=by kernel_rfl
theorem PT:(Rows.diffTellsRow.recurses==Tryz.pinned.checked.prog.recurses 5)=true:=by kernel_rfl
theorem V7:(Rows.diffTellsRow.named==Tryz.pinned.checked.prog.varsNamed 5)=true:=by kernel_rfl
theorem RH:joinedFacts Tryz.pinned.checked.prog 5 Tryz.f5 Rows.diffTellsSpec Rows.diffTellsRow=true:=by
 unfold joinedFacts
 rw[Nl,zgy,PT,V7]
 kernel_rfl
theorem closedB_DiffTells:Tryz.pinned.checked.prog.funcNamed Rows.diffTellsRow.func=some 5:=by kernel_rfl
theorem VQ:Tryz.f5.isInstance Tryz.pinned.checked.prog Rows.diffTellsRow.origin Rows.diffTellsRow.targs:=of_decide_eq_true (by kernel_rfl)
theorem YS:Tryz.f5.isWrapper Tryz.pinned.checked.prog Rows.diffTellsRow.wrapper Rows.diffTellsRow.mainSum:=by
 unfold Func.isWrapper;first|(rw[if_pos (by decide +kernel)];kernel_rfl)|(rw[if_neg (by decide +kernel)];exact⟨rfl,rfl⟩)
theorem TP:Rows.diffTellsRow.wfByText (OpenSpec.ofChange Rows.diffTellsSpec)=true:=by kernel_rfl
theorem MP : Tryz.pinned.checked.prog.mainIs = some (true, "d4aba09234a65c7f4d29bd0d864b029f59306d85c0a3492698ddf1dfb64c2b83".toList) := by kernel_rfl
theorem Nw:true=Tryz.pinned.checked.prog.looks []:=by kernel_rfl
theorem zin:false=Rows.diffTellsRow.goesBy Tryz.pinned.checked.prog:=by kernel_rfl
theorem zio:([25,25].all λu=>!Tryz.prog.wantsStandIn u)=true:=by kernel_rfl
theorem YT:Rows.diffTellsRow.holds Tryz.pinned (OpenSpec.ofChange Rows.diffTellsSpec):=
 OpenClaim.holds_of_wide 5 Tryz.f5 rfl rfl rfl rfl rfl rfl rfl ⟨rfl,rfl,rfl,rfl,rfl⟩ rfl rfl rfl rfl rfl closedB_DiffTells Tryz.func5 RH VQ YS
  (λos started H enc _=>PI os started H enc)
theorem DiffTellsProved:Rows.DiffTellsCardSaid:=
 Claim7.holds_tied_plain_at .later [] [.data, .data, .data, .data, .sentinel, .sentinel, .pinned] true (true, "d4aba09234a65c7f4d29bd0d864b029f59306d85c0a3492698ddf1dfb64c2b83") true
  YT (λ_ h=>by cases h) TP (λ_ h=>by cases h) diffTells_row_tie rfl ⟨rfl,rfl⟩ MP rfl
  (λf fn hf hfn=>by
   obtain rfl:f=5:=Option.some.inj (closedB_DiffTells.symm.trans hf) |>.symm
   obtain rfl:fn=Tryz.f5:=(Option.some.inj (Tryz.func5.symm.trans hfn)).symm
   exact⟨Nw,λj t ht=>by
    rw[Tryz.params5]at ht
    have hm:t∈[25,25]:=by simpa using Array.mem_of_getElem? ht
    exact(show Tryz.prog.wantsStandIn t=false by simpa using List.all_eq_true.1 zio t hm)⟩)
  zin
#print axioms DiffTellsProved
end Go.Proofs.YtplilfikcimcbaaGreatDoor
