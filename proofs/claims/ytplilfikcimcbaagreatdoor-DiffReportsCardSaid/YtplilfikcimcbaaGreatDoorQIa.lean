/- The law DiffReports returns true at every input, and each argument reads afterwards as it read before. No condition. -/
import Derived.Test.YtplilfikcimcbaaGreatDoorPdG
namespace Go.Proofs.YtplilfikcimcbaaGreatDoor
open Go Go.X Go.ChangeShapes Go.WideShapes Go.ChangeAt Go.RowKit
open Go.ChangeMaps (open_string shut_string)
set_option linter.unusedVariables false
set_option maxRecDepth 100000 in
theorem PP (os:Os) (started:os.Started) (H:Type) (enc:TypeId×Value->H):
  ReturnsInHanded {} Tryz.checked os 6 .any (λw args=>(Rows.diffReportsSpec.pre enc Tryz.prog Tryz.f6 Rows.diffReportsRow.domain false w args/\laidMetH Tryz.prog jZ w)/\sizedMet enc Tryz.prog Tryz.f6 (OpenSpec.ofChange Rows.diffReportsSpec) false w args)
   (Rows.diffReportsSpec.post enc Tryz.prog Tryz.f6 false true false false):=by
 refine HL (C:=Tryz.checked) (X:=λw _=>laidMetH Tryz.prog jZ w) (λ_ _ _ hh h=>h.of_heap hh) Tryz.own started (by kernel_rfl) Tryz.func6
  (ChangeSpec.witness_shaped (enc:=enc) (C:=Tryz.checked) (os:=os) (X:=λw _=>laidMetH Tryz.prog jZ w) false (t8 os) #[.slice none 0 0] 8 (World.laidAll_os _ _ _) (Gu os _) (by kernel_rfl) (by kernel_rfl) (by kernel_rfl) (Cu os _)) ?_
 intro W base args ds gs before hval0 hW hZ hL hS
 have hg:=Dl hL hS
 have hval:∀(j:Nat) t v,Tryz.f6.params[j]?=some t->args[j]?=some v->Value.okWide Tryz.prog W .any base t v:=hval0
 have hW':=hW
 obtain⟨p,q,mo,hV,rfl,hfz,hnd⟩:=hW
 have hA:DataW.TrodAll enc Tryz.prog W 0 (λ_=>true) true Tryz.f6.params.toList args.toList ds p:=mo
 rw[Tryz.params6]at hA hval
 obtain⟨v0,vs0,d0,ds0,p0,q0,hargs,rfl,rfl,h0,r0⟩:=trodAll_cons hA
 obtain⟨rfl,rfl,rfl⟩:=trodAll_nil r0
 obtain rfl:args=#[v0]:=by cases args;simp_all
 obtain⟨rfl,rfl⟩:=trodVars_none hV
 have lt0:∀x∈p0,x.block<W.heap.size:=by obtain⟨m,hm⟩:=h0;exact DataW.trod_lt m _ _ _ hm
 obtain⟨a0,len0,cap0,rfl⟩:=okWide_slice Tryz.underlying44 (hval 0 44 v0 rfl rfl)
 obtain⟨x0,o0⟩:∃xs:List cR,RdV (Fz W) (.row il) xs (.slice a0 len0 cap0):=by obtain⟨fu,hf⟩:=h0;obtain⟨xs,hx⟩:=VR hf (Am hZ (j:=0) rfl rfl);exact⟨xs,VE hx⟩
 clear mo hval0
 refine(Dh (R0 hg (Fh hL) rfl) (qk o0 ym)).mono λe W' ⟨he,bel⟩=>?_
 subst he
 exact⟨_,rfl,_,_,_,[],_,[],hW',trodAll_mk1 (shut_bool Tryz.underlying4 _),(trodAll_cons_mk (Below.trod Tryz.laidOut (by kernel_rfl) (of_decide_eq_true (by kernel_rfl)) h0 bel lt0) trodAll_mk0),rfl,bel.frame _,λh=>by cases h⟩
/- Closed facts, each by itself: the kernel gives its memory back behind each. -/
theorem N8:(Rows.diffReportsRow.inPlace==Tryz.pinned.checked.prog.inPlace 6)=true:=by kernel_rfl
theorem LN:(Rows.diffReportsRow.unfollowed==Tryz.pinned.checked.prog.unfollowed 6)=true:=by kernel_rfl
theorem NP:(Rows.diffReportsRow.recurses==Tryz.pinned.checked.prog.recurses 6)=true:=by kernel_rfl
theorem NR:(Rows.diffReportsRow.named==Tryz.pinned.checked.prog.varsNamed 6)=true:=by kernel_rfl
theorem Nc:joinedFacts Tryz.pinned.checked.prog 6 Tryz.f6 Rows.diffReportsSpec Rows.diffReportsRow=true:=by
 unfold joinedFacts
 rw[N8,LN,NP,NR]
 kernel_rfl
theorem closedB_DiffReports:Tryz.pinned.checked.prog.funcNamed Rows.diffReportsRow.func=some 6:=by kernel_rfl
theorem Ow:Tryz.f6.isInstance Tryz.pinned.checked.prog Rows.diffReportsRow.origin Rows.diffReportsRow.targs:=of_decide_eq_true (by kernel_rfl)
theorem KG:Tryz.f6.isWrapper Tryz.pinned.checked.prog Rows.diffReportsRow.wrapper Rows.diffReportsRow.mainSum:=by
 unfold Func.isWrapper;first|(rw[if_pos (by decide +kernel)];kernel_rfl)|(rw[if_neg (by decide +kernel)];exact⟨rfl,rfl⟩)
theorem Rx:Rows.diffReportsRow.wfByText (OpenSpec.ofChange Rows.diffReportsSpec)=true:=by kernel_rfl
theorem Uc : Tryz.pinned.checked.prog.mainIs = some (true, "d4aba09234a65c7f4d29bd0d864b029f59306d85c0a3492698ddf1dfb64c2b83".toList) := by kernel_rfl
theorem RZ:true=Tryz.pinned.checked.prog.looks []:=by kernel_rfl
theorem P5:false=Rows.diffReportsRow.goesBy Tryz.pinned.checked.prog:=by kernel_rfl
theorem PV:([44].all λu=>!Tryz.prog.wantsStandIn u)=true:=by kernel_rfl
theorem OI:Rows.diffReportsRow.holds Tryz.pinned (OpenSpec.ofChange Rows.diffReportsSpec):=
 OpenClaim.holds_of_wide 6 Tryz.f6 rfl rfl rfl rfl rfl rfl rfl ⟨rfl,rfl,rfl,rfl,rfl⟩ rfl rfl rfl rfl rfl closedB_DiffReports Tryz.func6 Nc Ow KG
  (λos started H enc _=>PP os started H enc)
theorem DiffReportsProved:Rows.DiffReportsCardSaid:=
 Claim7.holds_tied_plain_at .later [] [.data, .data, .data, .data, .sentinel, .sentinel, .pinned] true (true, "d4aba09234a65c7f4d29bd0d864b029f59306d85c0a3492698ddf1dfb64c2b83") true
  OI (λ_ h=>by cases h) Rx (λ_ h=>by cases h) diffReports_row_tie rfl ⟨rfl,rfl⟩ Uc rfl
  (λf fn hf hfn=>by
   obtain rfl:f=6:=Option.some.inj (closedB_DiffReports.symm.trans hf) |>.symm
   obtain rfl:fn=Tryz.f6:=(Option.some.inj (Tryz.func6.symm.trans hfn)).symm
   exact⟨RZ,λj t ht=>by
    rw[Tryz.params6]at ht
    have hm:t∈[44]:=by simpa using Array.mem_of_getElem? ht
    exact(show Tryz.prog.wantsStandIn t=false by simpa using List.all_eq_true.1 PV t hm)⟩)
  P5
#print axioms DiffReportsProved
end Go.Proofs.YtplilfikcimcbaaGreatDoor
