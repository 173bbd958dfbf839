/- The law ReadReads returns true at every input, and each argument reads afterwards as it read before. No condition. -/
import Derived.Test.YtjohlemfgcmaoaaGreatDoorPmF
namespace Go.Proofs.YtjohlemfgcmaoaaGreatDoor
open Go Go.X Go.ChangeShapes Go.WideShapes Go.ChangeAt Go.RowKit
open Go.ChangeMaps (open_string shut_string)
set_option linter.unusedVariables false
set_option maxRecDepth 100000 in
theorem zel (os:Os) (started:os.Started) (H:Type) (enc:TypeId×Value->H):
  ReturnsInHanded {} Tryz.checked os 3 .any (λw args=>(Rows.readReadsSpec.pre enc Tryz.prog Tryz.f3 Rows.readReadsRow.domain false w args/\laidMetH Tryz.prog zme w)/\sizedMet enc Tryz.prog Tryz.f3 (OpenSpec.ofChange Rows.readReadsSpec) false w args)
   (Rows.readReadsSpec.post enc Tryz.prog Tryz.f3 false true false false):=by
 refine zjz (C:=Tryz.checked) (X:=λw _=>laidMetH Tryz.prog zme w) (λ_ _ _ hh h=>h.of_heap hh) Tryz.own started (by kernel_rfl) Tryz.func3
  (ChangeSpec.witness_shaped (enc:=enc) (C:=Tryz.checked) (os:=os) (X:=λw _=>laidMetH Tryz.prog zme w) false (z9l os) #[.string ⟨#[]⟩] 8 (World.laidAll_os _ _ _) (zoq os _) (by kernel_rfl) (by kernel_rfl) (by kernel_rfl) (zy4 os _)) ?_
 intro W base args ds gs before hval0 hW hZ hL hS
 have hg:=z9k hL hS
 have hval:∀(j:Nat) t v,Tryz.f3.params[j]?=some t->args[j]?=some v->Value.okWide Tryz.prog W .any base t v:=hval0
 have hW':=hW
 obtain⟨p,q,hA0,hV,rfl,hfz,hnd⟩:=hW
 have hA:DataW.TrodAll enc Tryz.prog W 0 (λ_=>true) true Tryz.f3.params.toList args.toList ds p:=hA0
 rw[Tryz.params3]at hA hval
 obtain⟨v0,vs0,d0,ds0,p0,q0,hargs,rfl,rfl,h0,r0⟩:=trodAll_cons hA
 obtain⟨rfl,rfl,rfl⟩:=trodAll_nil r0
 obtain rfl:args=#[v0]:=by cases args;simp_all
 obtain⟨rfl,rfl⟩:=trodVars_none hV
 have lt0:∀x∈p0,x.block<W.heap.size:=by obtain⟨m,hm⟩:=h0;exact DataW.trod_lt m _ _ _ hm
 obtain⟨x0,rfl,rfl,rfl,w0⟩:=open_string Tryz.underlying9 (hval 0 9 v0 rfl rfl) h0
 have o0:RdV (Fz W) .str x0 (.string x0):=rdStr x0
 clear hA0 hval0
 refine(zoe (zxm hg  rfl) (yr o0 jq)).mono λe W' ⟨he,bel⟩=>?_
 subst he
 exact⟨_,rfl,_,_,_,[],_,[],hW',trodAll_mk1 (shut_bool Tryz.underlying4 _),(trodAll_cons_mk (Below.trod Tryz.laidOut (by kernel_rfl) (of_decide_eq_true (by kernel_rfl)) h0 bel lt0) trodAll_mk0),rfl,bel.frame _,λh=>by cases h⟩
/- Closed facts, each by itself: the kernel gives its memory back behind each. -/
theorem zdp:joinedFacts Tryz.pinned.checked.prog 3 Tryz.f3 Rows.readReadsSpec Rows.readReadsRow=true:=by kernel_rfl
theorem closedB_ReadReads:Tryz.pinned.checked.prog.funcNamed Rows.readReadsRow.func=some 3:=by kernel_rfl
theorem zdq:Tryz.f3.isInstance Tryz.pinned.checked.prog Rows.readReadsRow.origin Rows.readReadsRow.targs:=of_decide_eq_true (by kernel_rfl)
theorem zdr:Tryz.f3.isWrapper Tryz.pinned.checked.prog Rows.readReadsRow.wrapper Rows.readReadsRow.mainSum:=by
 unfold Func.isWrapper;first|(rw[if_pos (by decide +kernel)];kernel_rfl)|(rw[if_neg (by decide +kernel)];exact⟨rfl,rfl⟩)
theorem zds:Rows.readReadsRow.wfByText (OpenSpec.ofChange Rows.readReadsSpec)=true:=by kernel_rfl
theorem zdt : Tryz.pinned.checked.prog.mainIs = some (true, "f4175d477fc9cabb7fed400f14f396e7c5fe7eb1e191b280800561e608d17418".toList) := by kernel_rfl
theorem zdu:true=Tryz.pinned.checked.prog.looks []:=by kernel_rfl
theorem zdv:false=Rows.readReadsRow.goesBy Tryz.pinned.checked.prog:=by kernel_rfl
theorem zdw:([9].all λu=>!Tryz.prog.wantsStandIn u)=true:=by kernel_rfl
theorem zg6:Rows.readReadsRow.holds Tryz.pinned (OpenSpec.ofChange Rows.readReadsSpec):=
 OpenClaim.holds_of_wide 3 Tryz.f3 rfl rfl rfl rfl rfl rfl rfl ⟨rfl,rfl,rfl,rfl,rfl⟩ rfl rfl rfl rfl rfl closedB_ReadReads Tryz.func3 zdp zdq zdr
  (λos started H enc _=>zel os started H enc)
theorem ReadReadsProved:Rows.ReadReadsCardSaid:=
 Claim7.holds_tied_plain_at .later [] [.data, .data, .data, .data, .sentinel, .sentinel, .pinned] true (true, "f4175d477fc9cabb7fed400f14f396e7c5fe7eb1e191b280800561e608d17418") true
  zg6 (λ_ h=>by cases h) zds (λ_ h=>by cases h) readReads_row_tie rfl ⟨rfl,rfl⟩ zdt rfl
  (λf fn hf hfn=>by
   obtain rfl:f=3:=Option.some.inj (closedB_ReadReads.symm.trans hf) |>.symm
   obtain rfl:fn=Tryz.f3:=(Option.some.inj (Tryz.func3.symm.trans hfn)).symm
   exact⟨zdu,λj t ht=>by
    rw[Tryz.params3]at ht
    have hm:t∈[9]:=by simpa using Array.mem_of_getElem? ht
    exact(show Tryz.prog.wantsStandIn t=false by simpa using List.all_eq_true.1 zdw t hm)⟩)
  zdv
#print axioms ReadReadsProved
end Go.Proofs.YtjohlemfgcmaoaaGreatDoor
