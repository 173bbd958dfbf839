/- The law SchemaOrders returns true at every input, and each argument reads afterwards as it read before. No condition. -/
import Derived.Test.YtjkbohnbckpmdaaGreatDoorPkF
namespace Go.Proofs.YtjkbohnbckpmdaaGreatDoor
open Go Go.X Go.ChangeShapes Go.WideShapes Go.ChangeAt Go.RowKit
open Go.ChangeMaps (open_string shut_string)
set_option linter.unusedVariables false
set_option maxRecDepth 100000 in
theorem zf1 (os:Os) (started:os.Started) (H:Type) (enc:TypeId×Value->H):
  ReturnsInHanded {} Tryz.checked os 5 .any (λw args=>(Rows.schemaOrdersSpec.pre enc Tryz.prog Tryz.f5 Rows.schemaOrdersRow.domain false w args/\laidMetH Tryz.prog jI w)/\sizedMet enc Tryz.prog Tryz.f5 (OpenSpec.ofChange Rows.schemaOrdersSpec) false w args)
   (Rows.schemaOrdersSpec.post enc Tryz.prog Tryz.f5 false true false false):=by
 refine x6 (C:=Tryz.checked) (X:=λw _=>laidMetH Tryz.prog jI w) (λ_ _ _ hh h=>h.of_heap hh) Tryz.own started (by kernel_rfl) Tryz.func5
  (ChangeSpec.witness_shaped (enc:=enc) (C:=Tryz.checked) (os:=os) (X:=λw _=>laidMetH Tryz.prog jI w) false (sh os) #[.agg #[.int .i64 0,.string ⟨#[]⟩,.slice none 0 0,.slice none 0 0],.agg #[.int .i64 0,.string ⟨#[]⟩,.slice none 0 0,.slice none 0 0]] 8 (World.laidAll_os _ _ _) (CG os _) (by kernel_rfl) (by kernel_rfl) (by kernel_rfl) (CY os _)) ?_
 intro W base args ds gs before hval0 hW hZ hL hS
 have hg:=BY hL hS
 have hval:∀(j:Nat) t v,Tryz.f5.params[j]?=some t->args[j]?=some v->Value.okWide Tryz.prog W .any base t v:=hval0
 have hW':=hW
 obtain⟨p,q,kj,hV,rfl,hfz,hnd⟩:=hW
 have hA:DataW.TrodAll enc Tryz.prog W 0 (λ_=>true) true Tryz.f5.params.toList args.toList ds p:=kj
 rw[Tryz.params5]at hA hval
 obtain⟨v0,vs0,d0,ds0,p0,q0,hargs,rfl,rfl,h0,r0⟩:=trodAll_cons hA
 obtain⟨v1,vs1,d1,ds1,p1,q1,rfl,rfl,rfl,h1,r1⟩:=trodAll_cons r0
 obtain⟨rfl,rfl,rfl⟩:=trodAll_nil r1
 obtain rfl:args=#[v0,v1]:=by cases args;simp_all
 obtain⟨rfl,rfl⟩:=trodVars_none hV
 have lt0:∀x∈p0,x.block<W.heap.size:=by obtain⟨m,hm⟩:=h0;exact DataW.trod_lt m _ _ _ hm
 have lt1:∀x∈p1,x.block<W.heap.size:=by obtain⟨m,hm⟩:=h1;exact DataW.trod_lt m _ _ _ hm
 obtain⟨c0,rfl,_⟩:=okWide_struct Tryz.underlying25 (hval 0 25 v0 rfl rfl)
 obtain⟨x0,o0⟩:∃t:Tr,RdV (Fz W) .tree t (.agg c0):=by obtain⟨fu,hf⟩:=h0;obtain⟨t,hx⟩:=oo _ _ _ hf (nN hZ (j:=0) rfl rfl);exact⟨t,nJ hx⟩
 obtain⟨c1,rfl,_⟩:=okWide_struct Tryz.underlying25 (hval 1 25 v1 rfl rfl)
 obtain⟨x1,o1⟩:∃t:Tr,RdV (Fz W) .tree t (.agg c1):=by obtain⟨fu,hf⟩:=h1;obtain⟨t,hx⟩:=oo _ _ _ hf (nN hZ (j:=1) rfl rfl);exact⟨t,nJ hx⟩
 clear kj hval0
 refine(Bj (QU hg  rfl) (zi o0 (zi o1 zq))).mono λe W' ⟨he,bel⟩=>?_
 subst he
 exact⟨_,rfl,_,_,_,[],_,[],hW',trodAll_mk1 (shut_bool Tryz.underlying4 _),(trodAll_cons_mk (Below.trod Tryz.laidOut (by kernel_rfl) (of_decide_eq_true (by kernel_rfl)) h0 bel lt0) (trodAll_cons_mk (Below.trod Tryz.laidOut (by kernel_rfl) (of_decide_eq_true (by kernel_rfl)) h1 bel lt1) trodAll_mk0)),rfl,bel.frame _,λh=>by cases h⟩
/- Closed facts, each by itself: the kernel gives its memory back behind each. -/
theorem LN:(Rows.schemaOrdersRow.inPlace==Tryz.pinned.checked.prog.inPlace 5)=true:=by kernel_rfl
theorem WW:(Rows.schemaOrdersRow.unfollowed==Tryz.pinned.checked.prog.unfollowed 5)=true:=by kernel_rfl
theorem WM:(Rows.schemaOrdersRow.recurses==Tryz.pinned.checked.prog.recurses 5)=true:=by kernel_rfl
theorem Ni:(Rows.schemaOrdersRow.named==Tryz.pinned.checked.prog.varsNamed 5)=true:=by kernel_rfl
theorem Sa:joinedFacts Tryz.pinned.checked.prog 5 Tryz.f5 Rows.schemaOrdersSpec Rows.schemaOrdersRow=true:=by
 unfold joinedFacts
 rw[LN,WW,WM,Ni]
 kernel_rfl
theorem closedB_SchemaOrders:Tryz.pinned.checked.prog.funcNamed Rows.schemaOrdersRow.func=some 5:=by kernel_rfl
theorem MV:Tryz.f5.isInstance Tryz.pinned.checked.prog Rows.schemaOrdersRow.origin Rows.schemaOrdersRow.targs:=of_decide_eq_true (by kernel_rfl)
theorem XK:Tryz.f5.isWrapper Tryz.pinned.checked.prog Rows.schemaOrdersRow.wrapper Rows.schemaOrdersRow.mainSum:=by
 unfold Func.isWrapper;first|(rw[if_pos (by decide +kernel)];kernel_rfl)|(rw[if_neg (by decide +kernel)];exact⟨rfl,rfl⟩)
theorem L4:Rows.schemaOrdersRow.wfByText (OpenSpec.ofChange Rows.schemaOrdersSpec)=true:=by kernel_rfl
theorem zdv : Tryz.pinned.checked.prog.mainIs = some (true, "27664e4d23140f9cf6813536d35afb6a2279e61828af9920b3399b8430198b52".toList) := by kernel_rfl
theorem QV:true=Tryz.pinned.checked.prog.looks []:=by kernel_rfl
theorem OP:false=Rows.schemaOrdersRow.goesBy Tryz.pinned.checked.prog:=by kernel_rfl
theorem zdy:([25,25].all λu=>!Tryz.prog.wantsStandIn u)=true:=by kernel_rfl
theorem Sk:Rows.schemaOrdersRow.holds Tryz.pinned (OpenSpec.ofChange Rows.schemaOrdersSpec):=
 OpenClaim.holds_of_wide 5 Tryz.f5 rfl rfl rfl rfl rfl rfl rfl ⟨rfl,rfl,rfl,rfl,rfl⟩ rfl rfl rfl rfl rfl closedB_SchemaOrders Tryz.func5 Sa MV XK
  (λos started H enc _=>zf1 os started H enc)
theorem SchemaOrdersProved:Rows.SchemaOrdersCardSaid:=
 Claim7.holds_tied_plain_at .later [] [.data, .data, .data, .data, .sentinel, .sentinel, .pinned] true (true, "27664e4d23140f9cf6813536d35afb6a2279e61828af9920b3399b8430198b52") true
  Sk (λ_ h=>by cases h) L4 (λ_ h=>by cases h) schemaOrders_row_tie rfl ⟨rfl,rfl⟩ zdv rfl
  (λf fn hf hfn=>by
   obtain rfl:f=5:=Option.some.inj (closedB_SchemaOrders.symm.trans hf) |>.symm
   obtain rfl:fn=Tryz.f5:=(Option.some.inj (Tryz.func5.symm.trans hfn)).symm
   exact⟨QV,λj t ht=>by
    rw[Tryz.params5]at ht
    have hm:t∈[25,25]:=by simpa using Array.mem_of_getElem? ht
    exact(show Tryz.prog.wantsStandIn t=false by simpa using List.all_eq_true.1 zdy t hm)⟩)
  OP
#print axioms SchemaOrdersProved
end Go.Proofs.YtjkbohnbckpmdaaGreatDoor
