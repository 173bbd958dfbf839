/- The law SchemaJoins returns true at every input, and each argument reads afterwards as it read before. No condition. -/
import Derived.Test.YtjkbohnbckpmdaaGreatDoorPkF
namespace Go.Proofs.YtjkbohnbckpmdaaGreatDoor
open Go Go.X Go.ChangeShapes Go.WideShapes Go.ChangeAt Go.RowKit
open Go.ChangeMaps (open_string shut_string)
set_option linter.unusedVariables false
set_option maxRecDepth 100000 in
theorem Rc (os:Os) (started:os.Started) (H:Type) (enc:TypeId×Value->H):
  ReturnsInHanded {} Tryz.checked os 4 .any (λw args=>(Rows.schemaJoinsSpec.pre enc Tryz.prog Tryz.f4 Rows.schemaJoinsRow.domain false w args/\laidMetH Tryz.prog jI w)/\sizedMet enc Tryz.prog Tryz.f4 (OpenSpec.ofChange Rows.schemaJoinsSpec) false w args)
   (Rows.schemaJoinsSpec.post enc Tryz.prog Tryz.f4 false true false false):=by
 refine x6 (C:=Tryz.checked) (X:=λw _=>laidMetH Tryz.prog jI w) (λ_ _ _ hh h=>h.of_heap hh) Tryz.own started (by kernel_rfl) Tryz.func4
  (ChangeSpec.witness_shaped (enc:=enc) (C:=Tryz.checked) (os:=os) (X:=λw _=>laidMetH Tryz.prog jI w) false (sh os) #[.agg #[.int .i64 0,.string ⟨#[]⟩,.slice none 0 0,.slice none 0 0],.agg #[.int .i64 0,.string ⟨#[]⟩,.slice none 0 0,.slice none 0 0],.agg #[.int .i64 0,.string ⟨#[]⟩,.slice none 0 0,.slice none 0 0]] 8 (World.laidAll_os _ _ _) (CG os _) (by kernel_rfl) (by kernel_rfl) (by kernel_rfl) (CY os _)) ?_
 intro W base args ds gs before hval0 hW hZ hL hS
 have hg:=BY hL hS
 have hval:∀(j:Nat) t v,Tryz.f4.params[j]?=some t->args[j]?=some v->Value.okWide Tryz.prog W .any base t v:=hval0
 have hW':=hW
 obtain⟨p,q,kj,hV,rfl,hfz,hnd⟩:=hW
 have hA:DataW.TrodAll enc Tryz.prog W 0 (λ_=>true) true Tryz.f4.params.toList args.toList ds p:=kj
 rw[Tryz.params4]at hA hval
 obtain⟨v0,vs0,d0,ds0,p0,q0,hargs,rfl,rfl,h0,r0⟩:=trodAll_cons hA
 obtain⟨v1,vs1,d1,ds1,p1,q1,rfl,rfl,rfl,h1,r1⟩:=trodAll_cons r0
 obtain⟨v2,vs2,d2,ds2,p2,q2,rfl,rfl,rfl,h2,r2⟩:=trodAll_cons r1
 obtain⟨rfl,rfl,rfl⟩:=trodAll_nil r2
 obtain rfl:args=#[v0,v1,v2]:=by cases args;simp_all
 obtain⟨rfl,rfl⟩:=trodVars_none hV
 have lt0:∀x∈p0,x.block<W.heap.size:=by obtain⟨m,hm⟩:=h0;exact DataW.trod_lt m _ _ _ hm
 have lt1:∀x∈p1,x.block<W.heap.size:=by obtain⟨m,hm⟩:=h1;exact DataW.trod_lt m _ _ _ hm
 have lt2:∀x∈p2,x.block<W.heap.size:=by obtain⟨m,hm⟩:=h2;exact DataW.trod_lt m _ _ _ hm
 obtain⟨c0,rfl,_⟩:=okWide_struct Tryz.underlying25 (hval 0 25 v0 rfl rfl)
 obtain⟨x0,o0⟩:∃t:Tr,RdV (Fz W) .tree t (.agg c0):=by obtain⟨fu,hf⟩:=h0;obtain⟨t,hx⟩:=oo _ _ _ hf (nN hZ (j:=0) rfl rfl);exact⟨t,nJ hx⟩
 obtain⟨c1,rfl,_⟩:=okWide_struct Tryz.underlying25 (hval 1 25 v1 rfl rfl)
 obtain⟨x1,o1⟩:∃t:Tr,RdV (Fz W) .tree t (.agg c1):=by obtain⟨fu,hf⟩:=h1;obtain⟨t,hx⟩:=oo _ _ _ hf (nN hZ (j:=1) rfl rfl);exact⟨t,nJ hx⟩
 obtain⟨c2,rfl,_⟩:=okWide_struct Tryz.underlying25 (hval 2 25 v2 rfl rfl)
 obtain⟨x2,o2⟩:∃t:Tr,RdV (Fz W) .tree t (.agg c2):=by obtain⟨fu,hf⟩:=h2;obtain⟨t,hx⟩:=oo _ _ _ hf (nN hZ (j:=2) rfl rfl);exact⟨t,nJ hx⟩
 clear kj hval0
 refine(Bj (MZ hg  rfl) (zi o0 (zi o1 (zi o2 zq)))).mono λe W' ⟨he,bel⟩=>?_
 subst he
 exact⟨_,rfl,_,_,_,[],_,[],hW',trodAll_mk1 (shut_bool Tryz.underlying4 _),(trodAll_cons_mk (Below.trod Tryz.laidOut (by kernel_rfl) (of_decide_eq_true (by kernel_rfl)) h0 bel lt0) (trodAll_cons_mk (Below.trod Tryz.laidOut (by kernel_rfl) (of_decide_eq_true (by kernel_rfl)) h1 bel lt1) (trodAll_cons_mk (Below.trod Tryz.laidOut (by kernel_rfl) (of_decide_eq_true (by kernel_rfl)) h2 bel lt2) trodAll_mk0))),rfl,bel.frame _,λh=>by cases h⟩
/- Closed facts, each by itself: the kernel gives its memory back behind each. -/
theorem LV:(Rows.schemaJoinsRow.inPlace==Tryz.pinned.checked.prog.inPlace 4)=true:=by kernel_rfl
theorem LQ:(Rows.schemaJoinsRow.unfollowed==Tryz.pinned.checked.prog.unfollowed 4)=true:=by kernel_rfl
theorem Uu:(Rows.schemaJoinsRow.recurses==Tryz.pinned.checked.prog.recurses 4)=true:=by kernel_rfl
theorem MF:(Rows.schemaJoinsRow.named==Tryz.pinned.checked.prog.varsNamed 4)=true:=by kernel_rfl
theorem Og:joinedFacts Tryz.pinned.checked.prog 4 Tryz.f4 Rows.schemaJoinsSpec Rows.schemaJoinsRow=true:=by
 unfold joinedFacts
 rw[LV,LQ,Uu,MF]
 kernel_rfl
theorem closedB_SchemaJoins:Tryz.pinned.checked.prog.funcNamed Rows.schemaJoinsRow.func=some 4:=by kernel_rfl
theorem No:Tryz.f4.isInstance Tryz.pinned.checked.prog Rows.schemaJoinsRow.origin Rows.schemaJoinsRow.targs:=of_decide_eq_true (by kernel_rfl)
theorem MB:Tryz.f4.isWrapper Tryz.pinned.checked.prog Rows.schemaJoinsRow.wrapper Rows.schemaJoinsRow.mainSum:=by
 unfold Func.isWrapper;first|(rw[if_pos (by decide +kernel)];kernel_rfl)|(rw[if_neg (by decide +kernel)];exact⟨rfl,rfl⟩)
theorem Vu:Rows.schemaJoinsRow.wfByText (OpenSpec.ofChange Rows.schemaJoinsSpec)=true:=by kernel_rfl
theorem RE : Tryz.pinned.checked.prog.mainIs = some (true, "27664e4d23140f9cf6813536d35afb6a2279e61828af9920b3399b8430198b52".toList) := by kernel_rfl
theorem TG:true=Tryz.pinned.checked.prog.looks []:=by kernel_rfl
theorem zf9:false=Rows.schemaJoinsRow.goesBy Tryz.pinned.checked.prog:=by kernel_rfl
theorem Mk:([25,25,25].all λu=>!Tryz.prog.wantsStandIn u)=true:=by kernel_rfl
theorem TT:Rows.schemaJoinsRow.holds Tryz.pinned (OpenSpec.ofChange Rows.schemaJoinsSpec):=
 OpenClaim.holds_of_wide 4 Tryz.f4 rfl rfl rfl rfl rfl rfl rfl ⟨rfl,rfl,rfl,rfl,rfl⟩ rfl rfl rfl rfl rfl closedB_SchemaJoins Tryz.func4 Og No MB
  (λos started H enc _=>Rc os started H enc)
theorem SchemaJoinsProved:Rows.SchemaJoinsCardSaid:=
 Claim7.holds_tied_plain_at .later [] [.data, .data, .data, .data, .sentinel, .sentinel, .pinned] true (true, "27664e4d23140f9cf6813536d35afb6a2279e61828af9920b3399b8430198b52") true
  TT (λ_ h=>by cases h) Vu (λ_ h=>by cases h) schemaJoins_row_tie rfl ⟨rfl,rfl⟩ RE rfl
  (λf fn hf hfn=>by
   obtain rfl:f=4:=Option.some.inj (closedB_SchemaJoins.symm.trans hf) |>.symm
   obtain rfl:fn=Tryz.f4:=(Option.some.inj (Tryz.func4.symm.trans hfn)).symm
   exact⟨TG,λj t ht=>by
    rw[Tryz.params4]at ht
    have hm:t∈[25,25,25]:=by simpa using Array.mem_of_getElem? ht
    exact(show Tryz.prog.wantsStandIn t=false by simpa using List.all_eq_true.1 Mk t hm)⟩)
  zf9
#print axioms SchemaJoinsProved
end Go.Proofs.YtjkbohnbckpmdaaGreatDoor
