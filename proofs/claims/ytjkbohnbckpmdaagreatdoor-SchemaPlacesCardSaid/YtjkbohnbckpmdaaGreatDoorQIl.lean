/- The law SchemaPlaces returns true at every input, and each argument reads afterwards as it read before. No condition. -/
import Derived.Test.YtjkbohnbckpmdaaGreatDoorPkF
namespace Go.Proofs.YtjkbohnbckpmdaaGreatDoor
open Go Go.X Go.ChangeShapes Go.WideShapes Go.ChangeAt Go.RowKit
open Go.ChangeMaps (open_string shut_string)
set_option linter.unusedVariables false
set_option maxRecDepth 100000 in
theorem V0 (os:Os) (started:os.Started) (H:Type) (enc:TypeId×Value->H):
  ReturnsInHanded {} Tryz.checked os 6 .any (λw args=>(Rows.schemaPlacesSpec.pre enc Tryz.prog Tryz.f6 Rows.schemaPlacesRow.domain false w args/\laidMetH Tryz.prog jI w)/\sizedMet enc Tryz.prog Tryz.f6 (OpenSpec.ofChange Rows.schemaPlacesSpec) false w args)
   (Rows.schemaPlacesSpec.post enc Tryz.prog Tryz.f6 false true false false):=by
 refine x6 (C:=Tryz.checked) (X:=λw _=>laidMetH Tryz.prog jI w) (λ_ _ _ hh h=>h.of_heap hh) Tryz.own started (by kernel_rfl) Tryz.func6
  (ChangeSpec.witness_shaped (enc:=enc) (C:=Tryz.checked) (os:=os) (X:=λw _=>laidMetH Tryz.prog jI w) false (sh os) #[.agg #[.int .i64 0,.string ⟨#[]⟩,.slice none 0 0,.slice none 0 0],.agg #[.int .i64 0,.string ⟨#[]⟩,.slice none 0 0,.slice none 0 0]] 8 (World.laidAll_os _ _ _) (CG os _) (by kernel_rfl) (by kernel_rfl) (by kernel_rfl) (CY os _)) ?_
 intro W base args ds gs before hval0 hW hZ hL hS
 have hg:=BY hL hS
 have hval:∀(j:Nat) t v,Tryz.f6.params[j]?=some t->args[j]?=some v->Value.okWide Tryz.prog W .any base t v:=hval0
 have hW':=hW
 obtain⟨p,q,kj,hV,rfl,hfz,hnd⟩:=hW
 have hA:DataW.TrodAll enc Tryz.prog W 0 (λ_=>true) true Tryz.f6.params.toList args.toList ds p:=kj
 rw[Tryz.params6]at hA hval
 obtain⟨v0,vs0,d0,ds0,p0,q0,hargs,rfl,rfl,h0,r0⟩:=trodAll_cons hA
 obtain⟨v1,vs1,d1,ds1,p1,q1,rfl,rfl,rfl,h1,r1⟩:=trodAll_cons r0
 obtain⟨rfl,rfl,rfl⟩:=trodAll_nil r1
 obtain rfl:args=#[v0,v1]:=by cases args;simp_all
 obtain⟨rfl,rfl⟩:=trodVars_none hV
 have lt0:∀x∈p0,x.block<W.heap.size:=by obtain⟨m,hm⟩:=h0;exact DataW.trod_lt m _ _ _ hm
 have lt1:∀x∈p1,x.block<W.heap.size:=by obtain⟨m,hm⟩:=h1;exact DataW.trod_lt m _ _ _ hm
 obtain⟨c0,rfl,_⟩:=okWide_struct Tryz.underlying25 (hval 0 25 v0 rfl rfl)
 obtain⟨x0,o0⟩:∃t:Tr,RdV (Fz W) .tree t (.agg c0):=by obtain⟨fu,hf⟩:=h0;obtain⟨t,hx⟩:=oo _ _ _ hf (nN hZ (j:=0) rfl rfl);exact⟨t,nJ hx⟩
 obtain⟨c1,rfl,_⟩:=okWide_struct Tryz.underlying25 (hval 1 25 v1 rfl rfl)
 obtain⟨x1,o1⟩:∃t:Tr,RdV (Fz W) .tree t (.agg c1):=by obtain⟨fu,hf⟩:=h1;obtain⟨t,hx⟩:=oo _ _ _ hf (nN hZ (j:=1) rfl rfl);exact⟨t,nJ hx⟩
 clear kj hval0
 refine(Bj (z0o hg  rfl) (zi o0 (zi o1 zq))).mono λe W' ⟨he,bel⟩=>?_
 subst he
 exact⟨_,rfl,_,_,_,[],_,[],hW',trodAll_mk1 (shut_bool Tryz.underlying4 _),(trodAll_cons_mk (Below.trod Tryz.laidOut (by kernel_rfl) (of_decide_eq_true (by kernel_rfl)) h0 bel lt0) (trodAll_cons_mk (Below.trod Tryz.laidOut (by kernel_rfl) (of_decide_eq_true (by kernel_rfl)) h1 bel lt1) trodAll_mk0)),rfl,bel.frame _,λh=>by cases h⟩
/- Closed facts, each by itself: the kernel gives its memory back behind each. -/
theorem zcp:(Rows.schemaPlacesRow.inPlace==Tryz.pinned.checked.prog.inPlace 6)=true:=by kernel_rfl
theorem QR:(Rows.schemaPlacesRow.unfollowed==Tryz.pinned.checked.prog.unfollowed 6)=true:=by kernel_rfl
theorem PH:(Rows.schemaPlacesRow.recurses==Tryz.pinned.checked.prog.recurses 6)=true:=by kernel_rfl
theorem ZU:(Rows.schemaPlacesRow.named==Tryz.pinned.checked.prog.varsNamed 6)=true:=by kernel_rfl
theorem S9:joinedFacts Tryz.pinned.checked.prog 6 Tryz.f6 Rows.schemaPlacesSpec Rows.schemaPlacesRow=true:=by
 unfold joinedFacts
 rw[zcp,QR,PH,ZU]
 kernel_rfl
theorem closedB_SchemaPlaces:Tryz.pinned.checked.prog.funcNamed Rows.schemaPlacesRow.func=some 6:=by kernel_rfl
theorem ZX:Tryz.f6.isInstance Tryz.pinned.checked.prog Rows.schemaPlacesRow.origin Rows.schemaPlacesRow.targs:=of_decide_eq_true (by kernel_rfl)
theorem Tg:Tryz.f6.isWrapper Tryz.pinned.checked.prog Rows.schemaPlacesRow.wrapper Rows.schemaPlacesRow.mainSum:=by
 unfold Func.isWrapper;first|(rw[if_pos (by decide +kernel)];kernel_rfl)|(rw[if_neg (by decide +kernel)];exact⟨rfl,rfl⟩)
theorem QO:Rows.schemaPlacesRow.wfByText (OpenSpec.ofChange Rows.schemaPlacesSpec)=true:=by kernel_rfl
theorem UF : Tryz.pinned.checked.prog.mainIs = some (true, "27664e4d23140f9cf6813536d35afb6a2279e61828af9920b3399b8430198b52".toList) := by kernel_rfl
theorem Sb:true=Tryz.pinned.checked.prog.looks []:=by kernel_rfl
theorem zd5:false=Rows.schemaPlacesRow.goesBy Tryz.pinned.checked.prog:=by kernel_rfl
theorem PI:([25,25].all λu=>!Tryz.prog.wantsStandIn u)=true:=by kernel_rfl
theorem Pz:Rows.schemaPlacesRow.holds Tryz.pinned (OpenSpec.ofChange Rows.schemaPlacesSpec):=
 OpenClaim.holds_of_wide 6 Tryz.f6 rfl rfl rfl rfl rfl rfl rfl ⟨rfl,rfl,rfl,rfl,rfl⟩ rfl rfl rfl rfl rfl closedB_SchemaPlaces Tryz.func6 S9 ZX Tg
  (λos started H enc _=>V0 os started H enc)
theorem SchemaPlacesProved:Rows.SchemaPlacesCardSaid:=
 Claim7.holds_tied_plain_at .later [] [.data, .data, .data, .data, .sentinel, .sentinel, .pinned] true (true, "27664e4d23140f9cf6813536d35afb6a2279e61828af9920b3399b8430198b52") true
  Pz (λ_ h=>by cases h) QO (λ_ h=>by cases h) schemaPlaces_row_tie rfl ⟨rfl,rfl⟩ UF rfl
  (λf fn hf hfn=>by
   obtain rfl:f=6:=Option.some.inj (closedB_SchemaPlaces.symm.trans hf) |>.symm
   obtain rfl:fn=Tryz.f6:=(Option.some.inj (Tryz.func6.symm.trans hfn)).symm
   exact⟨Sb,λj t ht=>by
    rw[Tryz.params6]at ht
    have hm:t∈[25,25]:=by simpa using Array.mem_of_getElem? ht
    exact(show Tryz.prog.wantsStandIn t=false by simpa using List.all_eq_true.1 PI t hm)⟩)
  zd5
#print axioms SchemaPlacesProved
end Go.Proofs.YtjkbohnbckpmdaaGreatDoor
