/- The law TreeApart returns true at every input, and each argument reads afterwards as it read before. No condition. -/
import Derived.Test.YtjohlemfgcmaoaaGreatDoorPuG
namespace Go.Proofs.YtjohlemfgcmaoaaGreatDoor
open Go Go.X Go.ChangeShapes Go.WideShapes Go.ChangeAt Go.RowKit
open Go.ChangeMaps (open_string shut_string)
set_option linter.unusedVariables false
set_option maxRecDepth 100000 in
theorem zh3 (os:Os) (started:os.Started) (H:Type) (enc:TypeId×Value->H):
  ReturnsInHanded {} Tryz.checked os 10 .any (λw args=>(Rows.treeApartSpec.pre enc Tryz.prog Tryz.f10 Rows.treeApartRow.domain false w args/\laidMetH Tryz.prog zej w)/\sizedMet enc Tryz.prog Tryz.f10 (OpenSpec.ofChange Rows.treeApartSpec) false w args)
   (Rows.treeApartSpec.post enc Tryz.prog Tryz.f10 false true false false):=by
 refine zei (C:=Tryz.checked) (X:=λw _=>laidMetH Tryz.prog zej w) (λ_ _ _ hh h=>h.of_heap hh) Tryz.own started (by kernel_rfl) Tryz.func10
  (ChangeSpec.witness_shaped (enc:=enc) (C:=Tryz.checked) (os:=os) (X:=λw _=>laidMetH Tryz.prog zej w) false (qkt os) #[.agg #[.int .i64 0,.string ⟨#[]⟩,.slice none 0 0,.slice none 0 0],.agg #[.int .i64 0,.string ⟨#[]⟩,.slice none 0 0,.slice none 0 0]] 8 (World.laidAll_os _ _ _) (zj9 os _) (by kernel_rfl) (by kernel_rfl) (by kernel_rfl) (zx3 os _)) ?_
 intro W base args ds gs before hval0 hW hZ hL hS
 have hg:=qit hL hS
 have hval:∀(j:Nat) t v,Tryz.f10.params[j]?=some t->args[j]?=some v->Value.okWide Tryz.prog W .any base t v:=hval0
 have hW':=hW
 obtain⟨p,q,hA0,hV,rfl,hfz,hnd⟩:=hW
 have hA:DataW.TrodAll enc Tryz.prog W 0 (λ_=>true) true Tryz.f10.params.toList args.toList ds p:=hA0
 rw[Tryz.params10]at hA hval
 obtain⟨v0,vs0,d0,ds0,p0,q0,hargs,rfl,rfl,h0,r0⟩:=trodAll_cons hA
 obtain⟨v1,vs1,d1,ds1,p1,q1,rfl,rfl,rfl,h1,r1⟩:=trodAll_cons r0
 obtain⟨rfl,rfl,rfl⟩:=trodAll_nil r1
 obtain rfl:args=#[v0,v1]:=by cases args;simp_all
 obtain⟨rfl,rfl⟩:=trodVars_none hV
 have lt0:∀x∈p0,x.block<W.heap.size:=by obtain⟨m,hm⟩:=h0;exact DataW.trod_lt m _ _ _ hm
 have lt1:∀x∈p1,x.block<W.heap.size:=by obtain⟨m,hm⟩:=h1;exact DataW.trod_lt m _ _ _ hm
 obtain⟨c0,rfl,_⟩:=okWide_struct Tryz.underlying26 (hval 0 26 v0 rfl rfl)
 obtain⟨x0,o0⟩:∃t:Tr,RdV (Fz W) .tree t (.agg c0):=by obtain⟨fu,hf⟩:=h0;obtain⟨t,hx⟩:=z5o _ _ _ hf (zo8 hZ (j:=0) rfl rfl);exact⟨t,zxu hx⟩
 obtain⟨c1,rfl,_⟩:=okWide_struct Tryz.underlying26 (hval 1 26 v1 rfl rfl)
 obtain⟨x1,o1⟩:∃t:Tr,RdV (Fz W) .tree t (.agg c1):=by obtain⟨fu,hf⟩:=h1;obtain⟨t,hx⟩:=z5o _ _ _ hf (zo8 hZ (j:=1) rfl rfl);exact⟨t,zxu hx⟩
 clear hA0 hval0
 refine(zjt (zuo hg (qdo hL) rfl) (qb o0 (qb o1 qq))).mono λe W' ⟨he,bel⟩=>?_
 subst he
 exact⟨_,rfl,_,_,_,[],_,[],hW',trodAll_mk1 (shut_bool Tryz.underlying4 _),(trodAll_cons_mk (Below.trod Tryz.laidOut (by kernel_rfl) (of_decide_eq_true (by kernel_rfl)) h0 bel lt0) (trodAll_cons_mk (Below.trod Tryz.laidOut (by kernel_rfl) (of_decide_eq_true (by kernel_rfl)) h1 bel lt1) trodAll_mk0)),rfl,bel.frame _,λh=>by cases h⟩
/- Closed facts, each by itself: the kernel gives its memory back behind each. -/
theorem ze3:(Rows.treeApartRow.inPlace==Tryz.pinned.checked.prog.inPlace 10)=true:=by kernel_rfl
theorem ze4:(Rows.treeApartRow.unfollowed==Tryz.pinned.checked.prog.unfollowed 10)=true:=by kernel_rfl
theorem ze5:(Rows.treeApartRow.recurses==Tryz.pinned.checked.prog.recurses 10)=true:=by kernel_rfl
theorem ze6:(Rows.treeApartRow.named==Tryz.pinned.checked.prog.varsNamed 10)=true:=by kernel_rfl
theorem zgq:joinedFacts Tryz.pinned.checked.prog 10 Tryz.f10 Rows.treeApartSpec Rows.treeApartRow=true:=by
 unfold joinedFacts
 rw[ze3,ze4,ze5,ze6]
 kernel_rfl
theorem closedB_TreeApart:Tryz.pinned.checked.prog.funcNamed Rows.treeApartRow.func=some 10:=by kernel_rfl
theorem zgr:Tryz.f10.isInstance Tryz.pinned.checked.prog Rows.treeApartRow.origin Rows.treeApartRow.targs:=of_decide_eq_true (by kernel_rfl)
theorem zgs:Tryz.f10.isWrapper Tryz.pinned.checked.prog Rows.treeApartRow.wrapper Rows.treeApartRow.mainSum:=by
 unfold Func.isWrapper;first|(rw[if_pos (by decide +kernel)];kernel_rfl)|(rw[if_neg (by decide +kernel)];exact⟨rfl,rfl⟩)
theorem zgt:Rows.treeApartRow.wfByText (OpenSpec.ofChange Rows.treeApartSpec)=true:=by kernel_rfl
theorem zgu : Tryz.pinned.checked.prog.mainIs = some (true, "f4175d477fc9cabb7fed400f14f396e7c5fe7eb1e191b280800561e608d17418".toList) := by kernel_rfl
theorem zgv:true=Tryz.pinned.checked.prog.looks []:=by kernel_rfl
theorem zgw:false=Rows.treeApartRow.goesBy Tryz.pinned.checked.prog:=by kernel_rfl
theorem zgx:([26,26].all λu=>!Tryz.prog.wantsStandIn u)=true:=by kernel_rfl
theorem zl9:Rows.treeApartRow.holds Tryz.pinned (OpenSpec.ofChange Rows.treeApartSpec):=
 OpenClaim.holds_of_wide 10 Tryz.f10 rfl rfl rfl rfl rfl rfl rfl ⟨rfl,rfl,rfl,rfl,rfl⟩ rfl rfl rfl rfl rfl closedB_TreeApart Tryz.func10 zgq zgr zgs
  (λos started H enc _=>zh3 os started H enc)
theorem TreeApartProved:Rows.TreeApartCardSaid:=
 Claim7.holds_tied_plain_at .later [] [.data, .data, .data, .data, .sentinel, .sentinel, .pinned] true (true, "f4175d477fc9cabb7fed400f14f396e7c5fe7eb1e191b280800561e608d17418") true
  zl9 (λ_ h=>by cases h) zgt (λ_ h=>by cases h) treeApart_row_tie rfl ⟨rfl,rfl⟩ zgu rfl
  (λf fn hf hfn=>by
   obtain rfl:f=10:=Option.some.inj (closedB_TreeApart.symm.trans hf) |>.symm
   obtain rfl:fn=Tryz.f10:=(Option.some.inj (Tryz.func10.symm.trans hfn)).symm
   exact⟨zgv,λj t ht=>by
    rw[Tryz.params10]at ht
    have hm:t∈[26,26]:=by simpa using Array.mem_of_getElem? ht
    exact(show Tryz.prog.wantsStandIn t=false by simpa using List.all_eq_true.1 zgx t hm)⟩)
  zgw
#print axioms TreeApartProved
end Go.Proofs.YtjohlemfgcmaoaaGreatDoor
