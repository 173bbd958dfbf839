/- The law TreeKids returns true at every input, and each argument reads afterwards as it read before. No condition. -/
import Derived.Test.YtjohlemfgcmaoaaGreatDoorPuG
namespace Go.Proofs.YtjohlemfgcmaoaaGreatDoor
open Go Go.X Go.ChangeShapes Go.WideShapes Go.ChangeAt Go.RowKit
open Go.ChangeMaps (open_string shut_string)
set_option linter.unusedVariables false
set_option maxRecDepth 100000 in
theorem zlf (os:Os) (started:os.Started) (H:Type) (enc:TypeId×Value->H):
  ReturnsInHanded {} Tryz.checked os 11 .any (λw args=>(Rows.treeKidsSpec.pre enc Tryz.prog Tryz.f11 Rows.treeKidsRow.domain false w args/\laidMetH Tryz.prog zej w)/\sizedMet enc Tryz.prog Tryz.f11 (OpenSpec.ofChange Rows.treeKidsSpec) false w args)
   (Rows.treeKidsSpec.post enc Tryz.prog Tryz.f11 false true false false):=by
 refine zei (C:=Tryz.checked) (X:=λw _=>laidMetH Tryz.prog zej w) (λ_ _ _ hh h=>h.of_heap hh) Tryz.own started (by kernel_rfl) Tryz.func11
  (ChangeSpec.witness_shaped (enc:=enc) (C:=Tryz.checked) (os:=os) (X:=λw _=>laidMetH Tryz.prog zej w) false (qkt os) #[.agg #[.slice none 0 0,.slice none 0 0]] 8 (World.laidAll_os _ _ _) (zj9 os _) (by kernel_rfl) (by kernel_rfl) (by kernel_rfl) (zx3 os _)) ?_
 intro W base args ds gs before hval0 hW hZ hL hS
 have hg:=qit hL hS
 have hval:∀(j:Nat) t v,Tryz.f11.params[j]?=some t->args[j]?=some v->Value.okWide Tryz.prog W .any base t v:=hval0
 have hW':=hW
 obtain⟨p,q,hA0,hV,rfl,hfz,hnd⟩:=hW
 have hA:DataW.TrodAll enc Tryz.prog W 0 (λ_=>true) true Tryz.f11.params.toList args.toList ds p:=hA0
 rw[Tryz.params11]at hA hval
 obtain⟨v0,vs0,d0,ds0,p0,q0,hargs,rfl,rfl,h0,r0⟩:=trodAll_cons hA
 obtain⟨rfl,rfl,rfl⟩:=trodAll_nil r0
 obtain rfl:args=#[v0]:=by cases args;simp_all
 obtain⟨rfl,rfl⟩:=trodVars_none hV
 have lt0:∀x∈p0,x.block<W.heap.size:=by obtain⟨m,hm⟩:=h0;exact DataW.trod_lt m _ _ _ hm
 obtain⟨c0,rfl,_⟩:=okWide_struct Tryz.underlying71 (hval 0 71 v0 rfl rfl)
 obtain⟨x0,o0⟩:∃t:List ByteArray×List Int,RdV (Fz W) (.pair (.row .str) (.row (.int .i64))) t (.agg c0):=by obtain⟨fu,hf⟩:=h0;obtain⟨t,hx⟩:=ql4 hf (zo8 hZ (j:=0) rfl rfl);exact⟨t,qi4 hx⟩
 clear hA0 hval0
 refine(zjt (zwy hg (qdo hL) rfl) (qb o0 qq)).mono λe W' ⟨he,bel⟩=>?_
 subst he
 exact⟨_,rfl,_,_,_,[],_,[],hW',trodAll_mk1 (shut_bool Tryz.underlying4 _),(trodAll_cons_mk (Below.trod Tryz.laidOut (by kernel_rfl) (of_decide_eq_true (by kernel_rfl)) h0 bel lt0) trodAll_mk0),rfl,bel.frame _,λh=>by cases h⟩
/- Closed facts, each by itself: the kernel gives its memory back behind each. -/
theorem zgm:(Rows.treeKidsRow.inPlace==Tryz.pinned.checked.prog.inPlace 11)=true:=by kernel_rfl
theorem zgn:(Rows.treeKidsRow.unfollowed==Tryz.pinned.checked.prog.unfollowed 11)=true:=by kernel_rfl
theorem zgo:(Rows.treeKidsRow.recurses==Tryz.pinned.checked.prog.recurses 11)=true:=by kernel_rfl
theorem zgp:(Rows.treeKidsRow.named==Tryz.pinned.checked.prog.varsNamed 11)=true:=by kernel_rfl
theorem zhv:joinedFacts Tryz.pinned.checked.prog 11 Tryz.f11 Rows.treeKidsSpec Rows.treeKidsRow=true:=by
 unfold joinedFacts
 rw[zgm,zgn,zgo,zgp]
 kernel_rfl
theorem closedB_TreeKids:Tryz.pinned.checked.prog.funcNamed Rows.treeKidsRow.func=some 11:=by kernel_rfl
theorem zhw:Tryz.f11.isInstance Tryz.pinned.checked.prog Rows.treeKidsRow.origin Rows.treeKidsRow.targs:=of_decide_eq_true (by kernel_rfl)
theorem zhx:Tryz.f11.isWrapper Tryz.pinned.checked.prog Rows.treeKidsRow.wrapper Rows.treeKidsRow.mainSum:=by
 unfold Func.isWrapper;first|(rw[if_pos (by decide +kernel)];kernel_rfl)|(rw[if_neg (by decide +kernel)];exact⟨rfl,rfl⟩)
theorem zhy:Rows.treeKidsRow.wfByText (OpenSpec.ofChange Rows.treeKidsSpec)=true:=by kernel_rfl
theorem zhz : Tryz.pinned.checked.prog.mainIs = some (true, "f4175d477fc9cabb7fed400f14f396e7c5fe7eb1e191b280800561e608d17418".toList) := by kernel_rfl
theorem zh0:true=Tryz.pinned.checked.prog.looks []:=by kernel_rfl
theorem zh1:false=Rows.treeKidsRow.goesBy Tryz.pinned.checked.prog:=by kernel_rfl
theorem zh2:([71].all λu=>!Tryz.prog.wantsStandIn u)=true:=by kernel_rfl
theorem zqw:Rows.treeKidsRow.holds Tryz.pinned (OpenSpec.ofChange Rows.treeKidsSpec):=
 OpenClaim.holds_of_wide 11 Tryz.f11 rfl rfl rfl rfl rfl rfl rfl ⟨rfl,rfl,rfl,rfl,rfl⟩ rfl rfl rfl rfl rfl closedB_TreeKids Tryz.func11 zhv zhw zhx
  (λos started H enc _=>zlf os started H enc)
theorem TreeKidsProved:Rows.TreeKidsCardSaid:=
 Claim7.holds_tied_plain_at .later [] [.data, .data, .data, .data, .sentinel, .sentinel, .pinned] true (true, "f4175d477fc9cabb7fed400f14f396e7c5fe7eb1e191b280800561e608d17418") true
  zqw (λ_ h=>by cases h) zhy (λ_ h=>by cases h) treeKids_row_tie rfl ⟨rfl,rfl⟩ zhz rfl
  (λf fn hf hfn=>by
   obtain rfl:f=11:=Option.some.inj (closedB_TreeKids.symm.trans hf) |>.symm
   obtain rfl:fn=Tryz.f11:=(Option.some.inj (Tryz.func11.symm.trans hfn)).symm
   exact⟨zh0,λj t ht=>by
    rw[Tryz.params11]at ht
    have hm:t∈[71]:=by simpa using Array.mem_of_getElem? ht
    exact(show Tryz.prog.wantsStandIn t=false by simpa using List.all_eq_true.1 zh2 t hm)⟩)
  zh1
#print axioms TreeKidsProved
end Go.Proofs.YtjohlemfgcmaoaaGreatDoor
