/- The law PatchApplies returns true at every input, and each argument reads afterwards as it read before. No condition. -/
import Derived.Test.YtbploiccompocaaGreatDoorPlG
namespace Go.Proofs.YtbploiccompocaaGreatDoor
open Go Go.X Go.ChangeShapes Go.WideShapes Go.ChangeAt Go.RowKit
open Go.ChangeMaps (open_string shut_string)
set_option linter.unusedVariables false
set_option maxRecDepth 100000 in
theorem zck (os:Os) (started:os.Started) (H:Type) (enc:TypeId×Value->H):
  ReturnsInHanded {} Tryz.checked os 3 .any (λw args=>(Rows.patchAppliesSpec.pre enc Tryz.prog Tryz.f3 Rows.patchAppliesRow.domain false w args/\laidMetH Tryz.prog zpn w)/\sizedMet enc Tryz.prog Tryz.f3 (OpenSpec.ofChange Rows.patchAppliesSpec) false w args)
   (Rows.patchAppliesSpec.post enc Tryz.prog Tryz.f3 false true false false):=by
 refine zm3 (C:=Tryz.checked) (X:=λw _=>laidMetH Tryz.prog zpn w) (λ_ _ _ hh h=>h.of_heap hh) Tryz.own started (by kernel_rfl) Tryz.func3
  (ChangeSpec.witness_shaped (enc:=enc) (C:=Tryz.checked) (os:=os) (X:=λw _=>laidMetH Tryz.prog zpn w) false (qb2 os) #[.agg #[.int .i64 0,.string ⟨#[]⟩,.slice none 0 0,.slice none 0 0],.slice none 0 0] 8 (World.laidAll_os _ _ _) (zro os _) (by kernel_rfl) (by kernel_rfl) (by kernel_rfl) (z2e os _)) ?_
 intro W base args ds gs before hval0 hW hZ hL hS
 have hg:=qb1 hL hS
 have hval:∀(j:Nat) t v,Tryz.f3.params[j]?=some t->args[j]?=some v->Value.okWide Tryz.prog W .any base t v:=hval0
 have hW':=hW
 obtain⟨p,q,hA0,hV,rfl,hfz,hnd⟩:=hW
 have hA:DataW.TrodAll enc Tryz.prog W 0 (λ_=>true) true Tryz.f3.params.toList args.toList ds p:=hA0
 rw[Tryz.params3]at hA hval
 obtain⟨v0,vs0,d0,ds0,p0,q0,hargs,rfl,rfl,h0,r0⟩:=trodAll_cons hA
 obtain⟨v1,vs1,d1,ds1,p1,q1,rfl,rfl,rfl,h1,r1⟩:=trodAll_cons r0
 obtain⟨rfl,rfl,rfl⟩:=trodAll_nil r1
 obtain rfl:args=#[v0,v1]:=by cases args;simp_all
 obtain⟨rfl,rfl⟩:=trodVars_none hV
 have lt0:∀x∈p0,x.block<W.heap.size:=by obtain⟨m,hm⟩:=h0;exact DataW.trod_lt m _ _ _ hm
 have lt1:∀x∈p1,x.block<W.heap.size:=by obtain⟨m,hm⟩:=h1;exact DataW.trod_lt m _ _ _ hm
 obtain⟨c0,rfl,_⟩:=okWide_struct Tryz.underlying25 (hval 0 25 v0 rfl rfl)
 obtain⟨x0,o0⟩:∃t:Tr,RdV (Fz W) .tree t (.agg c0):=by obtain⟨fu,hf⟩:=h0;obtain⟨t,hx⟩:=zyr _ _ _ hf (zte hZ (j:=0) rfl rfl);exact⟨t,z1s hx⟩
 obtain⟨a1,len1,cap1,rfl⟩:=okWide_slice Tryz.underlying26 (hval 1 26 v1 rfl rfl)
 obtain⟨x1,o1⟩:∃xs:List OpT,RdV (Fz W) (.row Yt) xs (.slice a1 len1 cap1):=by obtain⟨fu,hf⟩:=h1;obtain⟨xs,hx⟩:=qah hf (zte hZ (j:=1) rfl rfl);exact⟨xs,z5w hx⟩
 clear hA0 hval0
 refine(zra (zvz hg  rfl) (yo o0 (yo o1 ww))).mono λe W' ⟨he,bel⟩=>?_
 subst he
 exact⟨_,rfl,_,_,_,[],_,[],hW',trodAll_mk1 (shut_bool Tryz.underlying4 _),(trodAll_cons_mk (Below.trod Tryz.laidOut (by kernel_rfl) (of_decide_eq_true (by kernel_rfl)) h0 bel lt0) (trodAll_cons_mk (Below.trod Tryz.laidOut (by kernel_rfl) (of_decide_eq_true (by kernel_rfl)) h1 bel lt1) trodAll_mk0)),rfl,bel.frame _,λh=>by cases h⟩
theorem zfl:Rows.patchAppliesRow.holds Tryz.pinned (OpenSpec.ofChange Rows.patchAppliesSpec):=
 OpenClaim.holds_of_wide 3 Tryz.f3 rfl rfl rfl rfl rfl rfl rfl ⟨rfl,rfl,rfl,rfl,rfl⟩ rfl rfl rfl rfl rfl (by kernel_rfl) Tryz.func3 (by kernel_rfl)
  (of_decide_eq_true (by kernel_rfl)) (by unfold Func.isWrapper;first|(rw[if_pos (by decide +kernel)];kernel_rfl)|(rw[if_neg (by decide +kernel)];exact⟨rfl,rfl⟩))
  (λos started H enc _=>zck os started H enc)
theorem PatchAppliesProved:Rows.PatchAppliesCardSaid:=
 Claim7.holds_tied_plain_at .later [] [.data, .data, .data, .data, .sentinel, .sentinel, .pinned] true (true, "1a9e4a07c4578abbedbfb821c8723f44264d8349e0e86ba7fb363d28de445eef") true
  zfl (λ_ h=>by cases h) (by kernel_rfl) (λ_ h=>by cases h) patchApplies_row_tie rfl ⟨rfl,rfl⟩ (by kernel_rfl) rfl
  (λf fn hf hfn=>by
   obtain rfl : f = 3 := Option.some.inj ((show Tryz.prog.funcNamed "scarf/scarflaw21.PatchApplies" = some 3 by kernel_rfl).symm.trans hf) |>.symm
   obtain rfl:fn=Tryz.f3:=(Option.some.inj (Tryz.func3.symm.trans hfn)).symm
   exact⟨by kernel_rfl,λj t ht=>by
    rw[Tryz.params3]at ht
    have hm:t∈[25,26]:=by simpa using Array.mem_of_getElem? ht
    have hall:([25,26].all λu=>!Tryz.prog.wantsStandIn u)=true:=by kernel_rfl
    exact(show Tryz.prog.wantsStandIn t=false by simpa using List.all_eq_true.1 hall t hm)⟩)
  (by kernel_rfl)
#print axioms PatchAppliesProved
end Go.Proofs.YtbploiccompocaaGreatDoor
