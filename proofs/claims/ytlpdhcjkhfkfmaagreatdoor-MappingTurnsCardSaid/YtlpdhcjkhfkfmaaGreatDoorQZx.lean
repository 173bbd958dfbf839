/- The law MappingTurns returns true at every input, and each argument reads afterwards as it read before. No condition. -/
import Derived.Test.YtlpdhcjkhfkfmaaGreatDoorPmF
namespace Go.Proofs.YtlpdhcjkhfkfmaaGreatDoor
open Go Go.X Go.ChangeShapes Go.WideShapes Go.ChangeAt Go.RowKit
open Go.ChangeMaps (open_string shut_string)
set_option linter.unusedVariables false
set_option maxRecDepth 100000 in
theorem CY (os:Os) (started:os.Started) (H:Type) (enc:TypeId×Value->H):
  ReturnsInHanded {} Tryz.checked os 5 .any (λw args=>(Rows.mappingTurnsSpec.pre enc Tryz.prog Tryz.f5 Rows.mappingTurnsRow.domain false w args/\laidMetH Tryz.prog Z5 w)/\sizedMet enc Tryz.prog Tryz.f5 (OpenSpec.ofChange Rows.mappingTurnsSpec) false w args)
   (Rows.mappingTurnsSpec.post enc Tryz.prog Tryz.f5 false true false false):=by
 refine wm (C:=Tryz.checked) (X:=λw _=>laidMetH Tryz.prog Z5 w) (λ_ _ _ hh h=>h.of_heap hh) Tryz.own started (by kernel_rfl) Tryz.func5
  (ChangeSpec.witness_shaped (enc:=enc) (C:=Tryz.checked) (os:=os) (X:=λw _=>laidMetH Tryz.prog Z5 w) false (iS os) #[.slice none 0 0,.slice none 0 0] 8 (World.laidAll_os _ _ _) (Z6 os _) (by kernel_rfl) (by kernel_rfl) (by kernel_rfl) (lO os _)) ?_
 intro W base args ds gs before hval0 hW hZ hL hS
 have hg:=lL hL hS
 have hval:∀(j:Nat) t v,Tryz.f5.params[j]?=some t->args[j]?=some v->Value.okWide Tryz.prog W .any base t v:=hval0
 have hW':=hW
 obtain⟨p,q,eF,hV,rfl,hfz,hnd⟩:=hW
 have hA:DataW.TrodAll enc Tryz.prog W 0 (λ_=>true) true Tryz.f5.params.toList args.toList ds p:=eF
 rw[Tryz.params5]at hA hval
 obtain⟨v0,vs0,d0,ds0,p0,q0,hargs,rfl,rfl,h0,r0⟩:=trodAll_cons hA
 obtain⟨v1,vs1,d1,ds1,p1,q1,rfl,rfl,rfl,h1,r1⟩:=trodAll_cons r0
 obtain⟨rfl,rfl,rfl⟩:=trodAll_nil r1
 obtain rfl:args=#[v0,v1]:=by cases args;simp_all
 obtain⟨rfl,rfl⟩:=trodVars_none hV
 have lt0:∀x∈p0,x.block<W.heap.size:=by obtain⟨m,hm⟩:=h0;exact DataW.trod_lt m _ _ _ hm
 have lt1:∀x∈p1,x.block<W.heap.size:=by obtain⟨m,hm⟩:=h1;exact DataW.trod_lt m _ _ _ hm
 obtain⟨a0,len0,cap0,rfl⟩:=okWide_slice Tryz.underlying26 (hval 0 26 v0 rfl rfl)
 obtain⟨x0,o0⟩:∃xs:List bK,RdV (Fz W) (.row (.pair (.int .i64) (.int .i64))) xs (.slice a0 len0 cap0):=by obtain⟨fu,hf⟩:=h0;obtain⟨xs,hx⟩:=ma hf (y9 hZ (j:=0) rfl rfl);exact⟨xs,lF hx⟩
 obtain⟨a1,len1,cap1,rfl⟩:=okWide_slice Tryz.underlying26 (hval 1 26 v1 rfl rfl)
 obtain⟨x1,o1⟩:∃xs:List bK,RdV (Fz W) (.row (.pair (.int .i64) (.int .i64))) xs (.slice a1 len1 cap1):=by obtain⟨fu,hf⟩:=h1;obtain⟨xs,hx⟩:=ma hf (y9 hZ (j:=1) rfl rfl);exact⟨xs,lF hx⟩
 clear eF hval0
 refine(Z3 (CM hg (mm hL) rfl) (zw o0 (zw o1 yc))).mono λe W' ⟨he,bel⟩=>?_
 subst he
 exact⟨_,rfl,_,_,_,[],_,[],hW',trodAll_mk1 (shut_bool Tryz.underlying4 _),(trodAll_cons_mk (Below.trod Tryz.laidOut (by kernel_rfl) (of_decide_eq_true (by kernel_rfl)) h0 bel lt0) (trodAll_cons_mk (Below.trod Tryz.laidOut (by kernel_rfl) (of_decide_eq_true (by kernel_rfl)) h1 bel lt1) trodAll_mk0)),rfl,bel.frame _,λh=>by cases h⟩
/- Closed facts, each by itself: the kernel gives its memory back behind each. -/
theorem Xu:(Rows.mappingTurnsRow.inPlace==Tryz.pinned.checked.prog.inPlace 5)=true:=by kernel_rfl
theorem Xv:(Rows.mappingTurnsRow.unfollowed==Tryz.pinned.checked.prog.unfollowed 5)=true:=by kernel_rfl
theorem Xw:(Rows.mappingTurnsRow.recurses==Tryz.pinned.checked.prog.recurses 5)=true:=by kernel_rfl
theorem Xx:(Rows.mappingTurnsRow.named==Tryz.pinned.checked.prog.varsNamed 5)=true:=by kernel_rfl
theorem Kg:joinedFacts Tryz.pinned.checked.prog 5 Tryz.f5 Rows.mappingTurnsSpec Rows.mappingTurnsRow=true:=by
 unfold joinedFacts
 rw[Xu,Xv,Xw,Xx]
 kernel_rfl
theorem closedB_MappingTurns:Tryz.pinned.checked.prog.funcNamed Rows.mappingTurnsRow.func=some 5:=by kernel_rfl
theorem GY:Tryz.f5.isInstance Tryz.pinned.checked.prog Rows.mappingTurnsRow.origin Rows.mappingTurnsRow.targs:=of_decide_eq_true (by kernel_rfl)
theorem LN:Tryz.f5.isWrapper Tryz.pinned.checked.prog Rows.mappingTurnsRow.wrapper Rows.mappingTurnsRow.mainSum:=by
 unfold Func.isWrapper;first|(rw[if_pos (by decide +kernel)];kernel_rfl)|(rw[if_neg (by decide +kernel)];exact⟨rfl,rfl⟩)
theorem D4:Rows.mappingTurnsRow.wfByText (OpenSpec.ofChange Rows.mappingTurnsSpec)=true:=by kernel_rfl
theorem Dg : Tryz.pinned.checked.prog.mainIs = some (true, "e349a32359413628a3238a0b852d04d25296f29daabd567b4601fbce58fc907b".toList) := by kernel_rfl
theorem IK:true=Tryz.pinned.checked.prog.looks []:=by kernel_rfl
theorem H2:false=Rows.mappingTurnsRow.goesBy Tryz.pinned.checked.prog:=by kernel_rfl
theorem Gf:([26,26].all λu=>!Tryz.prog.wantsStandIn u)=true:=by kernel_rfl
theorem JP:Rows.mappingTurnsRow.holds Tryz.pinned (OpenSpec.ofChange Rows.mappingTurnsSpec):=
 OpenClaim.holds_of_wide 5 Tryz.f5 rfl rfl rfl rfl rfl rfl rfl ⟨rfl,rfl,rfl,rfl,rfl⟩ rfl rfl rfl rfl rfl closedB_MappingTurns Tryz.func5 Kg GY LN
  (λos started H enc _=>CY os started H enc)
theorem MappingTurnsProved:Rows.MappingTurnsCardSaid:=
 Claim7.holds_tied_plain_at .later [] [.data, .data, .data, .data, .sentinel, .sentinel, .pinned] true (true, "e349a32359413628a3238a0b852d04d25296f29daabd567b4601fbce58fc907b") true
  JP (λ_ h=>by cases h) D4 (λ_ h=>by cases h) mappingTurns_row_tie rfl ⟨rfl,rfl⟩ Dg rfl
  (λf fn hf hfn=>by
   obtain rfl:f=5:=Option.some.inj (closedB_MappingTurns.symm.trans hf) |>.symm
   obtain rfl:fn=Tryz.f5:=(Option.some.inj (Tryz.func5.symm.trans hfn)).symm
   exact⟨IK,λj t ht=>by
    rw[Tryz.params5]at ht
    have hm:t∈[26,26]:=by simpa using Array.mem_of_getElem? ht
    exact(show Tryz.prog.wantsStandIn t=false by simpa using List.all_eq_true.1 Gf t hm)⟩)
  H2
#print axioms MappingTurnsProved
end Go.Proofs.YtlpdhcjkhfkfmaaGreatDoor
