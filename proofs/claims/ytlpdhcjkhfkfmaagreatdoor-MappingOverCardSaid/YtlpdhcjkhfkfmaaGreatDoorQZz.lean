/- The law MappingOver returns true at every input, and each argument reads afterwards as it read before. No condition. -/
import Derived.Test.YtlpdhcjkhfkfmaaGreatDoorPmF
namespace Go.Proofs.YtlpdhcjkhfkfmaaGreatDoor
open Go Go.X Go.ChangeShapes Go.WideShapes Go.ChangeAt Go.RowKit
open Go.ChangeMaps (open_string shut_string)
set_option linter.unusedVariables false
set_option maxRecDepth 100000 in
theorem G9 (os:Os) (started:os.Started) (H:Type) (enc:TypeId×Value->H):
  ReturnsInHanded {} Tryz.checked os 7 .any (λw args=>(Rows.mappingOverSpec.pre enc Tryz.prog Tryz.f7 Rows.mappingOverRow.domain false w args/\laidMetH Tryz.prog Z5 w)/\sizedMet enc Tryz.prog Tryz.f7 (OpenSpec.ofChange Rows.mappingOverSpec) false w args)
   (Rows.mappingOverSpec.post enc Tryz.prog Tryz.f7 false true false false):=by
 refine wm (C:=Tryz.checked) (X:=λw _=>laidMetH Tryz.prog Z5 w) (λ_ _ _ hh h=>h.of_heap hh) Tryz.own started (by kernel_rfl) Tryz.func7
  (ChangeSpec.witness_shaped (enc:=enc) (C:=Tryz.checked) (os:=os) (X:=λw _=>laidMetH Tryz.prog Z5 w) false (iS os) #[.agg #[.slice none 0 0,.slice none 0 0],.agg #[.slice none 0 0,.slice none 0 0],.agg #[.slice none 0 0,.slice none 0 0]] 8 (World.laidAll_os _ _ _) (Z6 os _) (by kernel_rfl) (by kernel_rfl) (by kernel_rfl) (lO os _)) ?_
 intro W base args ds gs before hval0 hW hZ hL hS
 have hg:=lL hL hS
 have hval:∀(j:Nat) t v,Tryz.f7.params[j]?=some t->args[j]?=some v->Value.okWide Tryz.prog W .any base t v:=hval0
 have hW':=hW
 obtain⟨p,q,eF,hV,rfl,hfz,hnd⟩:=hW
 have hA:DataW.TrodAll enc Tryz.prog W 0 (λ_=>true) true Tryz.f7.params.toList args.toList ds p:=eF
 rw[Tryz.params7]at hA hval
 obtain⟨v0,vs0,d0,ds0,p0,q0,hargs,rfl,rfl,h0,r0⟩:=trodAll_cons hA
 obtain⟨v1,vs1,d1,ds1,p1,q1,rfl,rfl,rfl,h1,r1⟩:=trodAll_cons r0
 obtain⟨v2,vs2,d2,ds2,p2,q2,rfl,rfl,rfl,h2,r2⟩:=trodAll_cons r1
 obtain⟨rfl,rfl,rfl⟩:=trodAll_nil r2
 obtain rfl:args=#[v0,v1,v2]:=by cases args;simp_all
 obtain⟨rfl,rfl⟩:=trodVars_none hV
 have lt0:∀x∈p0,x.block<W.heap.size:=by obtain⟨m,hm⟩:=h0;exact DataW.trod_lt m _ _ _ hm
 have lt1:∀x∈p1,x.block<W.heap.size:=by obtain⟨m,hm⟩:=h1;exact DataW.trod_lt m _ _ _ hm
 have lt2:∀x∈p2,x.block<W.heap.size:=by obtain⟨m,hm⟩:=h2;exact DataW.trod_lt m _ _ _ hm
 obtain⟨c0,rfl,_⟩:=okWide_struct Tryz.underlying25 (hval 0 25 v0 rfl rfl)
 obtain⟨x0,o0⟩:∃t:List ByteArray×List Int,RdV (Fz W) (.pair (.row .str) (.row (.int .i64))) t (.agg c0):=by obtain⟨fu,hf⟩:=h0;obtain⟨t,hx⟩:=gM hf (y9 hZ (j:=0) rfl rfl);exact⟨t,hG hx⟩
 obtain⟨c1,rfl,_⟩:=okWide_struct Tryz.underlying25 (hval 1 25 v1 rfl rfl)
 obtain⟨x1,o1⟩:∃t:List ByteArray×List Int,RdV (Fz W) (.pair (.row .str) (.row (.int .i64))) t (.agg c1):=by obtain⟨fu,hf⟩:=h1;obtain⟨t,hx⟩:=gM hf (y9 hZ (j:=1) rfl rfl);exact⟨t,hG hx⟩
 obtain⟨c2,rfl,_⟩:=okWide_struct Tryz.underlying25 (hval 2 25 v2 rfl rfl)
 obtain⟨x2,o2⟩:∃t:List ByteArray×List Int,RdV (Fz W) (.pair (.row .str) (.row (.int .i64))) t (.agg c2):=by obtain⟨fu,hf⟩:=h2;obtain⟨t,hx⟩:=gM hf (y9 hZ (j:=2) rfl rfl);exact⟨t,hG hx⟩
 clear eF hval0
 refine(Z3 (Is hg (mm hL) rfl) (zw o0 (zw o1 (zw o2 yc)))).mono λe W' ⟨he,bel⟩=>?_
 subst he
 exact⟨_,rfl,_,_,_,[],_,[],hW',trodAll_mk1 (shut_bool Tryz.underlying4 _),(trodAll_cons_mk (Below.trod Tryz.laidOut (by kernel_rfl) (of_decide_eq_true (by kernel_rfl)) h0 bel lt0) (trodAll_cons_mk (Below.trod Tryz.laidOut (by kernel_rfl) (of_decide_eq_true (by kernel_rfl)) h1 bel lt1) (trodAll_cons_mk (Below.trod Tryz.laidOut (by kernel_rfl) (of_decide_eq_true (by kernel_rfl)) h2 bel lt2) trodAll_mk0))),rfl,bel.frame _,λh=>by cases h⟩
/- Closed facts, each by itself: the kernel gives its memory back behind each. -/
theorem KY:(Rows.mappingOverRow.inPlace==Tryz.pinned.checked.prog.inPlace 7)=true:=by kernel_rfl
theorem Mz:(Rows.mappingOverRow.unfollowed==Tryz.pinned.checked.prog.unfollowed 7)=true:=by kernel_rfl
theorem Nz:(Rows.mappingOverRow.recurses==Tryz.pinned.checked.prog.recurses 7)=true:=by kernel_rfl
theorem Km:(Rows.mappingOverRow.named==Tryz.pinned.checked.prog.varsNamed 7)=true:=by kernel_rfl
theorem Gu:joinedFacts Tryz.pinned.checked.prog 7 Tryz.f7 Rows.mappingOverSpec Rows.mappingOverRow=true:=by
 unfold joinedFacts
 rw[KY,Mz,Nz,Km]
 kernel_rfl
theorem closedB_MappingOver:Tryz.pinned.checked.prog.funcNamed Rows.mappingOverRow.func=some 7:=by kernel_rfl
theorem Mh:Tryz.f7.isInstance Tryz.pinned.checked.prog Rows.mappingOverRow.origin Rows.mappingOverRow.targs:=of_decide_eq_true (by kernel_rfl)
theorem JV:Tryz.f7.isWrapper Tryz.pinned.checked.prog Rows.mappingOverRow.wrapper Rows.mappingOverRow.mainSum:=by
 unfold Func.isWrapper;first|(rw[if_pos (by decide +kernel)];kernel_rfl)|(rw[if_neg (by decide +kernel)];exact⟨rfl,rfl⟩)
theorem FF:Rows.mappingOverRow.wfByText (OpenSpec.ofChange Rows.mappingOverSpec)=true:=by kernel_rfl
theorem He : Tryz.pinned.checked.prog.mainIs = some (true, "e349a32359413628a3238a0b852d04d25296f29daabd567b4601fbce58fc907b".toList) := by kernel_rfl
theorem Hx:true=Tryz.pinned.checked.prog.looks []:=by kernel_rfl
theorem Li:false=Rows.mappingOverRow.goesBy Tryz.pinned.checked.prog:=by kernel_rfl
theorem Ft:([25,25,25].all λu=>!Tryz.prog.wantsStandIn u)=true:=by kernel_rfl
theorem Fv:Rows.mappingOverRow.holds Tryz.pinned (OpenSpec.ofChange Rows.mappingOverSpec):=
 OpenClaim.holds_of_wide 7 Tryz.f7 rfl rfl rfl rfl rfl rfl rfl ⟨rfl,rfl,rfl,rfl,rfl⟩ rfl rfl rfl rfl rfl closedB_MappingOver Tryz.func7 Gu Mh JV
  (λos started H enc _=>G9 os started H enc)
theorem MappingOverProved:Rows.MappingOverCardSaid:=
 Claim7.holds_tied_plain_at .later [] [.data, .data, .data, .data, .sentinel, .sentinel, .pinned] true (true, "e349a32359413628a3238a0b852d04d25296f29daabd567b4601fbce58fc907b") true
  Fv (λ_ h=>by cases h) FF (λ_ h=>by cases h) mappingOver_row_tie rfl ⟨rfl,rfl⟩ He rfl
  (λf fn hf hfn=>by
   obtain rfl:f=7:=Option.some.inj (closedB_MappingOver.symm.trans hf) |>.symm
   obtain rfl:fn=Tryz.f7:=(Option.some.inj (Tryz.func7.symm.trans hfn)).symm
   exact⟨Hx,λj t ht=>by
    rw[Tryz.params7]at ht
    have hm:t∈[25,25,25]:=by simpa using Array.mem_of_getElem? ht
    exact(show Tryz.prog.wantsStandIn t=false by simpa using List.all_eq_true.1 Ft t hm)⟩)
  Li
#print axioms MappingOverProved
end Go.Proofs.YtlpdhcjkhfkfmaaGreatDoor
