/- The law ReadScalars returns true at every input, and each argument reads afterwards as it read before. No condition. -/
import Derived.Test.YtjohlemfgcmaoaaGreatDoorPpF
namespace Go.Proofs.YtjohlemfgcmaoaaGreatDoor
open Go Go.X Go.ChangeShapes Go.WideShapes Go.ChangeAt Go.RowKit
open Go.ChangeMaps (open_string shut_string)
set_option linter.unusedVariables false
set_option maxRecDepth 100000 in
theorem zf8 (os:Os) (started:os.Started) (H:Type) (enc:TypeId×Value->H):
  ReturnsInHanded {} Tryz.checked os 5 .any (λw args=>(Rows.readScalarsSpec.pre enc Tryz.prog Tryz.f5 Rows.readScalarsRow.domain false w args/\laidMetH Tryz.prog zjd w)/\sizedMet enc Tryz.prog Tryz.f5 (OpenSpec.ofChange Rows.readScalarsSpec) false w args)
   (Rows.readScalarsSpec.post enc Tryz.prog Tryz.f5 false true false false):=by
 refine zmy (C:=Tryz.checked) (X:=λw _=>laidMetH Tryz.prog zjd w) (λ_ _ _ hh h=>h.of_heap hh) Tryz.own started (by kernel_rfl) Tryz.func5
  (ChangeSpec.witness_shaped (enc:=enc) (C:=Tryz.checked) (os:=os) (X:=λw _=>laidMetH Tryz.prog zjd w) false (qdm os) #[.string ⟨#[]⟩,.string ⟨#[]⟩] 8 (World.laidAll_os _ _ _) (zry os _) (by kernel_rfl) (by kernel_rfl) (by kernel_rfl) (z2u os _)) ?_
 intro W base args ds gs before hval0 hW hZ hL hS
 have hg:=qdl hL hS
 have hval:∀(j:Nat) t v,Tryz.f5.params[j]?=some t->args[j]?=some v->Value.okWide Tryz.prog W .any base t v:=hval0
 have hW':=hW
 obtain⟨p,q,hA0,hV,rfl,hfz,hnd⟩:=hW
 have hA:DataW.TrodAll enc Tryz.prog W 0 (λ_=>true) true Tryz.f5.params.toList args.toList ds p:=hA0
 rw[Tryz.params5]at hA hval
 obtain⟨v0,vs0,d0,ds0,p0,q0,hargs,rfl,rfl,h0,r0⟩:=trodAll_cons hA
 obtain⟨v1,vs1,d1,ds1,p1,q1,rfl,rfl,rfl,h1,r1⟩:=trodAll_cons r0
 obtain⟨rfl,rfl,rfl⟩:=trodAll_nil r1
 obtain rfl:args=#[v0,v1]:=by cases args;simp_all
 obtain⟨rfl,rfl⟩:=trodVars_none hV
 have lt0:∀x∈p0,x.block<W.heap.size:=by obtain⟨m,hm⟩:=h0;exact DataW.trod_lt m _ _ _ hm
 have lt1:∀x∈p1,x.block<W.heap.size:=by obtain⟨m,hm⟩:=h1;exact DataW.trod_lt m _ _ _ hm
 obtain⟨x0,rfl,rfl,rfl,w0⟩:=open_string Tryz.underlying9 (hval 0 9 v0 rfl rfl) h0
 have o0:RdV (Fz W) .str x0 (.string x0):=rdStr x0
 obtain⟨x1,rfl,rfl,rfl,w1⟩:=open_string Tryz.underlying9 (hval 1 9 v1 rfl rfl) h1
 have o1:RdV (Fz W) .str x1 (.string x1):=rdStr x1
 clear hA0 hval0
 refine(zro (zss hg (qa5 hL) (zpv (zt7 hZ (j:=0) rfl rfl)) (zpv (zt7 hZ (j:=1) rfl rfl)) rfl) (Qw o0 (Qw o1 Yk))).mono λe W' ⟨he,bel⟩=>?_
 subst he
 exact⟨_,rfl,_,_,_,[],_,[],hW',trodAll_mk1 (shut_bool Tryz.underlying4 _),(trodAll_cons_mk (Below.trod Tryz.laidOut (by kernel_rfl) (of_decide_eq_true (by kernel_rfl)) h0 bel lt0) (trodAll_cons_mk (Below.trod Tryz.laidOut (by kernel_rfl) (of_decide_eq_true (by kernel_rfl)) h1 bel lt1) trodAll_mk0)),rfl,bel.frame _,λh=>by cases h⟩
/- Closed facts, each by itself: the kernel gives its memory back behind each. -/
theorem zes:joinedFacts Tryz.pinned.checked.prog 5 Tryz.f5 Rows.readScalarsSpec Rows.readScalarsRow=true:=by kernel_rfl
theorem closedB_ReadScalars:Tryz.pinned.checked.prog.funcNamed Rows.readScalarsRow.func=some 5:=by kernel_rfl
theorem zet:Tryz.f5.isInstance Tryz.pinned.checked.prog Rows.readScalarsRow.origin Rows.readScalarsRow.targs:=of_decide_eq_true (by kernel_rfl)
theorem zeu:Tryz.f5.isWrapper Tryz.pinned.checked.prog Rows.readScalarsRow.wrapper Rows.readScalarsRow.mainSum:=by
 unfold Func.isWrapper;first|(rw[if_pos (by decide +kernel)];kernel_rfl)|(rw[if_neg (by decide +kernel)];exact⟨rfl,rfl⟩)
theorem zev:Rows.readScalarsRow.wfByText (OpenSpec.ofChange Rows.readScalarsSpec)=true:=by kernel_rfl
theorem zew : Tryz.pinned.checked.prog.mainIs = some (true, "f4175d477fc9cabb7fed400f14f396e7c5fe7eb1e191b280800561e608d17418".toList) := by kernel_rfl
theorem zex:true=Tryz.pinned.checked.prog.looks []:=by kernel_rfl
theorem zey:false=Rows.readScalarsRow.goesBy Tryz.pinned.checked.prog:=by kernel_rfl
theorem zez:([9,9].all λu=>!Tryz.prog.wantsStandIn u)=true:=by kernel_rfl
theorem zhu:Rows.readScalarsRow.holds Tryz.pinned (OpenSpec.ofChange Rows.readScalarsSpec):=
 OpenClaim.holds_of_wide 5 Tryz.f5 rfl rfl rfl rfl rfl rfl rfl ⟨rfl,rfl,rfl,rfl,rfl⟩ rfl rfl rfl rfl rfl closedB_ReadScalars Tryz.func5 zes zet zeu
  (λos started H enc _=>zf8 os started H enc)
theorem ReadScalarsProved:Rows.ReadScalarsCardSaid:=
 Claim7.holds_tied_plain_at .later [] [.data, .data, .data, .data, .sentinel, .sentinel, .pinned] true (true, "f4175d477fc9cabb7fed400f14f396e7c5fe7eb1e191b280800561e608d17418") true
  zhu (λ_ h=>by cases h) zev (λ_ h=>by cases h) readScalars_row_tie rfl ⟨rfl,rfl⟩ zew rfl
  (λf fn hf hfn=>by
   obtain rfl:f=5:=Option.some.inj (closedB_ReadScalars.symm.trans hf) |>.symm
   obtain rfl:fn=Tryz.f5:=(Option.some.inj (Tryz.func5.symm.trans hfn)).symm
   exact⟨zex,λj t ht=>by
    rw[Tryz.params5]at ht
    have hm:t∈[9,9]:=by simpa using Array.mem_of_getElem? ht
    exact(show Tryz.prog.wantsStandIn t=false by simpa using List.all_eq_true.1 zez t hm)⟩)
  zey
#print axioms ReadScalarsProved
end Go.Proofs.YtjohlemfgcmaoaaGreatDoor
