/- The law ReadBack returns true at every input, and each argument reads afterwards as it read before. No condition. -/
import Derived.Test.YtjohlemfgcmaoaaGreatDoorPqG
namespace Go.Proofs.YtjohlemfgcmaoaaGreatDoor
open Go Go.X Go.ChangeShapes Go.WideShapes Go.ChangeAt Go.RowKit
open Go.ChangeMaps (open_string shut_string)
set_option linter.unusedVariables false
set_option maxRecDepth 100000 in
theorem zi7 (os:Os) (started:os.Started) (H:Type) (enc:TypeId×Value->H):
  ReturnsInHanded {} Tryz.checked os 7 .any (λw args=>(Rows.readBackSpec.pre enc Tryz.prog Tryz.f7 Rows.readBackRow.domain false w args/\laidMetH Tryz.prog zid w)/\sizedMet enc Tryz.prog Tryz.f7 (OpenSpec.ofChange Rows.readBackSpec) false w args)
   (Rows.readBackSpec.post enc Tryz.prog Tryz.f7 false true false false):=by
 refine zmz (C:=Tryz.checked) (X:=λw _=>laidMetH Tryz.prog zid w) (λ_ _ _ hh h=>h.of_heap hh) Tryz.own started (by kernel_rfl) Tryz.func7
  (ChangeSpec.witness_shaped (enc:=enc) (C:=Tryz.checked) (os:=os) (X:=λw _=>laidMetH Tryz.prog zid w) false (qgt os) #[.string ⟨#[]⟩,.agg #[.int .i64 0,.string ⟨#[]⟩,.slice none 0 0,.slice none 0 0],.int .i64 0] 8 (World.laidAll_os _ _ _) (zsq os _) (by kernel_rfl) (by kernel_rfl) (by kernel_rfl) (z5u os _)) ?_
 intro W base args ds gs before hval0 hW hZ hL hS
 have hg:=qgs hL hS
 have hval:∀(j:Nat) t v,Tryz.f7.params[j]?=some t->args[j]?=some v->Value.okWide Tryz.prog W .any base t v:=hval0
 have hW':=hW
 obtain⟨p,q,hA0,hV,rfl,hfz,hnd⟩:=hW
 have hA:DataW.TrodAll enc Tryz.prog W 0 (λ_=>true) true Tryz.f7.params.toList args.toList ds p:=hA0
 rw[Tryz.params7]at hA hval
 obtain⟨v0,vs0,d0,ds0,p0,q0,hargs,rfl,rfl,h0,r0⟩:=trodAll_cons hA
 obtain⟨v1,vs1,d1,ds1,p1,q1,rfl,rfl,rfl,h1,r1⟩:=trodAll_cons r0
 obtain⟨v2,vs2,d2,ds2,p2,q2,rfl,rfl,rfl,h2,r2⟩:=trodAll_cons r1
 obtain⟨rfl,rfl,rfl⟩:=trodAll_nil r2
 obtain rfl:args=#[v0,v1,v2]:=by cases args;simp_all
 obtain⟨rfl,rfl⟩:=trodVars_none hV
 have lt0:∀x∈p0,x.block<W.heap.size:=by obtain⟨m,hm⟩:=h0;exact DataW.trod_lt m _ _ _ hm
 have lt1:∀x∈p1,x.block<W.heap.size:=by obtain⟨m,hm⟩:=h1;exact DataW.trod_lt m _ _ _ hm
 have lt2:∀x∈p2,x.block<W.heap.size:=by obtain⟨m,hm⟩:=h2;exact DataW.trod_lt m _ _ _ hm
 obtain⟨x0,rfl,rfl,rfl,w0⟩:=open_string Tryz.underlying9 (hval 0 9 v0 rfl rfl) h0
 have o0:RdV (Fz W) .str x0 (.string x0):=rdStr x0
 obtain⟨c1,rfl,_⟩:=okWide_struct Tryz.underlying26 (hval 1 26 v1 rfl rfl)
 obtain⟨x1,o1⟩:∃t:Tr,RdV (Fz W) .tree t (.agg c1):=by obtain⟨fu,hf⟩:=h1;obtain⟨t,hx⟩:=qa5 _ _ _ hf (z5v hZ (j:=1) rfl rfl);exact⟨t,z5k hx⟩
 obtain⟨x2,rfl,rfl,rfl,w2⟩:=open_int Tryz.underlying3 (hval 2 3 v2 rfl rfl) h2
 have o2:RdV (Fz W) (.int .i64) x2 (.int .i64 x2):=Jf .i64 x2
 clear hA0 hval0
 refine(zsh (z7v hg (qee hL) rfl) (yj o0 (yj o1 (yj o2 jy)))).mono λe W' ⟨he,bel⟩=>?_
 subst he
 exact⟨_,rfl,_,_,_,[],_,[],hW',trodAll_mk1 (shut_bool Tryz.underlying4 _),(trodAll_cons_mk (Below.trod Tryz.laidOut (by kernel_rfl) (of_decide_eq_true (by kernel_rfl)) h0 bel lt0) (trodAll_cons_mk (Below.trod Tryz.laidOut (by kernel_rfl) (of_decide_eq_true (by kernel_rfl)) h1 bel lt1) (trodAll_cons_mk (Below.trod Tryz.laidOut (by kernel_rfl) (of_decide_eq_true (by kernel_rfl)) h2 bel lt2) trodAll_mk0))),rfl,bel.frame _,λh=>by cases h⟩
/- Closed facts, each by itself: the kernel gives its memory back behind each. -/
theorem zf7:joinedFacts Tryz.pinned.checked.prog 7 Tryz.f7 Rows.readBackSpec Rows.readBackRow=true:=by kernel_rfl
theorem closedB_ReadBack:Tryz.pinned.checked.prog.funcNamed Rows.readBackRow.func=some 7:=by kernel_rfl
theorem zf8:Tryz.f7.isInstance Tryz.pinned.checked.prog Rows.readBackRow.origin Rows.readBackRow.targs:=of_decide_eq_true (by kernel_rfl)
theorem zf9:Tryz.f7.isWrapper Tryz.pinned.checked.prog Rows.readBackRow.wrapper Rows.readBackRow.mainSum:=by
 unfold Func.isWrapper;first|(rw[if_pos (by decide +kernel)];kernel_rfl)|(rw[if_neg (by decide +kernel)];exact⟨rfl,rfl⟩)
theorem zga:Rows.readBackRow.wfByText (OpenSpec.ofChange Rows.readBackSpec)=true:=by kernel_rfl
theorem zgb : Tryz.pinned.checked.prog.mainIs = some (true, "f4175d477fc9cabb7fed400f14f396e7c5fe7eb1e191b280800561e608d17418".toList) := by kernel_rfl
theorem zgc:true=Tryz.pinned.checked.prog.looks []:=by kernel_rfl
theorem zgd:false=Rows.readBackRow.goesBy Tryz.pinned.checked.prog:=by kernel_rfl
theorem zge:([9,26,3].all λu=>!Tryz.prog.wantsStandIn u)=true:=by kernel_rfl
theorem znz:Rows.readBackRow.holds Tryz.pinned (OpenSpec.ofChange Rows.readBackSpec):=
 OpenClaim.holds_of_wide 7 Tryz.f7 rfl rfl rfl rfl rfl rfl rfl ⟨rfl,rfl,rfl,rfl,rfl⟩ rfl rfl rfl rfl rfl closedB_ReadBack Tryz.func7 zf7 zf8 zf9
  (λos started H enc _=>zi7 os started H enc)
theorem ReadBackProved:Rows.ReadBackCardSaid:=
 Claim7.holds_tied_plain_at .later [] [.data, .data, .data, .data, .sentinel, .sentinel, .pinned] true (true, "f4175d477fc9cabb7fed400f14f396e7c5fe7eb1e191b280800561e608d17418") true
  znz (λ_ h=>by cases h) zga (λ_ h=>by cases h) readBack_row_tie rfl ⟨rfl,rfl⟩ zgb rfl
  (λf fn hf hfn=>by
   obtain rfl:f=7:=Option.some.inj (closedB_ReadBack.symm.trans hf) |>.symm
   obtain rfl:fn=Tryz.f7:=(Option.some.inj (Tryz.func7.symm.trans hfn)).symm
   exact⟨zgc,λj t ht=>by
    rw[Tryz.params7]at ht
    have hm:t∈[9,26,3]:=by simpa using Array.mem_of_getElem? ht
    exact(show Tryz.prog.wantsStandIn t=false by simpa using List.all_eq_true.1 zge t hm)⟩)
  zgd
#print axioms ReadBackProved
end Go.Proofs.YtjohlemfgcmaoaaGreatDoor
