/- The law ReadNodes returns true at every input, and each argument reads afterwards as it read before. No condition. -/
import Derived.Test.YtjohlemfgcmaoaaGreatDoorPnF
namespace Go.Proofs.YtjohlemfgcmaoaaGreatDoor
open Go Go.X Go.ChangeShapes Go.WideShapes Go.ChangeAt Go.RowKit
open Go.ChangeMaps (open_string shut_string)
set_option linter.unusedVariables false
set_option maxRecDepth 100000 in
theorem zeq (os:Os) (started:os.Started) (H:Type) (enc:TypeId×Value->H):
  ReturnsInHanded {} Tryz.checked os 4 .any (λw args=>(Rows.readNodesSpec.pre enc Tryz.prog Tryz.f4 Rows.readNodesRow.domain false w args/\laidMetH Tryz.prog zmn w)/\sizedMet enc Tryz.prog Tryz.f4 (OpenSpec.ofChange Rows.readNodesSpec) false w args)
   (Rows.readNodesSpec.post enc Tryz.prog Tryz.f4 false true false false):=by
 refine zj5 (C:=Tryz.checked) (X:=λw _=>laidMetH Tryz.prog zmn w) (λ_ _ _ hh h=>h.of_heap hh) Tryz.own started (by kernel_rfl) Tryz.func4
  (ChangeSpec.witness_shaped (enc:=enc) (C:=Tryz.checked) (os:=os) (X:=λw _=>laidMetH Tryz.prog zmn w) false (z94 os) #[.string ⟨#[]⟩,.int .i64 0,.slice none 0 0] 8 (World.laidAll_os _ _ _) (zoy os _) (by kernel_rfl) (by kernel_rfl) (by kernel_rfl) (zzl os _)) ?_
 intro W base args ds gs before hval0 hW hZ hL hS
 have hg:=z9z hL hS
 have hval:∀(j:Nat) t v,Tryz.f4.params[j]?=some t->args[j]?=some v->Value.okWide Tryz.prog W .any base t v:=hval0
 have hW':=hW
 obtain⟨p,q,hA0,hV,rfl,hfz,hnd⟩:=hW
 have hA:DataW.TrodAll enc Tryz.prog W 0 (λ_=>true) true Tryz.f4.params.toList args.toList ds p:=hA0
 rw[Tryz.params4]at hA hval
 obtain⟨v0,vs0,d0,ds0,p0,q0,hargs,rfl,rfl,h0,r0⟩:=trodAll_cons hA
 obtain⟨v1,vs1,d1,ds1,p1,q1,rfl,rfl,rfl,h1,r1⟩:=trodAll_cons r0
 obtain⟨v2,vs2,d2,ds2,p2,q2,rfl,rfl,rfl,h2,r2⟩:=trodAll_cons r1
 obtain⟨rfl,rfl,rfl⟩:=trodAll_nil r2
 obtain rfl:args=#[v0,v1,v2]:=by cases args;simp_all
 obtain⟨rfl,rfl⟩:=trodVars_none hV
 have lt0:∀x∈p0,x.block<W.heap.size:=by obtain⟨m,hm⟩:=h0;exact DataW.trod_lt m _ _ _ hm
 have lt1:∀x∈p1,x.block<W.heap.size:=by obtain⟨m,hm⟩:=h1;exact DataW.trod_lt m _ _ _ hm
 have lt2:∀x∈p2,x.block<W.heap.size:=by obtain⟨m,hm⟩:=h2;exact DataW.trod_lt m _ _ _ hm
 obtain⟨x0,rfl,rfl,rfl,w0⟩:=open_string Tryz.underlying9 (hval 0 9 v0 rfl rfl) h0
 have o0:RdV (Fz W) .str x0 (.string x0):=rdStr x0
 obtain⟨x1,rfl,rfl,rfl,w1⟩:=open_int Tryz.underlying3 (hval 1 3 v1 rfl rfl) h1
 have o1:RdV (Fz W) (.int .i64) x1 (.int .i64 x1):=Jt .i64 x1
 obtain⟨a2,len2,cap2,rfl⟩:=okWide_slice Tryz.underlying23 (hval 2 23 v2 rfl rfl)
 obtain⟨x2,o2⟩:∃xs:List ByteArray,RdV (Fz W) (.row .str) xs (.slice a2 len2 cap2):=by obtain⟨fu,hf⟩:=h2;obtain⟨xs,hx⟩:=z2t hf (zzm hZ (j:=2) rfl rfl);exact⟨xs,z2i hx⟩
 clear hA0 hval0
 refine(zok (zx4 hg  rfl) (yu o0 (yu o1 (yu o2 j9)))).mono λe W' ⟨he,bel⟩=>?_
 subst he
 exact⟨_,rfl,_,_,_,[],_,[],hW',trodAll_mk1 (shut_bool Tryz.underlying4 _),(trodAll_cons_mk (Below.trod Tryz.laidOut (by kernel_rfl) (of_decide_eq_true (by kernel_rfl)) h0 bel lt0) (trodAll_cons_mk (Below.trod Tryz.laidOut (by kernel_rfl) (of_decide_eq_true (by kernel_rfl)) h1 bel lt1) (trodAll_cons_mk (Below.trod Tryz.laidOut (by kernel_rfl) (of_decide_eq_true (by kernel_rfl)) h2 bel lt2) trodAll_mk0))),rfl,bel.frame _,λh=>by cases h⟩
/- Closed facts, each by itself: the kernel gives its memory back behind each. -/
theorem zdr:joinedFacts Tryz.pinned.checked.prog 4 Tryz.f4 Rows.readNodesSpec Rows.readNodesRow=true:=by kernel_rfl
theorem closedB_ReadNodes:Tryz.pinned.checked.prog.funcNamed Rows.readNodesRow.func=some 4:=by kernel_rfl
theorem zds:Tryz.f4.isInstance Tryz.pinned.checked.prog Rows.readNodesRow.origin Rows.readNodesRow.targs:=of_decide_eq_true (by kernel_rfl)
theorem zdt:Tryz.f4.isWrapper Tryz.pinned.checked.prog Rows.readNodesRow.wrapper Rows.readNodesRow.mainSum:=by
 unfold Func.isWrapper;first|(rw[if_pos (by decide +kernel)];kernel_rfl)|(rw[if_neg (by decide +kernel)];exact⟨rfl,rfl⟩)
theorem zdu:Rows.readNodesRow.wfByText (OpenSpec.ofChange Rows.readNodesSpec)=true:=by kernel_rfl
theorem zdv : Tryz.pinned.checked.prog.mainIs = some (true, "f4175d477fc9cabb7fed400f14f396e7c5fe7eb1e191b280800561e608d17418".toList) := by kernel_rfl
theorem zdw:true=Tryz.pinned.checked.prog.looks []:=by kernel_rfl
theorem zdx:false=Rows.readNodesRow.goesBy Tryz.pinned.checked.prog:=by kernel_rfl
theorem zdy:([9,3,23].all λu=>!Tryz.prog.wantsStandIn u)=true:=by kernel_rfl
theorem zhc:Rows.readNodesRow.holds Tryz.pinned (OpenSpec.ofChange Rows.readNodesSpec):=
 OpenClaim.holds_of_wide 4 Tryz.f4 rfl rfl rfl rfl rfl rfl rfl ⟨rfl,rfl,rfl,rfl,rfl⟩ rfl rfl rfl rfl rfl closedB_ReadNodes Tryz.func4 zdr zds zdt
  (λos started H enc _=>zeq os started H enc)
theorem ReadNodesProved:Rows.ReadNodesCardSaid:=
 Claim7.holds_tied_plain_at .later [] [.data, .data, .data, .data, .sentinel, .sentinel, .pinned] true (true, "f4175d477fc9cabb7fed400f14f396e7c5fe7eb1e191b280800561e608d17418") true
  zhc (λ_ h=>by cases h) zdu (λ_ h=>by cases h) readNodes_row_tie rfl ⟨rfl,rfl⟩ zdv rfl
  (λf fn hf hfn=>by
   obtain rfl:f=4:=Option.some.inj (closedB_ReadNodes.symm.trans hf) |>.symm
   obtain rfl:fn=Tryz.f4:=(Option.some.inj (Tryz.func4.symm.trans hfn)).symm
   exact⟨zdw,λj t ht=>by
    rw[Tryz.params4]at ht
    have hm:t∈[9,3,23]:=by simpa using Array.mem_of_getElem? ht
    exact(show Tryz.prog.wantsStandIn t=false by simpa using List.all_eq_true.1 zdy t hm)⟩)
  zdx
#print axioms ReadNodesProved
end Go.Proofs.YtjohlemfgcmaoaaGreatDoor
