/- The law ReadPaths returns true at every input, and each argument reads afterwards as it read before. No condition. -/
import Derived.Test.YtjohlemfgcmaoaaGreatDoorPoF
namespace Go.Proofs.YtjohlemfgcmaoaaGreatDoor
open Go Go.X Go.ChangeShapes Go.WideShapes Go.ChangeAt Go.RowKit
open Go.ChangeMaps (open_string shut_string)
set_option linter.unusedVariables false
set_option maxRecDepth 100000 in
theorem ze6 (os:Os) (started:os.Started) (H:Type) (enc:TypeId×Value->H):
  ReturnsInHanded {} Tryz.checked os 6 .any (λw args=>(Rows.readPathsSpec.pre enc Tryz.prog Tryz.f6 Rows.readPathsRow.domain false w args/\laidMetH Tryz.prog znu w)/\sizedMet enc Tryz.prog Tryz.f6 (OpenSpec.ofChange Rows.readPathsSpec) false w args)
   (Rows.readPathsSpec.post enc Tryz.prog Tryz.f6 false true false false):=by
 refine zlb (C:=Tryz.checked) (X:=λw _=>laidMetH Tryz.prog znu w) (λ_ _ _ hh h=>h.of_heap hh) Tryz.own started (by kernel_rfl) Tryz.func6
  (ChangeSpec.witness_shaped (enc:=enc) (C:=Tryz.checked) (os:=os) (X:=λw _=>laidMetH Tryz.prog znu w) false (qc4 os) #[.string ⟨#[]⟩,.slice none 0 0] 8 (World.laidAll_os _ _ _) (zqa os _) (by kernel_rfl) (by kernel_rfl) (by kernel_rfl) (z1a os _)) ?_
 intro W base args ds gs before hval0 hW hZ hL hS
 have hg:=qc3 hL hS
 have hval:∀(j:Nat) t v,Tryz.f6.params[j]?=some t->args[j]?=some v->Value.okWide Tryz.prog W .any base t v:=hval0
 have hW':=hW
 obtain⟨p,q,hA0,hV,rfl,hfz,hnd⟩:=hW
 have hA:DataW.TrodAll enc Tryz.prog W 0 (λ_=>true) true Tryz.f6.params.toList args.toList ds p:=hA0
 rw[Tryz.params6]at hA hval
 obtain⟨v0,vs0,d0,ds0,p0,q0,hargs,rfl,rfl,h0,r0⟩:=trodAll_cons hA
 obtain⟨v1,vs1,d1,ds1,p1,q1,rfl,rfl,rfl,h1,r1⟩:=trodAll_cons r0
 obtain⟨rfl,rfl,rfl⟩:=trodAll_nil r1
 obtain rfl:args=#[v0,v1]:=by cases args;simp_all
 obtain⟨rfl,rfl⟩:=trodVars_none hV
 have lt0:∀x∈p0,x.block<W.heap.size:=by obtain⟨m,hm⟩:=h0;exact DataW.trod_lt m _ _ _ hm
 have lt1:∀x∈p1,x.block<W.heap.size:=by obtain⟨m,hm⟩:=h1;exact DataW.trod_lt m _ _ _ hm
 obtain⟨x0,rfl,rfl,rfl,w0⟩:=open_string Tryz.underlying9 (hval 0 9 v0 rfl rfl) h0
 have o0:RdV (Fz W) .str x0 (.string x0):=rdStr x0
 obtain⟨a1,len1,cap1,rfl⟩:=okWide_slice Tryz.underlying23 (hval 1 23 v1 rfl rfl)
 obtain⟨x1,o1⟩:∃xs:List ByteArray,RdV (Fz W) (.row .str) xs (.slice a1 len1 cap1):=by obtain⟨fu,hf⟩:=h1;obtain⟨xs,hx⟩:=z6p hf (z1b hZ (j:=1) rfl rfl);exact⟨xs,z6f hx⟩
 clear hA0 hval0
 refine(zp1 (zzw hg  rfl) (jc o0 (jc o1 xb))).mono λe W' ⟨he,bel⟩=>?_
 subst he
 exact⟨_,rfl,_,_,_,[],_,[],hW',trodAll_mk1 (shut_bool Tryz.underlying4 _),(trodAll_cons_mk (Below.trod Tryz.laidOut (by kernel_rfl) (of_decide_eq_true (by kernel_rfl)) h0 bel lt0) (trodAll_cons_mk (Below.trod Tryz.laidOut (by kernel_rfl) (of_decide_eq_true (by kernel_rfl)) h1 bel lt1) trodAll_mk0)),rfl,bel.frame _,λh=>by cases h⟩
/- Closed facts, each by itself: the kernel gives its memory back behind each. -/
theorem zd2:joinedFacts Tryz.pinned.checked.prog 6 Tryz.f6 Rows.readPathsSpec Rows.readPathsRow=true:=by kernel_rfl
theorem closedB_ReadPaths:Tryz.pinned.checked.prog.funcNamed Rows.readPathsRow.func=some 6:=by kernel_rfl
theorem zd3:Tryz.f6.isInstance Tryz.pinned.checked.prog Rows.readPathsRow.origin Rows.readPathsRow.targs:=of_decide_eq_true (by kernel_rfl)
theorem zd4:Tryz.f6.isWrapper Tryz.pinned.checked.prog Rows.readPathsRow.wrapper Rows.readPathsRow.mainSum:=by
 unfold Func.isWrapper;first|(rw[if_pos (by decide +kernel)];kernel_rfl)|(rw[if_neg (by decide +kernel)];exact⟨rfl,rfl⟩)
theorem zd5:Rows.readPathsRow.wfByText (OpenSpec.ofChange Rows.readPathsSpec)=true:=by kernel_rfl
theorem zd6 : Tryz.pinned.checked.prog.mainIs = some (true, "f4175d477fc9cabb7fed400f14f396e7c5fe7eb1e191b280800561e608d17418".toList) := by kernel_rfl
theorem zd7:true=Tryz.pinned.checked.prog.looks []:=by kernel_rfl
theorem zd8:false=Rows.readPathsRow.goesBy Tryz.pinned.checked.prog:=by kernel_rfl
theorem zd9:([9,23].all λu=>!Tryz.prog.wantsStandIn u)=true:=by kernel_rfl
theorem zib:Rows.readPathsRow.holds Tryz.pinned (OpenSpec.ofChange Rows.readPathsSpec):=
 OpenClaim.holds_of_wide 6 Tryz.f6 rfl rfl rfl rfl rfl rfl rfl ⟨rfl,rfl,rfl,rfl,rfl⟩ rfl rfl rfl rfl rfl closedB_ReadPaths Tryz.func6 zd2 zd3 zd4
  (λos started H enc _=>ze6 os started H enc)
theorem ReadPathsProved:Rows.ReadPathsCardSaid:=
 Claim7.holds_tied_plain_at .later [] [.data, .data, .data, .data, .sentinel, .sentinel, .pinned] true (true, "f4175d477fc9cabb7fed400f14f396e7c5fe7eb1e191b280800561e608d17418") true
  zib (λ_ h=>by cases h) zd5 (λ_ h=>by cases h) readPaths_row_tie rfl ⟨rfl,rfl⟩ zd6 rfl
  (λf fn hf hfn=>by
   obtain rfl:f=6:=Option.some.inj (closedB_ReadPaths.symm.trans hf) |>.symm
   obtain rfl:fn=Tryz.f6:=(Option.some.inj (Tryz.func6.symm.trans hfn)).symm
   exact⟨zd7,λj t ht=>by
    rw[Tryz.params6]at ht
    have hm:t∈[9,23]:=by simpa using Array.mem_of_getElem? ht
    exact(show Tryz.prog.wantsStandIn t=false by simpa using List.all_eq_true.1 zd9 t hm)⟩)
  zd8
#print axioms ReadPathsProved
end Go.Proofs.YtjohlemfgcmaoaaGreatDoor
