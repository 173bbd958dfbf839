/- The law SchemaChecks returns true at every input, and each argument reads afterwards as it read before. No condition. -/
import Derived.Test.YtjkbohnbckpmdaaGreatDoorPnF
namespace Go.Proofs.YtjkbohnbckpmdaaGreatDoor
open Go Go.X Go.ChangeShapes Go.WideShapes Go.ChangeAt Go.RowKit
open Go.ChangeMaps (open_string shut_string)
set_option linter.unusedVariables false
set_option maxRecDepth 100000 in
theorem OY (os:Os) (started:os.Started) (H:Type) (enc:TypeId×Value->H):
  ReturnsInHanded {} Tryz.checked os 3 .any (λw args=>(Rows.schemaChecksSpec.pre enc Tryz.prog Tryz.f3 Rows.schemaChecksRow.domain false w args/\laidMetH Tryz.prog kN w)/\sizedMet enc Tryz.prog Tryz.f3 (OpenSpec.ofChange Rows.schemaChecksSpec) false w args)
   (Rows.schemaChecksSpec.post enc Tryz.prog Tryz.f3 false true false false):=by
 refine OE (C:=Tryz.checked) (X:=λw _=>laidMetH Tryz.prog kN w) (λ_ _ _ hh h=>h.of_heap hh) Tryz.own started (by kernel_rfl) Tryz.func3
  (ChangeSpec.witness_shaped (enc:=enc) (C:=Tryz.checked) (os:=os) (X:=λw _=>laidMetH Tryz.prog kN w) false (wF os) #[.agg #[.int .i64 0,.string ⟨#[]⟩,.slice none 0 0,.slice none 0 0],.agg #[.int .i64 0,.string ⟨#[]⟩,.slice none 0 0,.slice none 0 0]] 8 (World.laidAll_os _ _ _) (OU os _) (by kernel_rfl) (by kernel_rfl) (by kernel_rfl) (JE os _)) ?_
 intro W base args ds gs before hval0 hW hZ hL hS
 have hg:=RG hL hS
 have hval:∀(j:Nat) t v,Tryz.f3.params[j]?=some t->args[j]?=some v->Value.okWide Tryz.prog W .any base t v:=hval0
 have hW':=hW
 obtain⟨p,q,mn,hV,rfl,hfz,hnd⟩:=hW
 have hA:DataW.TrodAll enc Tryz.prog W 0 (λ_=>true) true Tryz.f3.params.toList args.toList ds p:=mn
 rw[Tryz.params3]at hA hval
 obtain⟨v0,vs0,d0,ds0,p0,q0,hargs,rfl,rfl,h0,r0⟩:=trodAll_cons hA
 obtain⟨v1,vs1,d1,ds1,p1,q1,rfl,rfl,rfl,h1,r1⟩:=trodAll_cons r0
 obtain⟨rfl,rfl,rfl⟩:=trodAll_nil r1
 obtain rfl:args=#[v0,v1]:=by cases args;simp_all
 obtain⟨rfl,rfl⟩:=trodVars_none hV
 have lt0:∀x∈p0,x.block<W.heap.size:=by obtain⟨m,hm⟩:=h0;exact DataW.trod_lt m _ _ _ hm
 have lt1:∀x∈p1,x.block<W.heap.size:=by obtain⟨m,hm⟩:=h1;exact DataW.trod_lt m _ _ _ hm
 obtain⟨c0,rfl,_⟩:=okWide_struct Tryz.underlying25 (hval 0 25 v0 rfl rfl)
 obtain⟨x0,o0⟩:∃t:Tr,RdV (Fz W) .tree t (.agg c0):=by obtain⟨fu,hf⟩:=h0;obtain⟨t,hx⟩:=Da _ _ _ hf (Ff hZ (j:=0) rfl rfl);exact⟨t,BB hx⟩
 obtain⟨c1,rfl,_⟩:=okWide_struct Tryz.underlying25 (hval 1 25 v1 rfl rfl)
 obtain⟨x1,o1⟩:∃t:Tr,RdV (Fz W) .tree t (.agg c1):=by obtain⟨fu,hf⟩:=h1;obtain⟨t,hx⟩:=Da _ _ _ hf (Ff hZ (j:=1) rfl rfl);exact⟨t,BB hx⟩
 clear mn hval0
 refine(TF (MK hg  rfl) (zm o0 (zm o1 zz))).mono λe W' ⟨he,bel⟩=>?_
 subst he
 exact⟨_,rfl,_,_,_,[],_,[],hW',trodAll_mk1 (shut_bool Tryz.underlying4 _),(trodAll_cons_mk (Below.trod Tryz.laidOut (by kernel_rfl) (of_decide_eq_true (by kernel_rfl)) h0 bel lt0) (trodAll_cons_mk (Below.trod Tryz.laidOut (by kernel_rfl) (of_decide_eq_true (by kernel_rfl)) h1 bel lt1) trodAll_mk0)),rfl,bel.frame _,λh=>by cases h⟩
/- Closed facts, each by itself: the kernel gives its memory back behind each. -/
theorem If:(Rows.schemaChecksRow.inPlace==Tryz.pinned.checked.prog.inPlace 3)=true:=by kernel_rfl
theorem Lc:(Rows.schemaChecksRow.unfollowed==Tryz.pinned.checked.prog.unfollowed 3)=true:=by kernel_rfl
theorem NJ:(Rows.schemaChecksRow.recurses==Tryz.pinned.checked.prog.recurses 3)=true:=by kernel_rfl
theorem Kv:(Rows.schemaChecksRow.named==Tryz.pinned.checked.prog.varsNamed 3)=true:=by kernel_rfl
theorem Ii:joinedFacts Tryz.pinned.checked.prog 3 Tryz.f3 Rows.schemaChecksSpec Rows.schemaChecksRow=true:=by
 unfold joinedFacts
 rw[If,Lc,NJ,Kv]
 kernel_rfl
theorem closedB_SchemaChecks:Tryz.pinned.checked.prog.funcNamed Rows.schemaChecksRow.func=some 3:=by kernel_rfl
theorem TG:Tryz.f3.isInstance Tryz.pinned.checked.prog Rows.schemaChecksRow.origin Rows.schemaChecksRow.targs:=of_decide_eq_true (by kernel_rfl)
theorem TA:Tryz.f3.isWrapper Tryz.pinned.checked.prog Rows.schemaChecksRow.wrapper Rows.schemaChecksRow.mainSum:=by
 unfold Func.isWrapper;first|(rw[if_pos (by decide +kernel)];kernel_rfl)|(rw[if_neg (by decide +kernel)];exact⟨rfl,rfl⟩)
theorem JL:Rows.schemaChecksRow.wfByText (OpenSpec.ofChange Rows.schemaChecksSpec)=true:=by kernel_rfl
theorem Vt : Tryz.pinned.checked.prog.mainIs = some (true, "27664e4d23140f9cf6813536d35afb6a2279e61828af9920b3399b8430198b52".toList) := by kernel_rfl
theorem MV:true=Tryz.pinned.checked.prog.looks []:=by kernel_rfl
theorem LW:false=Rows.schemaChecksRow.goesBy Tryz.pinned.checked.prog:=by kernel_rfl
theorem UK:([25,25].all λu=>!Tryz.prog.wantsStandIn u)=true:=by kernel_rfl
theorem I9:Rows.schemaChecksRow.holds Tryz.pinned (OpenSpec.ofChange Rows.schemaChecksSpec):=
 OpenClaim.holds_of_wide 3 Tryz.f3 rfl rfl rfl rfl rfl rfl rfl ⟨rfl,rfl,rfl,rfl,rfl⟩ rfl rfl rfl rfl rfl closedB_SchemaChecks Tryz.func3 Ii TG TA
  (λos started H enc _=>OY os started H enc)
theorem SchemaChecksProved:Rows.SchemaChecksCardSaid:=
 Claim7.holds_tied_plain_at .later [] [.data, .data, .data, .data, .sentinel, .sentinel, .pinned] true (true, "27664e4d23140f9cf6813536d35afb6a2279e61828af9920b3399b8430198b52") true
  I9 (λ_ h=>by cases h) JL (λ_ h=>by cases h) schemaChecks_row_tie rfl ⟨rfl,rfl⟩ Vt rfl
  (λf fn hf hfn=>by
   obtain rfl:f=3:=Option.some.inj (closedB_SchemaChecks.symm.trans hf) |>.symm
   obtain rfl:fn=Tryz.f3:=(Option.some.inj (Tryz.func3.symm.trans hfn)).symm
   exact⟨MV,λj t ht=>by
    rw[Tryz.params3]at ht
    have hm:t∈[25,25]:=by simpa using Array.mem_of_getElem? ht
    exact(show Tryz.prog.wantsStandIn t=false by simpa using List.all_eq_true.1 UK t hm)⟩)
  LW
#print axioms SchemaChecksProved
end Go.Proofs.YtjkbohnbckpmdaaGreatDoor
