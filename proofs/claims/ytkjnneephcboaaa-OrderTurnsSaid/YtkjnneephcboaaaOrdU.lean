import Derived.Test.YtkjnneephcboaaaOrdT
import Derived.Test.YtkjnneephcboaaaOrdR
namespace Go.Proofs.Ytkjnneephcboaaa
open Go Go.X Go.Proofs Go.Sort
set_option linter.unusedVariables false

theorem Turns_spec {n : Nat} {h : Heap} {b l r s : Sl} {xb xl xr xs : List ByteArray} (hb : Strs n h b xb) (hl : Strs n h l xl) (hr : Strs n h r xr) (hs : Strs n h s xs) (hn : n ≤ h.size) (hcs : s.len ≤ s.cap) (hcl : l.len ≤ l.cap) (x y : ByteArray) :
    XC Try.prog 5 #[.slice b.a b.len b.cap, .slice l.a l.len l.cap, .slice r.a r.len r.cap, .slice s.a s.len s.cap, .string x, .string y] h fun v h' => v = .bool true ∧ Keep h.size h h' := by
  refine sh_scarflaw23_OrderTurns _ _ _ _ _ _ _ _ ((small_spec h).mono ?_)
  rintro v h1 ⟨rfl, k1⟩
  have z1 := k1.size
  refine ⟨true, rfl, (xcSame (Short_spec (hb.keep (k1.mono hn)))).mono ?_⟩
  rintro v h2 ⟨rfl, k2⟩
  have z2 := k2.size
  have kk2 := k1.trans k2 (by omega)
  refine ⟨_, rfl, joinBool (val := shortL xl) (fun _ => xcSame (Short_spec (hl.keep (kk2.mono hn)))) ?_⟩
  intro h3 k3
  have z3 := k3.size
  have kk3 := kk2.trans k3 (by omega)
  refine joinBool (val := shortL xr) (fun _ => xcSame (Short_spec (hr.keep (kk3.mono hn)))) ?_
  intro h4 k4
  have z4 := k4.size
  have kk4 := kk3.trans k4 (by omega)
  refine joinBool (val := shortL xs) (fun _ => xcSame (Short_spec (hs.keep (kk4.mono hn)))) ?_
  intro h5 k5
  have z5 := k5.size
  have kk5 := kk4.trans k5 (by omega)
  refine ⟨fun _ => ⟨rfl, kk5⟩, fun e => ?_⟩
  obtain ⟨eb, el, er, es, e30⟩ := guard4 e
  have lb := shortL_len eb
  have ll := shortL_len el
  have lr := shortL_len er
  have ls := shortL_len es
  have K := fun {h' : Heap} (k : Keep h.size h h') => k.mono hn
  refine (Merge_done (n := n) (hb.keep (K kk5)) (hl.keep (K kk5)) (hr.keep (K kk5)) (hs.keep (K kk5)) (by omega) hcs (by omega) (by omega) (by omega) (by omega)).mono ?_
  rintro v h6 ⟨k6, za, rfl, oa⟩
  have z6 := k6.size
  have kk6 := kk5.trans k6 (by omega)
  refine ⟨za, _, rfl, (Merge_done (n := n) (hb.keep (K kk6)) (hr.keep (K kk6)) (hl.keep (K kk6)) (hs.keep (K kk6)) (by omega) hcs (by omega) (by omega) (by omega) (by omega)).mono ?_⟩
  rintro v h7 ⟨k7, zb, rfl, ob⟩
  have z7 := k7.size
  have kk7 := kk6.trans k7 (by omega)
  rw [← mergeS_swap xb xl xr xs] at ob
  rw [← mergeS_swap xb xl xr xs]
  refine ⟨zb, _, rfl, (Ahead_spec (n := n) (hb.keep (K kk7)) (hl.keep (K kk7)) (hr.keep (K kk7)) (by omega) x y (by omega) (by omega) (by omega)).mono ?_⟩
  rintro v h8 ⟨rfl, k8⟩
  have z8 := k8.size
  have kk8 := kk7.trans k8 (by omega)
  refine ⟨_, _, rfl, (Ahead_spec (n := n) (hb.keep (K kk8)) (hr.keep (K kk8)) (hl.keep (K kk8)) (by omega) x y (by omega) (by omega) (by omega)).mono ?_⟩
  rintro v h9 ⟨rfl, k9⟩
  have z9 := k9.size
  have kk9 := kk8.trans k9 (by omega)
  rw [← AheadS_swap xb xl xr x y]
  refine ⟨_, _, rfl, (Ahead_spec (n := n) (hb.keep (K kk9)) (hl.keep (K kk9)) (hr.keep (K kk9)) (by omega) y x (by omega) (by omega) (by omega)).mono ?_⟩
  rintro v h10 ⟨rfl, k10⟩
  have z10 := k10.size
  have kk10 := kk9.trans k10 (by omega)
  rw [AheadS_flip xb xl xr x y]
  have hml := mergeS_len xb xl xr xs
  have ka : Keep h6.size h6 h10 := (((k7.trans k8 (by omega)).trans k9 (by omega)).trans k10 (by omega))
  have kb : Keep h7.size h7 h10 := ((k8.trans k9 (by omega)).trans k10 (by omega))
  refine ⟨_, _, rfl, joinBool (val := true) (fun _ => (xcSame (Same_spec ((oa.keep ka).mono (by omega : h6.size ≤ h7.size)) (ob.keep kb) (by omega))).mono fun v h' hv => ⟨by simpa using hv.1, hv.2⟩) ?_⟩
  intro h11 k11
  have z11 := k11.size
  have kk11 := kk10.trans k11 (by omega)
  have hr3 := AheadS_range xb xl xr x y
  have hw : IntKind.wrap .i64 (0 - (AheadS xb xl xr x y).1) = -(AheadS xb xl xr x y).1 := by rw [wrap64 (by omega) (by omega)]; omega
  refine ⟨fun e => ?_, fun _ => ?_⟩
  · exfalso; rw [hw] at e; simp at e
  refine (Once_spec (n := n) (hb.keep (K kk11)) (by omega) (by omega)).mono ?_
  rintro v h12 ⟨rfl, k12⟩
  have z12 := k12.size
  have kk12 := kk11.trans k12 (by omega)
  refine ⟨_, rfl, joinBool (val := onceL xl) (fun _ => Once_spec (n := n) (hl.keep (K kk12)) (by omega) (by omega)) ?_⟩
  intro h13 k13
  have z13 := k13.size
  have kk13 := kk12.trans k13 (by omega)
  refine ⟨fun _ => ⟨rfl, kk13⟩, fun e => ?_⟩
  obtain ⟨hob, hol⟩ : onceL xb = true ∧ onceL xl = true := by
    cases h1 : onceL xb <;> cases h2 : onceL xl <;> simp [h1, h2] at e ⊢
  have m1 := Merge_done (n := n) (hb.keep (K kk13)) (hl.keep (K kk13)) (hb.keep (K kk13)) (hl.keep (K kk13)) (by omega) hcl (by omega) (by omega) (by omega) (by omega)
  rw [merge_over hob hol] at m1
  refine m1.mono ?_
  rintro v h14 ⟨k14, zc, rfl, oc⟩
  have z14 := k14.size
  have kk14 := kk13.trans k14 (by omega)
  have m2 := Merge_done (n := n) (hb.keep (K kk14)) (hb.keep (K kk14)) (hl.keep (K kk14)) (hl.keep (K kk14)) (by omega) hcl (by omega) (by omega) (by omega) (by omega)
  rw [mergeS_swap xb xb xl xl, merge_over hob hol] at m2
  refine ⟨zc, true, rfl, m2.mono ?_⟩
  rintro v h15 ⟨k15, zd, rfl, od⟩
  have z15 := k15.size
  have kk15 := kk14.trans k15 (by omega)
  refine ⟨zd, true, rfl, joinBool (val := true) (fun _ => (xcSame (Same_spec (oc.keep k15) (((hl.keep (K kk15)).mono (by omega : n ≤ h14.size))) (by simp; omega))).mono fun v h' hv => ⟨by simpa using hv.1, hv.2⟩) ?_⟩
  intro h16 k16
  have z16 := k16.size
  have kk16 := kk15.trans k16 (by omega)
  refine joinBool (val := true) (fun _ => (xcSame (Same_spec ((oc.keep (k15.trans k16 (by omega))).mono (by omega : h14.size ≤ h15.size)) (od.keep k16) (by simp; omega))).mono fun v h' hv => ⟨by simpa using hv.1, hv.2⟩) ?_
  intro h17 k17
  exact ⟨rfl, kk16.trans k17 (by omega)⟩
end Go.Proofs.Ytkjnneephcboaaa
