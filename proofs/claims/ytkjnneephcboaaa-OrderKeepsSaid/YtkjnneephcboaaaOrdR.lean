import Derived.Test.YtkjnneephcboaaaOrdQ
namespace Go.Proofs.Ytkjnneephcboaaa
open Go Go.X Go.Proofs Go.Sort
set_option linter.unusedVariables false

theorem shortL_len {xs : List ByteArray} (h : shortL xs = true) : xs.length ≤ 200 := by
  simp [shortL] at h; exact h.1

theorem guard4 {a b c d e : Bool} (h : (bif (!(bif (bif (bif a then b else false) then c else false) then d else false)) then true else e) = false) : a = true ∧ b = true ∧ c = true ∧ d = true ∧ e = false := by
  cases a <;> cases b <;> cases c <;> cases d <;> cases e <;> simp at h ⊢

theorem Tells_spec {n : Nat} {h : Heap} {b l r s : Sl} {xb xl xr xs : List ByteArray} (hb : Strs n h b xb) (hl : Strs n h l xl) (hr : Strs n h r xr) (hs : Strs n h s xs) (hn : n ≤ h.size) (x y : ByteArray) :
    XC Try.prog 3 #[.slice b.a b.len b.cap, .slice l.a l.len l.cap, .slice r.a r.len r.cap, .slice s.a s.len s.cap, .string x, .string y] h fun v h' => v = .bool true ∧ Keep h.size h h' := by
  refine sh_scarflaw23_OrderTells _ _ _ _ _ _ _ _ ((small_spec h).mono ?_)
  rintro v h1 ⟨rfl, k1⟩
  have z1 := k1.size
  refine ⟨true, rfl, (xcSame (Short_spec (hb.keep (k1.mono hn)))).mono ?_⟩
  rintro v h2 ⟨rfl, k2⟩
  have z2 := k2.size
  have kk2 := k1.trans k2 (by omega)
  refine ⟨_, rfl, joinBool (val := shortL xl) (fun _ => xcSame (Short_spec (hl.keep (kk2.mono hn)))) ?_⟩
  intro h3 k3
  have z3 := k3.size
  have kk3 := kk2.trans k3 (by omega)
  refine joinBool (val := shortL xr) (fun _ => xcSame (Short_spec (hr.keep (kk3.mono hn)))) ?_
  intro h4 k4
  have z4 := k4.size
  have kk4 := kk3.trans k4 (by omega)
  refine joinBool (val := shortL xs) (fun _ => xcSame (Short_spec (hs.keep (kk4.mono hn)))) ?_
  intro h5 k5
  have z5 := k5.size
  have kk5 := kk4.trans k5 (by omega)
  refine ⟨fun _ => ⟨rfl, kk5⟩, fun e => ?_⟩
  obtain ⟨eb, el, er, es, e30⟩ := guard4 e
  have lb := shortL_len eb
  have ll := shortL_len el
  have lr := shortL_len er
  have ls := shortL_len es
  have hslen := hs.1
  intro h6
  have s6 : h6.size = h5.size + 1 := Array.size_push _
  have k6 : Keep h5.size h5 h6 := Keep.push _ _ (Nat.le_refl _)
  have g6 : h6[h5.size]? = some (.cells #[] 9 (0, 0)) := get_push _ _
  clear_value h6
  have kk6 := kk5.trans k6 (by omega)
  have own0 : Owns h6 h5.size 9 1 ⟨some ⟨h5.size, 0, none⟩, 0, 0⟩ [] := ⟨rfl, .inr ⟨h5.size, 0, #[], rfl, Nat.le_refl _, g6, Nat.le_refl _, by unfold maxLen; omega, rfl, rfl⟩⟩
  refine append_own elemStr own0 (src := s) (news := xs.map Value.string) (n := n) (hs.keep (kk6.mono hn)).2 (by simp [hs.1]) (by simp [Value.oneCell']) (by simp only; omega) (by simp only; omega) (by omega) fun s' h7 e1 e2 e3 e4 e5 => ⟨s', rfl, ?_⟩
  have k7 : Keep h.size h h7 := ⟨by omega, fun i hi => ((e3 i (by omega) fun p hp => by simp at hp; subst hp; simp; omega).trans (k6.get i (by omega))).trans (kk5.get i hi)⟩
  simp only [List.nil_append] at e2
  have hin : Strs h7.size h7 s' xs := ownStrs e2
  have hcs : s'.len ≤ s'.cap := by
    have := ownLe e2
    rcases e2.2 with ⟨hv, h0⟩ | ⟨g, cap, cur, hv, _, _, hnc, _⟩
    · omega
    · simp only [Value.slice.injEq] at hv; omega
  have kn := k7.mono hn
  have z7 := k7.size
  refine (Ahead_spec (hb.keep kn) (hl.keep kn) (hr.keep kn) (by omega) x y (by omega) (by omega) (by omega)).mono ?_
  rintro v h8 ⟨rfl, k8⟩
  have z8 := k8.size
  have kk8 := k7.trans k8 (by omega)
  refine ⟨_, _, rfl, (xcSame (refAhead_spec (hb.keep (kk8.mono hn)) (hl.keep (kk8.mono hn)) (hr.keep (kk8.mono hn)) x y (by omega) (by omega) (by omega))).mono ?_⟩
  rintro v h9 ⟨rfl, k9⟩
  have z9 := k9.size
  have kk9 := kk8.trans k9 (by omega)
  have k79 := k8.trans k9 (by omega)
  have up : ∀ {q : Sl} {ys : List ByteArray}, Strs n h9 q ys → Strs h7.size h9 q ys := fun H => H.mono (by omega)
  refine ⟨_, _, rfl, (Merge_done (n := h7.size) (up (hb.keep (kk9.mono hn))) (up (hl.keep (kk9.mono hn))) (up (hr.keep (kk9.mono hn))) (hin.keep k79) (by omega) hcs (by omega) (by omega) (by omega) (by omega)).mono ?_⟩
  rintro v h10 ⟨k10, zl, rfl, ol⟩
  have z10 := k10.size
  have kk10 := kk9.trans k10 (by omega)
  refine ⟨zl, _, rfl, (refMerge_spec (hb.keep (kk10.mono hn)) (hl.keep (kk10.mono hn)) (hr.keep (kk10.mono hn)) (hs.keep (kk10.mono hn)) (by omega) (by omega) (by omega) (by omega) (by omega)).mono ?_⟩
  rintro v h11 ⟨k11, zm, rfl, om⟩
  have z11 := k11.size
  have kk11 := kk10.trans k11 (by omega)
  have hml := mergeS_len xb xl xr xs
  refine ⟨zm, _, rfl, ?_⟩
  refine joinBool (val := true) (fun _ => (xcSame (Same_spec ((ol.keep k11).mono k11.size) om (by omega))).mono fun v h' hv => ⟨by simpa using hv.1, hv.2⟩) ?_
  intro h12 k12
  have z12 := k12.size
  have kk12 := kk11.trans k12 (by omega)
  refine joinBool (val := onceL xs) (fun _ => Once_spec (hs.keep (kk12.mono hn)) (by omega) (by omega)) ?_
  intro h13 k13
  have z13 := k13.size
  have kk13 := kk12.trans k13 (by omega)
  refine joinBool (val := onceL xs) (fun _ => xcSame (refOnce_spec (hs.keep (kk13.mono hn)) (by omega))) ?_
  intro h14 k14
  have z14 := k14.size
  have kk14 := kk13.trans k14 (by omega)
  have k714 : Keep h7.size h7 h14 := (((((k79.trans k10 (by omega)).trans k11 (by omega)).trans k12 (by omega)).trans k13 (by omega)).trans k14 (by omega))
  refine joinBool (val := true) (fun _ => (xcSame (Same_spec (hin.keep k714) ((hs.keep (kk14.mono hn)).mono (by omega)) (by omega))).mono fun v h' hv => ⟨by simpa using hv.1, hv.2⟩) ?_
  intro h15 k15
  refine ⟨?_, kk14.trans k15 (by omega)⟩
  simp
end Go.Proofs.Ytkjnneephcboaaa
