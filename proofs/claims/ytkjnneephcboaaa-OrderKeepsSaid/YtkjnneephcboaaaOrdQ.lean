import Derived.Test.YtkjnneephcboaaaOrdP
namespace Go.Proofs.Ytkjnneephcboaaa
open Go Go.X Go.Proofs Go.Sort
set_option linter.unusedVariables false

theorem small_spec (h : Heap) : XC Try.prog 7 #[] h fun v h' => v = .bool true ∧ Keep h.size h h' := by
  refine sh_scarflaw23_small _ _ ?_
  intro h1 h2 h3 h4
  have s1 : h1.size = h.size + 1 := Array.size_push _
  have s2 : h2.size = h1.size + 1 := Array.size_push _
  have s3 : h3.size = h2.size + 1 := Array.size_push _
  have s4 : h4.size = h3.size + 1 := Array.size_push _
  have k1 : Keep h.size h h1 := Keep.push _ _ (Nat.le_refl _)
  have k2 : Keep h1.size h1 h2 := Keep.push _ _ (Nat.le_refl _)
  have k3 : Keep h2.size h2 h3 := Keep.push _ _ (Nat.le_refl _)
  have k4 : Keep h3.size h3 h4 := Keep.push _ _ (Nat.le_refl _)
  have b1 : Blk h1 h.size #[.string tA, .string tB, .string tC] := Blk.new _ _ _
  have b2 : Blk h2 h1.size #[.string tB, .string tA, .string tC] := Blk.new _ _ _
  have b3 : Blk h3 h2.size #[.string tA, .string tB, .string tC, .string tD] := Blk.new _ _ _
  have b4 : Blk h4 h3.size #[.string tA, .string tB, .string tC, .string tD] := Blk.new _ _ _
  clear_value h1 h2 h3 h4
  have kk4 : Keep h.size h h4 := ((k1.trans k2 (by omega)).trans k3 (by omega)).trans k4 (by omega)
  have r1 : Strs h4.size h4 ⟨some ⟨h.size, 0, none⟩, 3, 3⟩ [tA, tB, tC] := strs_blk (((b1.keepN k2 (by omega)).keepN k3 (by omega)).keepN k4 (by omega)) rfl (by omega) rfl
  have r2 : Strs h4.size h4 ⟨some ⟨h1.size, 0, none⟩, 3, 3⟩ [tB, tA, tC] := strs_blk ((b2.keepN k3 (by omega)).keepN k4 (by omega)) rfl (by omega) rfl
  have r3 : Strs h4.size h4 ⟨some ⟨h2.size, 0, none⟩, 4, 4⟩ [tA, tB, tC, tD] := strs_blk (b3.keepN k4 (by omega)) rfl (by omega) rfl
  have r4 : Strs h4.size h4 ⟨some ⟨h3.size, 0, none⟩, 4, 4⟩ [tA, tB, tC, tD] := strs_blk b4 rfl (by omega) rfl
  have m1 := Merge_done r1 r2 r3 r4 (Nat.le_refl _) (Nat.le_refl _) (by simp) (by simp) (by simp) (by simp)
  rw [small_m1] at m1
  refine m1.mono ?_
  rintro v h5 ⟨k5, z1, rfl, o1⟩
  have z5 := k5.size
  refine ⟨z1, true, rfl, ?_⟩
  intro h6 h7 h8
  have s6 : h6.size = h5.size + 1 := Array.size_push _
  have s7 : h7.size = h6.size + 1 := Array.size_push _
  have s8 : h8.size = h7.size + 1 := Array.size_push _
  have k6 : Keep h5.size h5 h6 := Keep.push _ _ (Nat.le_refl _)
  have k7 : Keep h6.size h6 h7 := Keep.push _ _ (Nat.le_refl _)
  have k8 : Keep h7.size h7 h8 := Keep.push _ _ (Nat.le_refl _)
  have b6 : Blk h6 h5.size #[.string tX] := Blk.new _ _ _
  have b7 : Blk h7 h6.size #[.string tY] := Blk.new _ _ _
  have b8 : Blk h8 h7.size #[.string tY, .string tX] := Blk.new _ _ _
  clear_value h6 h7 h8
  have kk8 : Keep h5.size h5 h8 := (k6.trans k7 (by omega)).trans k8 (by omega)
  have m2 := Merge_done (n := h8.size) (h := h8) (b := ⟨none, 0, 0⟩) (l := ⟨some ⟨h5.size, 0, none⟩, 1, 1⟩) (r := ⟨some ⟨h6.size, 0, none⟩, 1, 1⟩) (s := ⟨some ⟨h7.size, 0, none⟩, 2, 2⟩) (xb := []) (xl := [tX]) (xr := [tY]) (xs := [tY, tX])
    (Strs.nil _ _ _ _) (strs_blk ((b6.keepN k7 (by omega)).keepN k8 (by omega)) rfl (by omega) rfl) (strs_blk (b7.keepN k8 (by omega)) rfl (by omega) rfl) (strs_blk b8 rfl (by omega) rfl) (Nat.le_refl _) (Nat.le_refl _) (by simp) (by simp) (by simp) (by simp)
  rw [small_m2] at m2
  refine m2.mono ?_
  rintro v h9 ⟨k9, z2, rfl, o2⟩
  have z9 := k9.size
  refine ⟨z2, true, rfl, ?_⟩
  intro h10 h11 h12
  have s10 : h10.size = h9.size + 1 := Array.size_push _
  have s11 : h11.size = h10.size + 1 := Array.size_push _
  have s12 : h12.size = h11.size + 1 := Array.size_push _
  have k10 : Keep h9.size h9 h10 := Keep.push _ _ (Nat.le_refl _)
  have k11 : Keep h10.size h10 h11 := Keep.push _ _ (Nat.le_refl _)
  have k12 : Keep h11.size h11 h12 := Keep.push _ _ (Nat.le_refl _)
  have b10 : Blk h10 h9.size #[.string tX, .string tY] := Blk.new _ _ _
  have b11 : Blk h11 h10.size #[.string tY, .string tX] := Blk.new _ _ _
  have b12 : Blk h12 h11.size #[.string tX, .string tY] := Blk.new _ _ _
  clear_value h10 h11 h12
  have kk12 : Keep h9.size h9 h12 := (k10.trans k11 (by omega)).trans k12 (by omega)
  have m3 := Merge_done (n := h12.size) (h := h12) (b := ⟨none, 0, 0⟩) (l := ⟨some ⟨h9.size, 0, none⟩, 2, 2⟩) (r := ⟨some ⟨h10.size, 0, none⟩, 2, 2⟩) (s := ⟨some ⟨h11.size, 0, none⟩, 2, 2⟩) (xb := []) (xl := [tX, tY]) (xr := [tY, tX]) (xs := [tX, tY])
    (Strs.nil _ _ _ _) (strs_blk ((b10.keepN k11 (by omega)).keepN k12 (by omega)) rfl (by omega) rfl) (strs_blk (b11.keepN k12 (by omega)) rfl (by omega) rfl) (strs_blk b12 rfl (by omega) rfl) (Nat.le_refl _) (Nat.le_refl _) (by simp) (by simp) (by simp) (by simp)
  rw [small_m3] at m3
  refine m3.mono ?_
  rintro v h13 ⟨k13, z3, rfl, o3⟩
  have z13 := k13.size
  refine ⟨z3, false, rfl, ?_⟩
  intro h14
  have s14 : h14.size = h13.size + 1 := Array.size_push _
  have k14 : Keep h13.size h13 h14 := Keep.push _ _ (Nat.le_refl _)
  have b14 : Blk h14 h13.size #[.string tB, .string tA] := Blk.new _ _ _
  clear_value h14
  have q1 : Keep h4.size h4 h14 := (((k5.trans kk8 (by omega)).trans k9 (by omega)).trans kk12 (by omega)).trans (k13.trans k14 (by omega)) (by omega)
  have p1 : Strs h4.size h14 ⟨some ⟨h.size, 0, none⟩, 3, 3⟩ [tA, tB, tC] := r1.keep q1
  have m4 := Ahead_spec (n := h14.size) (h := h14) (b := ⟨some ⟨h.size, 0, none⟩, 3, 3⟩) (l := ⟨some ⟨h.size, 0, none⟩, 3, 3⟩) (r := ⟨some ⟨h13.size, 0, none⟩, 2, 2⟩) (xr := [tB, tA]) (p1.mono (by omega)) (p1.mono (by omega)) (strs_blk b14 rfl (by omega) rfl) (Nat.le_refl _) tA tB (by simp) (by simp) (by simp)
  rw [small_a] at m4
  refine m4.mono ?_
  rintro v h15 ⟨rfl, k15⟩
  have z15 := k15.size
  refine ⟨1, true, rfl, ?_⟩
  -- the first list to compare with
  refine ⟨fun v h' => v = .slice (some ⟨h15.size, 0, none⟩) 4 4 ∧ h'.size = h15.size + 1 ∧ Keep h15.size h15 h' ∧ Blk h' h15.size #[.string tB, .string tA, .string tC, .string tD], fun _ => ⟨rfl, Array.size_push _, Keep.push _ _ (Nat.le_refl _), Blk.new _ _ _⟩, fun e => by simp at e, fun _ v h' hv => ⟨⟨some ⟨h15.size, 0, none⟩, 4, 4⟩, hv.1⟩, ?_⟩
  rintro w1 h16 ⟨e1, s16, k16, b16⟩
  rw [e1]
  have q2 : Keep h5.size h5 h16 := ((((kk8.trans k9 (by omega)).trans kk12 (by omega)).trans k13 (by omega)).trans k14 (by omega)).trans (k15.trans k16 (by omega)) (by omega)
  have hw1 : Strs h16.size h16 w1 [tB, tA, tC, tD] := by
    simp only [Value.slice.injEq] at e1
    have := strs_blk (n := h16.size) (xs := [tB, tA, tC, tD]) (k := 4) (c := 4) b16 rfl (by omega) rfl
    refine ⟨e1.2.1, ?_⟩
    rw [e1.1]; exact this.2
  have sm1 := xcSame (Same_spec ((o1.keep q2).mono (by omega)) hw1 (by simp))
  rw [e1] at sm1
  refine joinBool (val := true) (fun _ => sm1.mono fun v h' hv => ⟨by simpa using hv.1, hv.2⟩) ?_
  intro h17 k17
  have z17 := k17.size
  refine ⟨fun v h' => v = .slice (some ⟨h17.size, 0, none⟩) 2 2 ∧ h'.size = h17.size + 1 ∧ Keep h17.size h17 h' ∧ Blk h' h17.size #[.string tX, .string tY], fun _ => ⟨rfl, Array.size_push _, Keep.push _ _ (Nat.le_refl _), Blk.new _ _ _⟩, fun e => by simp at e, fun _ v h' hv => ⟨⟨some ⟨h17.size, 0, none⟩, 2, 2⟩, hv.1⟩, ?_⟩
  rintro w2 h18 ⟨e2, s18, k18, b18⟩
  rw [e2]
  have q3 : Keep h9.size h9 h18 := ((((kk12.trans k13 (by omega)).trans k14 (by omega)).trans (k15.trans k16 (by omega)) (by omega)).trans k17 (by omega)).trans k18 (by omega)
  have hw2 : Strs h18.size h18 w2 [tX, tY] := by
    simp only [Value.slice.injEq] at e2
    have := strs_blk (n := h18.size) (xs := [tX, tY]) (k := 2) (c := 2) b18 rfl (by omega) rfl
    refine ⟨e2.2.1, ?_⟩
    rw [e2.1]; exact this.2
  have sm2 := xcSame (Same_spec ((o2.keep q3).mono (by omega)) hw2 (by simp))
  rw [e2] at sm2
  refine joinBool (val := true) (fun _ => sm2.mono fun v h' hv => ⟨by simpa using hv.1, hv.2⟩) ?_
  intro h19 k19
  have z19 := k19.size
  have q4 : Keep h4.size h4 h19 := ((((q1.trans k15 (by omega)).trans k16 (by omega)).trans k17 (by omega)).trans k18 (by omega)).trans k19 (by omega)
  refine joinBool (val := true) (fun _ => ?_) ?_
  · refine (Once_spec (n := h4.size) (r1.keep q4) (by omega) (by simp)).mono fun v h' hv => ⟨?_, hv.2⟩
    rw [hv.1]
    exact congrArg Value.bool (by kernel_rfl)
  intro h20 k20
  exact ⟨rfl, (kk4.trans q4 (by omega)).trans k20 (by have := kk4.size; have := q4.size; omega)⟩
end Go.Proofs.Ytkjnneephcboaaa
