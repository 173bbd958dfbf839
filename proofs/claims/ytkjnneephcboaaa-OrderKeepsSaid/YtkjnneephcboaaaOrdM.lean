import Derived.Test.YtkjnneephcboaaaOrdL
namespace Go.Proofs.Ytkjnneephcboaaa
open Go Go.X Go.Proofs Go.RowKit Go.Sort Go.Shelf
set_option linter.unusedVariables false

theorem encs_eq (xs : List ByteArray) : (xs.map ByteArray.toList).map encStr = xs.map Value.string := by
  rw [List.map_map]
  refine List.map_congr_left fun x _ => ?_
  simp [encStr, mk_toList]

theorem Sort_spec {h : Heap} {base : Nat} {s : Sl} {xs : List ByteArray} (H : Owns h base 9 1 s (xs.map Value.string)) (hlen : xs.length ≤ 1000) :
    XC Try.prog 32 #[.slice s.a s.len s.cap] h fun v h' => v = .tuple #[] ∧ Owns h' base 9 1 s ((sortL xs).map Value.string) ∧ h.size ≤ h'.size ∧ ∀ i, i < h.size → (∀ p, s.a = some p → i ≠ p.block) → h'[i]? = h[i]? := by
  refine XC.of_below fun B d => ?_
  have hl : s.len = xs.length := ownLe H
  have hss : (xs.map ByteArray.toList).length = xs.length := by simp
  have hsort : (sortL xs).map Value.string = ((xs.map ByteArray.toList).mergeSort fun x y => decide (x ≤ y)).map encStr := by
    unfold sortL
    rw [List.map_map]
    rfl
  rcases H.2 with ⟨hv, h0⟩ | ⟨g, cap, cur, hv, hbg, hg, r1, r2, r3, r4⟩
  · have hx : xs = [] := List.eq_nil_of_length_eq_zero (by omega)
    subst hx
    rw [h0]
    refine (AnyM.slices_Sort_string_none mSort s.a s.cap (mk B d h)).mono ?_
    rintro e w' ⟨rfl, rfl⟩
    exact ⟨_, rfl, rfl, rfl, rfl, rfl, by rw [show sortL [] = [] from List.Perm.eq_nil (sortL_perm [])]; exact H, Nat.le_refl _, fun _ _ _ => rfl⟩
  · simp only [Value.slice.injEq] at hv
    obtain ⟨ha, _, rfl⟩ := hv
    have hg' : (mk B d h).heap[g]? = some (.cells cur 9 (0, 0)) := hg
    have hgl : g < (mk B d h).heap.size := (Array.getElem?_eq_some_iff.1 hg').1
    have hH : Holds encStr (mk B d h) g 0 (xs.map ByteArray.toList).toArray := holds_of_block hg' (by rw [hss, encs_eq, ← hl]; simpa using r4)
    have hc := AnyM.slices_Sort_string mSort g 0 s.cap (xs.map ByteArray.toList) (mk B d h) hH hgl (by rw [hss]; omega)
    rw [hss, ← hl] at hc
    rw [ha]
    refine hc.mono ?_
    rintro e w' ⟨rfl, n, os, rfl⟩
    have hgr := grownBy_sorted (w := mk B d h) (g := g) (n := n) (os := os) ((xs.map ByteArray.toList).mergeSort fun x y => decide (x ≤ y)).toArray
    refine ⟨_, rfl, hgr.os, hgr.tape, hgr.output, rfl, ?_, hgr.size, fun i hi hne => hgr.block i hi fun e => hne _ rfl (by simpa using e)⟩
    have ho := ownsRow_sorted (w := mk B d h) (base := base) (n := n) (os := os) (ss := xs.map ByteArray.toList) (ts := (xs.map ByteArray.toList).mergeSort fun x y => decide (x ≤ y)) (by simp) hbg hg' (by rw [hss, ← hl]; exact r1) r2 (by simpa using r3)
    rw [← hsort, hss, ← hl] at ho
    show World.ownsRow _ base _ 1 (.slice s.a s.len s.cap) s.len _
    rw [ha]
    exact ho

theorem sortedC : SortedC := by
  intro h n g s xs hb hs hn hlen
  refine sh_slices_Sorted_string _ _ _ _ _ (sh_slices_Collect_string _ _ _ _ _ ((AppendSeq_spec hb hs hn hlen).mono ?_))
  rintro v h1 ⟨k1, s1, rfl, o1⟩
  refine ⟨s1, rfl, s1, rfl, (Sort_spec o1 hlen).mono ?_⟩
  rintro v h2 ⟨rfl, o2, z2, b2⟩
  refine ⟨rfl, ⟨Nat.le_trans k1.size z2, fun i hi => ?_⟩, s1, rfl, o2⟩
  refine (b2 i (Nat.lt_of_lt_of_le hi k1.size) fun p hp => ?_).trans (k1.get i hi)
  have := (o1.base_le p hp).1
  omega

theorem Merge_done {n : Nat} {h : Heap} {b l r s : Sl} {xb xl xr xs : List ByteArray} (hb : Strs n h b xb) (hl : Strs n h l xl) (hr : Strs n h r xr) (hs : Strs n h s xs) (hn : n ≤ h.size) (hcap : s.len ≤ s.cap)
    (cb : xb.length < 4611686018427387904) (cl : xl.length < 4611686018427387904) (cr : xr.length < 4611686018427387904) (cs : xs.length < 4611686018427387904) :
    XC Try.prog 11 #[.slice b.a b.len b.cap, .slice l.a l.len l.cap, .slice r.a r.len r.cap, .slice s.a s.len s.cap] h
      fun v h' => Keep h.size h h' ∧ ∃ z : Sl, v = .tuple #[.slice z.a z.len z.cap, .bool (mergeS xb xl xr xs).isSome] ∧ Strs h'.size h' z ((mergeS xb xl xr xs).getD []) :=
  Merge_spec sortedC hb hl hr hs hn hcap cb cl cr cs
end Go.Proofs.Ytkjnneephcboaaa
