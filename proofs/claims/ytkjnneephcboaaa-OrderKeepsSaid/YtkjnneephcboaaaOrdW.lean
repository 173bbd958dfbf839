import Derived.Test.YtkjnneephcboaaaOrdT
namespace Go.Proofs.Ytkjnneephcboaaa
open Go Go.X Go.Proofs Go.Sort
set_option linter.unusedVariables false

/-- None that is told later stands ahead of one that is told earlier. -/
theorem selL_order {ah : ByteArray → ByteArray → Bool} : ∀ (n : Nat) (l r : List ByteArray), n = l.length → selL ah n l = some r → r.Pairwise fun a b => ah b a = false
  | 0, l, r, hn, h => by
    simp only [selL, Option.some.injEq] at h
    subst h
    exact List.Pairwise.nil
  | n + 1, l, r, hn, h => by
    simp only [selL] at h
    split at h
    · cases h
    · rename_i x hx
      have hm := List.mem_of_find?_eq_some hx
      have hf := List.find?_some hx
      rw [Option.map_eq_some_iff] at h
      obtain ⟨r', h1, rfl⟩ := h
      have hl : n = (l.erase x).length := by rw [List.length_erase_of_mem hm]; omega
      refine List.Pairwise.cons (fun b hb => ?_) (selL_order n _ _ hl h1)
      have hb' : b ∈ l := List.mem_of_mem_erase ((selL_perm n _ _ hl h1).mem_iff.1 hb)
      simp only [freeB, List.all_eq_true] at hf
      simpa using hf b hb'

theorem merge_keeps {xb xl xr xs r : List ByteArray} (h : mergeS xb xl xr xs = some r) : rowsL xb xl xr = true ∧ onceL xs = true ∧ r.Perm xs ∧
    ∀ (k i : Nat) (hk : k < r.length) (hi : i < r.length), k < i → (AheadS xb xl xr r[k] r[i]).2 = true ∧ (AheadS xb xl xr r[k] r[i]).1 ≤ 0 := by
  have hp := mergeS_perm h
  unfold mergeS at h
  split at h
  · rename_i hc
    simp only [Bool.and_eq_true] at hc
    obtain ⟨⟨hro, hon⟩, hnc⟩ := hc
    have hnc' := noContraB_iff.1 hnc
    have hord := selL_order _ _ _ (sortL_perm xs).length_eq.symm h
    have hnd : r.Nodup := hp.nodup_iff.2 (onceL_nodup hon).1
    refine ⟨hro, hon, hp, fun k i hk hi hki => ?_⟩
    have hne : r[k] ≠ r[i] := List.pairwise_iff_getElem.1 (List.nodup_iff_pairwise_ne.1 hnd) k i hk hi hki
    have ho : ahB xb xl xr r[i] r[k] = false := List.pairwise_iff_getElem.1 hord k i hk hi hki
    unfold AheadS
    rw [if_neg (by simp [hro, hne])]
    refine ⟨hnc' _ (hp.mem_iff.1 (List.getElem_mem hk)) _ (hp.mem_iff.1 (List.getElem_mem hi)), ?_⟩
    have hf := aheadS_flip xb xl xr r[k] r[i]
    unfold ahB at ho
    rw [hf] at ho
    have := aheadS_range xb xl xr r[k] r[i]
    simp at ho
    omega
  · cases h
end Go.Proofs.Ytkjnneephcboaaa
