import Derived.Test.YtkjnneephcboaaaOrdQ
namespace Go.Proofs.Ytkjnneephcboaaa
open Go Go.X Go.Proofs Go.Sort
set_option linter.unusedVariables false

theorem saysL_lt {xs : List ByteArray} (hn : xs.Nodup) {i j : Nat} (hi : i < xs.length) (hj : j < xs.length) (hij : i < j) : saysL xs xs[i] xs[j] = -1 := by
  unfold saysL
  rw [posL_nodup hn (List.getElem?_eq_getElem hi), posL_nodup hn (List.getElem?_eq_getElem hj)]
  simp [hij]
theorem saysL_ne {xs : List ByteArray} (hn : xs.Nodup) {s t : ByteArray} (hs : s ∈ xs) (ht : t ∈ xs) (hne : s ≠ t) : saysL xs s t ≠ 0 := by
  obtain ⟨i, hi, rfl⟩ := List.getElem_of_mem hs
  obtain ⟨j, hj, rfl⟩ := List.getElem_of_mem ht
  rcases Nat.lt_trichotomy i j with h | h | h
  · rw [saysL_lt hn hi hj h]; decide
  · subst h; exact absurd rfl hne
  · rw [saysL_flip, saysL_lt hn hj hi h]; decide

/-- Where all is said of the names, as they stand, they are merged as they stand. -/
theorem sel_linear {ah : ByteArray → ByteArray → Bool} : ∀ (l : List ByteArray), l.Nodup → (l.Pairwise fun s t => ah s t = true ∧ ah t s = false) → (∀ s ∈ l, ah s s = false) → selL ah l.length (sortL l) = some l
  | [], _, _, _ => rfl
  | x :: l, hn, hp, hs => by
    have h0 : 0 < (x :: l).length := by simp
    have hp' := List.pairwise_cons.1 hp
    have hf : freeB ah (x :: l) x = true := by
      simp only [freeB, List.all_eq_true]
      intro s hs'
      rcases List.mem_cons.1 hs' with rfl | h
      · simp [hs s List.mem_cons_self]
      · simp [(hp'.1 s h).2]
    have hl : ∀ (j : Nat) (hj : j < (x :: l).length), freeB ah (x :: l) (x :: l)[j] = true → leS (x :: l)[0] (x :: l)[j] := by
      intro j hj hfj
      by_cases e : j = 0
      · subst e; exact leS_refl _
      · obtain ⟨k, rfl⟩ : ∃ k, j = k + 1 := ⟨j - 1, by omega⟩
        simp only [List.getElem_cons_succ] at hfj
        have hm : l[k]'(by simpa using hj) ∈ l := List.getElem_mem _
        simp only [freeB, List.all_eq_true] at hfj
        have := hfj x List.mem_cons_self
        rw [(hp'.1 _ hm).1] at this
        cases this
    have := sel_least hn h0 hf hl
    rw [this]
    have ih := sel_linear l (List.nodup_cons.1 hn).2 hp'.2 fun s h => hs s (List.mem_cons_of_mem _ h)
    show Option.map _ (selL ah l.length (sortL l)) = _
    rw [ih]
    rfl

theorem merge_linear {xb xl xr xs : List ByteArray} (hro : rowsL xb xl xr = true) (hon : onceL xs = true) (h : ∀ s ∈ xs, ∀ t ∈ xs, s ≠ t → aheadS xb xl xr s t = (saysL xs s t, true)) : mergeS xb xl xr xs = some xs := by
  obtain ⟨hn, _⟩ := onceL_nodup hon
  have hnc : noContraB xb xl xr xs = true := noContraB_iff.2 fun s hs t ht => by
    by_cases e : s = t
    · rw [e, aheadS_self]
    · rw [h s hs t ht e]
  unfold mergeS
  rw [if_pos (by simp [hro, hon, hnc])]
  refine sel_linear xs hn ?_ fun s _ => ahB_self _ _ _ _
  rw [List.pairwise_iff_getElem]
  intro i j hi hj hij
  have hne : xs[i] ≠ xs[j] := fun e => by
    have := (List.nodup_iff_pairwise_ne.1 hn)
    exact (List.pairwise_iff_getElem.1 this i j hi hj hij) e
  have h1 := h _ (List.getElem_mem hi) _ (List.getElem_mem hj) hne
  have h2 := h _ (List.getElem_mem hj) _ (List.getElem_mem hi) (Ne.symm hne)
  have e1 := saysL_lt hn hi hj hij
  have e2 : saysL xs xs[j] xs[i] = 1 := by rw [saysL_flip, e1]; decide
  unfold ahB
  rw [h1, h2, e1, e2]
  exact ⟨by simp, by simp⟩

theorem aheadI_swap (p q s : Int) : aheadI p q s = aheadI p s q := by
  unfold aheadI
  by_cases hp : p = 0
  · subst hp
    by_cases hq : q = 0
    · subst hq
      by_cases hs : s = 0
      · simp [hs]
      · simp [hs]
    · by_cases hs : s = 0
      · subst hs; simp [hq]
      · by_cases e : q = s
        · subst e; rfl
        · simp [hq, hs, e, Ne.symm e]
  · simp only [if_pos hp, Or.comm]
theorem aheadS_swap (b l r : List ByteArray) (x y : ByteArray) : aheadS b l r x y = aheadS b r l x y := aheadI_swap _ _ _
theorem rowsL_swap (b l r : List ByteArray) : rowsL b l r = rowsL b r l := by
  unfold rowsL
  cases onceL b <;> cases onceL l <;> cases onceL r <;> rfl
theorem mergeS_swap (b l r xs : List ByteArray) : mergeS b l r xs = mergeS b r l xs := by
  have e1 : noContraB b l r xs = noContraB b r l xs := by unfold noContraB; simp only [aheadS_swap b l r]
  have e2 : ahB b l r = ahB b r l := by funext s t; unfold ahB; rw [aheadS_swap]
  unfold mergeS
  rw [rowsL_swap, e1, e2]
theorem AheadS_swap (b l r : List ByteArray) (x y : ByteArray) : AheadS b l r x y = AheadS b r l x y := by
  unfold AheadS; rw [rowsL_swap, aheadS_swap]
theorem AheadS_flip (b l r : List ByteArray) (x y : ByteArray) : AheadS b l r y x = (-(AheadS b l r x y).1, (AheadS b l r x y).2) := by
  unfold AheadS
  by_cases h : rowsL b l r = false ∨ x = y
  · have h' : rowsL b l r = false ∨ y = x := h.imp id Eq.symm
    rw [if_pos h, if_pos h']; rfl
  · have h' : ¬ (rowsL b l r = false ∨ y = x) := fun e => h (e.imp id Eq.symm)
    rw [if_neg h, if_neg h', aheadS_flip]
theorem AheadS_range (b l r : List ByteArray) (x y : ByteArray) : (AheadS b l r x y).1 = -1 ∨ (AheadS b l r x y).1 = 0 ∨ (AheadS b l r x y).1 = 1 := by
  unfold AheadS
  split
  · exact .inr (.inl rfl)
  · exact aheadS_range _ _ _ _ _

theorem aheadI_over {p q : Int} (hp : p = -1 ∨ p = 0 ∨ p = 1) (hq : q = -1 ∨ q = 0 ∨ q = 1) (h0 : q ≠ 0) : aheadI p q p = (q, true) := by
  rcases hp with rfl | rfl | rfl <;> rcases hq with rfl | rfl | rfl <;> first | exact absurd rfl h0 | rfl
theorem merge_over {b l : List ByteArray} (hb : onceL b = true) (hl : onceL l = true) : mergeS b l b l = some l := by
  refine merge_linear (by simp [rowsL, hb, hl]) hl fun s hs t ht hne => ?_
  exact aheadI_over (saysL_range _ _ _) (saysL_range _ _ _) (saysL_ne (onceL_nodup hl).1 hs ht hne)
theorem onceL_nil : onceL [] = true := by kernel_rfl
theorem merge_same (l : List ByteArray) : mergeS l l l l = if onceL l then some l else none := by
  cases h : onceL l with
  | true => exact merge_over h h
  | false => unfold mergeS; rw [if_neg (by simp [h])]; rfl
theorem merge_one (l : List ByteArray) : mergeS [] l [] l = if onceL l then some l else none := by
  cases h : onceL l with
  | true => exact merge_over onceL_nil h
  | false => unfold mergeS; rw [if_neg (by simp [h])]; rfl
theorem sel_free {ah : ByteArray → ByteArray → Bool} (h : ∀ s t, ah s t = false) : ∀ (l : List ByteArray), selL ah l.length l = some l
  | [] => rfl
  | x :: l => by
    have hf : (x :: l).find? (freeB ah (x :: l)) = some x := by
      rw [List.find?_cons_of_pos]
      simp [freeB, h]
    show (match (x :: l).find? (freeB ah (x :: l)) with
      | none => none
      | some y => (selL ah l.length ((x :: l).erase y)).map (y :: ·)) = _
    rw [hf]
    simp only [List.erase_cons_head]
    rw [sel_free h l]
    rfl
theorem merge_none (xs : List ByteArray) : mergeS [] [] [] xs = if onceL xs then some (sortL xs) else none := by
  have ha : ∀ s t, aheadS [] [] [] s t = (0, true) := fun s t => rfl
  have hnc : noContraB [] [] [] xs = true := by simp [noContraB, ha]
  have hro : rowsL [] [] [] = true := by simp [rowsL, onceL_nil]
  unfold mergeS
  rw [hnc, hro]
  cases h : onceL xs with
  | false => rfl
  | true =>
    simp only [Bool.and_self, if_true]
    have := sel_free (ah := ahB [] [] []) (fun s t => by simp [ahB, ha]) (sortL xs)
    rw [(sortL_perm xs).length_eq] at this
    exact this
end Go.Proofs.Ytkjnneephcboaaa
