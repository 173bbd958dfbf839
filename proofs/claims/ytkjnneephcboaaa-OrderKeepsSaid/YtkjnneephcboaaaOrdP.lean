import Derived.Test.YtkjnneephcboaaaOrdO
namespace Go.Proofs.Ytkjnneephcboaaa
open Go Go.X Go.Proofs Go.Sort
set_option linter.unusedVariables false

/-- A guarded call that tells a bool: its value is known whether it is asked or not. -/
theorem joinBool {P : Program} {c : Bool} {f : FuncId} {args : Array Value} {h0 : Heap} {val : Bool} {Rest : Bool → Heap → Prop} (hX : c = true → XC P f args h0 fun v h' => v = .bool val ∧ Keep h0.size h0 h') (hK : ∀ h', Keep h0.size h0 h' → Rest val h') :
    ∃ J : Value → Heap → Prop, (c = true → XC P f args h0 fun v h => ∃ x : Bool, v = .bool x ∧ J (.bool x) h) ∧ (c = false → ∃ x : Bool, J (.bool x) h0) ∧ (c = true → ∀ v h, J v h → ∃ x : Bool, v = .bool x) ∧ ∀ x : Bool, ∀ h, J (.bool x) h → Rest x h := by
  refine ⟨fun v h' => v = .bool val ∧ Keep h0.size h0 h', fun e => (hX e).mono ?_, fun _ => ⟨val, rfl, Keep.refl _ _⟩, fun _ v h hv => ⟨_, hv.1⟩, ?_⟩
  · rintro v h' ⟨rfl, k⟩
    exact ⟨_, rfl, rfl, k⟩
  · rintro x h' ⟨e, k⟩
    simp only [Value.bool.injEq] at e
    subst e
    exact hK h' k
theorem xcSame {P : Program} {f : FuncId} {args : Array Value} {h : Heap} {V : Value} (H : XC P f args h fun v h' => v = V ∧ h' = h) : XC P f args h fun v h' => v = V ∧ Keep h.size h h' :=
  H.mono fun v h' ⟨e1, e2⟩ => ⟨e1, e2 ▸ Keep.refl _ _⟩

theorem strs_blk {n g : Nat} {h : Heap} {xs : List ByteArray} {cs : Array Value} (H : Blk h g cs) (hcs : cs = (xs.map Value.string).toArray) (hg : g < n) {k c : Nat} (hk : k = xs.length) : Strs n h ⟨some ⟨g, 0, none⟩, k, c⟩ xs := by
  subst hcs hk
  refine ⟨rfl, .inr ⟨g, 0, rfl, hg, fun i v hi => ?_⟩⟩
  refine H.cell ?_
  rw [Nat.zero_add]
  simpa using hi

theorem selL_perm {ah : ByteArray → ByteArray → Bool} : ∀ (n : Nat) (l r : List ByteArray), n = l.length → selL ah n l = some r → r.Perm l
  | 0, l, r, hn, h => by
    have : l = [] := List.eq_nil_of_length_eq_zero hn.symm
    subst this
    simp only [selL, Option.some.injEq] at h
    subst h
    exact List.Perm.refl _
  | n + 1, l, r, hn, h => by
    simp only [selL] at h
    split at h
    · cases h
    · rename_i x hx
      have hm := List.mem_of_find?_eq_some hx
      rw [Option.map_eq_some_iff] at h
      obtain ⟨r', h1, rfl⟩ := h
      have hl : n = (l.erase x).length := by rw [List.length_erase_of_mem hm]; omega
      exact ((selL_perm n _ _ hl h1).cons x).trans (List.perm_cons_erase hm).symm
theorem mergeS_perm {xb xl xr xs r : List ByteArray} (h : mergeS xb xl xr xs = some r) : r.Perm xs := by
  unfold mergeS at h
  split at h
  · exact (selL_perm _ _ _ (sortL_perm xs).length_eq.symm h).trans (sortL_perm xs)
  · cases h
theorem mergeS_len (xb xl xr xs : List ByteArray) : ((mergeS xb xl xr xs).getD []).length ≤ xs.length := by
  cases h : mergeS xb xl xr xs with
  | none => simp
  | some r => simp [(mergeS_perm h).length_eq]

/-! ### The small case -/
abbrev tA : ByteArray := ⟨#[97]⟩
abbrev tB : ByteArray := ⟨#[98]⟩
abbrev tC : ByteArray := ⟨#[99]⟩
abbrev tD : ByteArray := ⟨#[100]⟩
abbrev tX : ByteArray := ⟨#[120]⟩
abbrev tY : ByteArray := ⟨#[121]⟩

theorem mergeS_at {xb xl xr xs ys : List ByteArray} (h : sortL xs = ys) : mergeS xb xl xr xs = if rowsL xb xl xr && onceL xs && noContraB xb xl xr xs then selL (ahB xb xl xr) xs.length ys else none := by
  rw [← h]; rfl
theorem small_m1 : mergeS [tA, tB, tC] [tB, tA, tC] [tA, tB, tC, tD] [tA, tB, tC, tD] = some [tB, tA, tC, tD] := by
  have hs : sortL [tA, tB, tC, tD] = [tA, tB, tC, tD] := sortL_unique (List.Perm.refl _) (by simp [leS, ByteArray.toList_eq]; decide)
  exact (mergeS_at hs).trans (by kernel_rfl)
theorem small_m2 : mergeS [] [tX] [tY] [tY, tX] = some [tX, tY] := by
  have hs : sortL [tY, tX] = [tX, tY] := sortL_unique (List.Perm.swap _ _ _) (by simp [leS, ByteArray.toList_eq]; decide)
  exact (mergeS_at hs).trans (by kernel_rfl)
theorem small_m3 : mergeS [] [tX, tY] [tY, tX] [tX, tY] = none := by
  have hs : sortL [tX, tY] = [tX, tY] := sortL_unique (List.Perm.refl _) (by simp [leS, ByteArray.toList_eq]; decide)
  exact (mergeS_at hs).trans (by kernel_rfl)
theorem small_a : AheadS [tA, tB, tC] [tA, tB, tC] [tB, tA] tA tB = (1, true) := by kernel_rfl
end Go.Proofs.Ytkjnneephcboaaa
