import Derived.Test.YtkjnneephcboaaaOrdH
namespace Go.Proofs.Ytkjnneephcboaaa
open Go Go.X Go.Proofs
set_option linter.unusedVariables false

/-! ### What is merged: plain -/
def ahB (xb xl xr : List ByteArray) (s t : ByteArray) : Bool := decide ((aheadS xb xl xr s t).1 = -1)
def freeB (ah : ByteArray → ByteArray → Bool) (l : List ByteArray) (x : ByteArray) : Bool := l.all fun s => !ah s x
def selL (ah : ByteArray → ByteArray → Bool) : Nat → List ByteArray → Option (List ByteArray)
  | 0, _ => some []
  | n + 1, l => match l.find? (freeB ah l) with
    | none => none
    | some x => (selL ah n (l.erase x)).map (x :: ·)
def noContraB (xb xl xr xs : List ByteArray) : Bool := xs.all fun s => xs.all fun t => (aheadS xb xl xr s t).2
theorem noContraB_iff {xb xl xr xs : List ByteArray} : noContraB xb xl xr xs = true ↔ NoContra xb xl xr xs := by
  simp [noContraB, NoContra]
/-- Sorted by bytes. -/
def sortL (xs : List ByteArray) : List ByteArray := ((xs.map ByteArray.toList).mergeSort fun x y => decide (x ≤ y)).map fun l => ⟨l.toArray⟩
theorem toList_mk (l : List UInt8) : (⟨l.toArray⟩ : ByteArray).toList = l := by rw [ByteArray.toList_eq]
theorem mk_toList (x : ByteArray) : (⟨x.toList.toArray⟩ : ByteArray) = x := by rw [ByteArray.toList_eq]
theorem sortL_perm (xs : List ByteArray) : (sortL xs).Perm xs := by
  have h := (List.mergeSort_perm (xs.map ByteArray.toList) fun x y => decide (x ≤ y)).map fun l => (⟨l.toArray⟩ : ByteArray)
  rw [List.map_map] at h
  have e : (fun l : List UInt8 => (⟨l.toArray⟩ : ByteArray)) ∘ ByteArray.toList = id := by funext x; exact mk_toList x
  rw [e, List.map_id] at h
  exact h
def mergeS (xb xl xr xs : List ByteArray) : Option (List ByteArray) :=
  if rowsL xb xl xr && onceL xs && noContraB xb xl xr xs then selL (ahB xb xl xr) xs.length (sortL xs) else none

structure MInv (ah : ByteArray → ByteArray → Bool) (xs ys zs : List ByteArray) (g : ByteArray → Nat) : Prop where
  nd : ys.Nodup
  cov : ∀ t ∈ xs, t ∈ ys ∨ t ∈ zs
  sub : ∀ t ∈ ys, t ∈ xs
  back : ∀ z ∈ zs, ∀ s ∈ ys, ah s z = false
  cnt : ∀ t ∈ ys, g t = ys.countP fun s => ah s t

theorem MInv.free {ah : ByteArray → ByteArray → Bool} {xs ys zs : List ByteArray} {g : ByteArray → Nat} (H : MInv ah xs ys zs g) {t : ByteArray} (ht : t ∈ ys) : g t = 0 ↔ freeB ah ys t = true := by
  rw [H.cnt t ht, List.countP_eq_zero]
  simp [freeB]

theorem MInv.behind {ah : ByteArray → ByteArray → Bool} {xs ys zs : List ByteArray} {g : ByteArray → Nat} (H : MInv ah xs ys zs g) {x : ByteArray} (hx : x ∈ ys) (hself : ah x x = false) {t : ByteArray} (ht : t ∈ xs) (ha : ah x t = true) : t ∈ ys ∧ t ≠ x ∧ 1 ≤ g t ∧ g t ≤ ys.length := by
  have hy : t ∈ ys := by
    rcases H.cov t ht with h | h
    · exact h
    · rw [H.back t h x hx] at ha; cases ha
  have hne : t ≠ x := by
    intro e; rw [e, hself] at ha; cases ha
  have hc := H.cnt t hy
  have h1 : 0 < ys.countP fun s => ah s t := List.countP_pos_iff.2 ⟨x, hx, ha⟩
  have h2 : (ys.countP fun s => ah s t) ≤ ys.length := List.countP_le_length
  exact ⟨hy, hne, by omega, by omega⟩

theorem countP_erase' {l : List ByteArray} {p : ByteArray → Bool} {x : ByteArray} (hx : x ∈ l) : l.countP p = (l.erase x).countP p + if p x then 1 else 0 := by
  have h := (List.perm_cons_erase hx).countP_eq p
  rw [h, List.countP_cons]

theorem MInv.step {ah : ByteArray → ByteArray → Bool} {xs ys zs : List ByteArray} {g : ByteArray → Nat} (H : MInv ah xs ys zs g) {x : ByteArray} (hx : x ∈ ys) (hself : ah x x = false) (h0 : g x = 0) {F : List ByteArray} (hF : ∀ t, t ∈ F ↔ t ∈ xs ∧ ah x t = true) :
    MInv ah xs (ys.erase x) (zs ++ [x]) fun t => if t ∈ F then g t - 1 else g t := by
  refine ⟨H.nd.erase x, fun t ht => ?_, fun t ht => H.sub t (List.mem_of_mem_erase ht), fun z hz s hs => ?_, fun t ht => ?_⟩
  · rcases H.cov t ht with h | h
    · by_cases e : t = x
      · exact .inr (by simp [e])
      · exact .inl ((List.mem_erase_of_ne e).2 h)
    · exact .inr (List.mem_append_left _ h)
  · rcases List.mem_append.1 hz with h | h
    · exact H.back z h s (List.mem_of_mem_erase hs)
    · simp at h
      subst h
      have := (H.free hx).1 h0
      simp only [freeB, List.all_eq_true] at this
      simpa using this s (List.mem_of_mem_erase hs)
  · have hy := List.mem_of_mem_erase ht
    have hc := H.cnt t hy
    have he := countP_erase' (p := fun s => ah s t) hx
    have hxs := H.sub t hy
    by_cases ha : ah x t = true
    · have : t ∈ F := (hF t).2 ⟨hxs, ha⟩
      simp only [this, if_true]
      simp only [ha, if_true] at he
      omega
    · have : ¬ t ∈ F := fun h => ha ((hF t).1 h).2
      simp only [this, if_false]
      simp only [ha] at he
      simp at he
      omega

theorem MInv.sel {ah : ByteArray → ByteArray → Bool} {xs ys zs : List ByteArray} {g : ByteArray → Nat} (H : MInv ah xs ys zs g) {k : Nat} (hk : k < ys.length) (h0 : g ys[k] = 0) (hb : ∀ x ∈ ys.take k, g x ≠ 0) :
    selL ah ys.length ys = (selL ah (ys.eraseIdx k).length (ys.eraseIdx k)).map (ys[k] :: ·) ∧ ys.eraseIdx k = ys.erase ys[k] := by
  have hm : ys[k] ∈ ys := List.getElem_mem hk
  have hf : ys.find? (freeB ah ys) = some ys[k] := by
    rw [List.find?_eq_some_iff_append]
    refine ⟨(H.free hm).1 h0, ys.take k, ys.drop (k + 1), ?_, fun a ha => ?_⟩
    · rw [List.getElem_cons_drop, List.take_append_drop]
    · have := hb a ha
      have hn := fun e => this ((H.free (List.mem_of_mem_take ha)).2 e)
      simpa using hn
  have he : ys.eraseIdx k = ys.erase ys[k] := by
    have : ys.idxOf ys[k] = k := H.nd.idxOf_getElem k hk
    rw [List.erase_eq_eraseIdx_of_idxOf this]
  refine ⟨?_, he⟩
  have hl : (ys.eraseIdx k).length = ys.length - 1 := List.length_eraseIdx_of_lt hk
  obtain ⟨n, hn⟩ : ∃ n, ys.length = n + 1 := ⟨ys.length - 1, by omega⟩
  rw [hl, hn]
  simp only [selL, hf, Nat.add_sub_cancel, he]
theorem MInv.none {ah : ByteArray → ByteArray → Bool} {xs ys zs : List ByteArray} {g : ByteArray → Nat} (H : MInv ah xs ys zs g) (hk : 0 < ys.length) (hb : ∀ x ∈ ys, g x ≠ 0) : selL ah ys.length ys = none := by
  obtain ⟨n, hn⟩ : ∃ n, ys.length = n + 1 := ⟨ys.length - 1, by omega⟩
  have hf : ys.find? (freeB ah ys) = Option.none := by
    rw [List.find?_eq_none]
    exact fun x hx e => hb x hx ((H.free hx).2 e)
  rw [hn]
  simp only [selL, hf]
theorem ahB_self (xb xl xr : List ByteArray) (x : ByteArray) : ahB xb xl xr x x = false := by simp [ahB, aheadS_self]
end Go.Proofs.Ytkjnneephcboaaa
