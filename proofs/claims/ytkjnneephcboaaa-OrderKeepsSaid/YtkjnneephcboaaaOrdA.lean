import Derived.Test.YtkjnneephcboaaaOrdSh
import Derived.Test.YtkjnneephcboaaaMaps
namespace Go.Proofs.Ytkjnneephcboaaa
open Go Go.X Go.Proofs
set_option linter.unusedVariables false

/-! ### Plain: rows of texts held against each other -/
def cmpL : List ByteArray → List ByteArray → Int
  | [], [] => 0
  | [], _ :: _ => -1
  | _ :: _, [] => 1
  | a :: l, b :: m => if Op.bytesLess a.toList b.toList = true then -1 else if a.toList == b.toList then cmpL l m else 1

theorem toList_inj {a b : ByteArray} (h : a.toList = b.toList) : a = b := by
  rw [ByteArray.toList_eq, ByteArray.toList_eq] at h
  cases a; cases b
  simp only at h
  congr 1
  exact Array.toList_inj.1 h
theorem toList_beq (a b : ByteArray) : (a.toList == b.toList) = decide (a = b) := by
  by_cases h : a = b
  · subst h; simp
  · have : ¬ a.toList = b.toList := fun e => h (toList_inj e)
    simp [h, this]

theorem cmpL_zero : ∀ {xs ys : List ByteArray}, cmpL xs ys = 0 ↔ xs = ys
  | [], [] => by simp [cmpL]
  | [], _ :: _ => by simp [cmpL]
  | _ :: _, [] => by simp [cmpL]
  | a :: l, b :: m => by
    simp only [cmpL]
    by_cases h1 : Op.bytesLess a.toList b.toList = true
    · rw [if_pos h1]
      have : a ≠ b := fun e => by
        rw [e] at h1
        have key : ∀ l : List UInt8, Op.bytesLess l l = false := fun l => by
          induction l with
          | nil => rfl
          | cons x l ih => simp [Op.bytesLess, ih]
        rw [key] at h1; cases h1
      simp [this]
    · rw [if_neg h1, toList_beq]
      by_cases h2 : a = b
      · simp [h2, cmpL_zero]
      · simp [h2]

theorem Compare_spec {n : Nat} {h : Heap} {a b : Sl} {xs ys : List ByteArray} (ha : Strs n h a xs) (hb : Strs n h b ys) (hl : xs.length < 4611686018427387904) :
    XC Try.prog 26 #[.slice a.a a.len a.cap, .slice b.a b.len b.cap] h fun v h' => v = .int .i64 (cmpL xs ys) ∧ h' = h := by
  refine sh_scarfref07_Compare _ _ _ _ ?_
  refine ⟨fun i h' => h' = h ∧ ∃ k : Nat, i = k ∧ k ≤ xs.length ∧ k ≤ ys.length ∧ cmpL (xs.drop k) (ys.drop k) = cmpL xs ys, fun i _ => xs.length - i.toNat, ⟨rfl, 0, rfl, by omega, by omega, rfl⟩, ?_⟩
  rintro i h' ⟨rfl, k, rfl, hk1, hk2, hc⟩
  refine ⟨fun h1 => ?_, fun h1 => ?_⟩
  · have hk : k < xs.length ∧ k < ys.length := by
      rw [ha.1, hb.1] at h1
      simp only [cond_eq_ite, Bool.ite_eq_true_distrib] at h1
      simp at h1; omega
    have e : cmpL (xs.drop k) (ys.drop k) = if Op.bytesLess xs[k].toList ys[k].toList = true then -1 else if xs[k].toList == ys[k].toList then cmpL (xs.drop (k+1)) (ys.drop (k+1)) else 1 := by
      rw [List.drop_eq_getElem_cons hk.1, List.drop_eq_getElem_cons hk.2]; rfl
    rw [hc] at e
    refine strs_idx ha hk.1 rfl (strs_idx hb hk.2 rfl ⟨fun h2 => ?_, fun h2 => strs_idx ha hk.1 rfl (strs_idx hb hk.2 rfl ⟨fun h3 => ?_, fun h3 => ?_⟩)⟩)
    · rw [if_pos h2] at e; exact ⟨by rw [e], rfl⟩
    · rw [if_neg (by rw [h2]; simp)] at e
      rw [h2] at h3
      simp at h3
      rw [if_neg (by simpa using h3)] at e; exact ⟨by rw [e], rfl⟩
    · rw [if_neg (by rw [h2]; simp)] at e
      rw [h2] at h3
      simp at h3
      rw [if_pos (by simpa using h3)] at e
      rw [wrap_succ (by omega)]
      exact ⟨⟨rfl, k + 1, rfl, by omega, by omega, e.symm⟩, by simp; omega⟩
  · have hk : k = xs.length ∨ k = ys.length := by
      rw [ha.1, hb.1] at h1
      simp only [cond_eq_ite] at h1
      simp at h1; omega
    refine ⟨fun h2 => ?_, fun h2 => ⟨fun h3 => ?_, fun h3 => ?_⟩⟩
    · have h2' : xs.length < ys.length := by rw [ha.1, hb.1] at h2; simpa using h2
      have e1 : xs.drop k = [] := List.drop_eq_nil_of_le (by omega)
      rw [e1, List.drop_eq_getElem_cons (by omega : k < ys.length)] at hc
      exact ⟨by rw [← hc]; rfl, rfl⟩
    · have h3' : ys.length < xs.length := by rw [ha.1, hb.1] at h3; simpa using h3
      have e1 : ys.drop k = [] := List.drop_eq_nil_of_le (by omega)
      rw [e1, List.drop_eq_getElem_cons (by omega : k < xs.length)] at hc
      exact ⟨by rw [← hc]; rfl, rfl⟩
    · have h2' : ys.length ≤ xs.length := by rw [ha.1, hb.1] at h2; simpa using h2
      have h3' : xs.length ≤ ys.length := by rw [ha.1, hb.1] at h3; simpa using h3
      rw [List.drop_eq_nil_of_le (by omega), List.drop_eq_nil_of_le (by omega)] at hc
      exact ⟨by rw [← hc]; rfl, rfl⟩

theorem Same_spec {n : Nat} {h : Heap} {a b : Sl} {xs ys : List ByteArray} (ha : Strs n h a xs) (hb : Strs n h b ys) (hl : xs.length < 4611686018427387904) :
    XC Try.prog 13 #[.slice a.a a.len a.cap, .slice b.a b.len b.cap] h fun v h' => v = .bool (decide (xs = ys)) ∧ h' = h := by
  refine sh_scarfref07_Same _ _ _ _ ((Compare_spec ha hb hl).mono ?_)
  rintro v h' ⟨rfl, rfl⟩
  refine ⟨_, rfl, ?_, rfl⟩
  congr 1
  rw [Bool.eq_iff_iff]
  simp [cmpL_zero]

/-- scarflaw07.Short -/
def shortL (xs : List ByteArray) : Bool := decide (xs.length ≤ 200) && (xs.take 300).all fun s => decide (s.size ≤ 1024)

theorem Short_spec {n : Nat} {h : Heap} {a : Sl} {xs : List ByteArray} (ha : Strs n h a xs) :
    XC Try.prog 8 #[.slice a.a a.len a.cap] h fun v h' => v = .bool (shortL xs) ∧ h' = h := by
  refine sh_scarflaw07_Short _ _ _ ?_
  refine ⟨fun i h' => h' = h ∧ ∃ k : Nat, i = k ∧ k ≤ xs.length ∧ k ≤ 300 ∧ (xs.take k).all (fun s => decide (s.size ≤ 1024)) = true, fun i _ => 300 - i.toNat, ⟨rfl, 0, rfl, by omega, by omega, rfl⟩, ?_⟩
  rintro i h' ⟨rfl, k, rfl, hk1, hk2, hc⟩
  refine ⟨fun h1 => ?_, fun h1 => ?_⟩
  · have hk : k < xs.length ∧ k < 300 := by
      rw [ha.1] at h1
      simp only [cond_eq_ite] at h1
      simp at h1; omega
    refine strs_idx ha hk.1 rfl ⟨fun h2 => ?_, fun h2 => ?_⟩
    · refine ⟨?_, rfl⟩
      have hm : xs[k] ∈ xs.take 300 := List.mem_take_iff_getElem.2 ⟨k, by omega, rfl⟩
      have : shortL xs = false := by
        unfold shortL
        rw [Bool.and_eq_false_iff]
        refine .inr ?_
        rw [List.all_eq_false]
        exact ⟨_, hm, by simp at h2 ⊢; omega⟩
      rw [this]
    · rw [wrap_succ (by omega)]
      refine ⟨⟨rfl, k + 1, rfl, by omega, by omega, ?_⟩, by simp; omega⟩
      rw [List.take_succ_eq_append_getElem hk.1]
      rw [List.all_append, hc]
      simp at h2 ⊢; omega
  · refine ⟨?_, rfl⟩
    rw [ha.1]
    congr 1
    unfold shortL
    by_cases hx : xs.length ≤ 200
    · have hk : k = xs.length := by
        rw [ha.1] at h1
        simp only [cond_eq_ite] at h1
        simp at h1; omega
      rw [hk, List.take_length] at hc
      rw [List.take_of_length_le (by omega), hc]
      simp [hx]; omega
    · have : ¬ ((xs.length : Int) ≤ 200) := by omega
      simp [hx, this]
end Go.Proofs.Ytkjnneephcboaaa
