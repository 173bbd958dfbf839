import Derived.Test.YtkjnneephcboaaaOrdA
import Derived.Test.YtkjnneephcboaaaStore
namespace Go.Proofs.Ytkjnneephcboaaa
open Go Go.X Go.Proofs
set_option linter.unusedVariables false

/-! ### Plain: places in a row, and what a row says -/
def posFrom : List ByteArray → Nat → ByteArray → Option Nat
  | [], _, _ => none
  | s :: l, i, x => if s = x then some i else posFrom l (i + 1) x
def posL (l : List ByteArray) (x : ByteArray) : Option Nat := posFrom l 0 x
def saysL (l : List ByteArray) (x y : ByteArray) : Int := match posL l x, posL l y with
  | some i, some k => if i < k then -1 else if k < i then 1 else 0
  | _, _ => 0
def onceL (l : List ByteArray) : Bool := decide (l.length ≤ 256) && decide l.Nodup

theorem posFrom_none {l : List ByteArray} {i : Nat} {x : ByteArray} : posFrom l i x = none ↔ x ∉ l := by
  induction l generalizing i with
  | nil => simp [posFrom]
  | cons s l ih =>
    simp only [posFrom]
    split
    · rename_i h; simp [h]
    · rename_i h; simp [ih, Ne.symm h]
theorem posL_none {l : List ByteArray} {x : ByteArray} : posL l x = none ↔ x ∉ l := posFrom_none
theorem posFrom_nodup {l : List ByteArray} {i p : Nat} {x : ByteArray} (hn : l.Nodup) (h : l[p]? = some x) : posFrom l i x = some (i + p) := by
  induction l generalizing i p with
  | nil => simp at h
  | cons s l ih =>
    simp only [posFrom]
    cases p with
    | zero => simp at h; simp [h]
    | succ p =>
      simp at h
      have hx : x ∈ l := List.mem_of_getElem? h
      have hs : s ≠ x := fun e => (List.nodup_cons.1 hn).1 (e ▸ hx)
      rw [if_neg hs, ih (List.nodup_cons.1 hn).2 h]
      congr 1; omega
theorem posL_nodup {l : List ByteArray} {p : Nat} {x : ByteArray} (hn : l.Nodup) (h : l[p]? = some x) : posL l x = some p := by
  rw [posL, posFrom_nodup hn h]; simp
theorem posFrom_get {l : List ByteArray} {i p : Nat} {x : ByteArray} (h : posFrom l i x = some p) : i ≤ p ∧ l[p - i]? = some x := by
  induction l generalizing i with
  | nil => simp [posFrom] at h
  | cons s l ih =>
    simp only [posFrom] at h
    split at h
    · rename_i e; simp at h; subst h; simp [e]
    · have := ih h
      refine ⟨by omega, ?_⟩
      rw [show p - i = (p - (i + 1)) + 1 by omega]
      simpa using this.2
theorem posL_get {l : List ByteArray} {p : Nat} {x : ByteArray} (h : posL l x = some p) : l[p]? = some x := by simpa using (posFrom_get h).2
theorem posL_lt {l : List ByteArray} {p : Nat} {x : ByteArray} (h : posL l x = some p) : p < l.length := (List.getElem?_eq_some_iff.1 (posL_get h)).1

theorem saysL_range (l : List ByteArray) (x y : ByteArray) : saysL l x y = -1 ∨ saysL l x y = 0 ∨ saysL l x y = 1 := by
  unfold saysL
  split
  · split
    · simp
    · split <;> simp
  · simp

/-! ### The document's says, ahead -/
theorem refsays_spec {n : Nat} {h : Heap} {l : Sl} {xs : List ByteArray} (hl : Strs n h l xs) (x y : ByteArray) (hn : xs.Nodup) (hlen : xs.length < 4611686018427387904) :
    XC Try.prog 30 #[.slice l.a l.len l.cap, .string x, .string y] h fun v h' => v = .int .i64 (saysL xs x y) ∧ h' = h := by
  let at_ : Int → ByteArray → Nat → Prop := fun i z j => (i = -1 ∧ z ∉ xs.take j) ∨ ∃ p : Nat, p < j ∧ i = p ∧ xs[p]? = some z
  refine sh_scarfref23_says _ _ _ _ _ ?_
  refine ⟨fun i k j h' => h' = h ∧ ∃ m : Nat, j = m ∧ m ≤ xs.length ∧ at_ i x m ∧ at_ k y m, fun _ _ j _ => xs.length - j.toNat, ⟨rfl, 0, rfl, by omega, .inl ⟨rfl, by simp⟩, .inl ⟨rfl, by simp⟩⟩, ?_⟩
  rintro i k j h' ⟨rfl, m, rfl, hm, hi, hk⟩
  refine ⟨fun h1 => ?_, fun h1 => ?_⟩
  · have hlt : m < xs.length := by rw [hl.1] at h1; simpa using h1
    have step : ∀ (i : Int) (z : ByteArray), at_ i z m → xs[m] ≠ z → at_ i z (m + 1) := by
      rintro i z (⟨e, hz⟩ | ⟨p, hp, e, hz⟩) hne
      · refine .inl ⟨e, ?_⟩
        intro hmem
        rw [List.take_succ_eq_append_getElem hlt, List.mem_append] at hmem
        rcases hmem with h9 | h9
        · exact hz h9
        · simp at h9; exact hne h9.symm
      · exact .inr ⟨p, by omega, e, hz⟩
    intro K hK
    have hK' : ∀ i' : Int, at_ i' x (m + 1) → K i' h' := by
      intro i' hi'
      refine hK i' h' (strs_idx hl hlt rfl ⟨fun h2 => ?_, fun h2 => ?_⟩)
      · rw [wrap_succ (by omega)]
        refine ⟨⟨rfl, m + 1, rfl, by omega, hi', .inr ⟨m, by omega, rfl, ?_⟩⟩, by simp; omega⟩
        rw [toList_beq] at h2; simp at h2
        rw [← h2]; simp [hlt]
      · rw [wrap_succ (by omega)]
        refine ⟨⟨rfl, m + 1, rfl, by omega, hi', step k y hk ?_⟩, by simp; omega⟩
        rw [toList_beq] at h2; simpa using h2
    refine strs_idx hl hlt rfl ⟨fun h2 => ?_, fun h2 => ?_⟩
    · refine hK' _ (.inr ⟨m, by omega, rfl, ?_⟩)
      rw [toList_beq] at h2; simp at h2
      rw [← h2]; simp [hlt]
    · refine hK' _ (step i x hi ?_)
      rw [toList_beq] at h2; simpa using h2
  · have hm' : m = xs.length := by rw [hl.1] at h1; simp at h1; omega
    have pos : ∀ (i : Int) (z : ByteArray), at_ i z m → (i < 0 ∧ posL xs z = none) ∨ ∃ p : Nat, i = p ∧ posL xs z = some p := by
      rintro i z (⟨e, hz⟩ | ⟨p, hp, e, hz⟩)
      · refine .inl ⟨by omega, posL_none.2 ?_⟩
        rw [hm', List.take_length] at hz; exact hz
      · exact .inr ⟨p, e, posL_nodup hn hz⟩
    have pi := pos i x hi
    have pk := pos k y hk
    unfold saysL
    refine ⟨fun h2 => ⟨?_, rfl⟩, fun h2 => ⟨fun h3 => ⟨?_, rfl⟩, fun h3 => ⟨?_, rfl⟩⟩⟩
    · rcases pi with ⟨e1, e2⟩ | ⟨p, rfl, e2⟩
      · rw [e2]
      · rcases pk with ⟨e3, e4⟩ | ⟨q, rfl, e4⟩
        · rw [e2, e4]
        · rw [e2, e4]
          simp only [cond_eq_ite] at h2
          simp at h2
          have : p = q := by
            rcases h2 with (h2 | h2) | h2 <;> omega
          subst this
          simp
    · rcases pi with ⟨e1, e2⟩ | ⟨p, rfl, e2⟩
      · simp only [cond_eq_ite] at h2; simp at h2; omega
      · rcases pk with ⟨e3, e4⟩ | ⟨q, rfl, e4⟩
        · simp only [cond_eq_ite] at h2; simp at h2; omega
        · rw [e2, e4]
          simp at h3
          simp [h3]
    · rcases pi with ⟨e1, e2⟩ | ⟨p, rfl, e2⟩
      · simp only [cond_eq_ite] at h2; simp at h2; omega
      · rcases pk with ⟨e3, e4⟩ | ⟨q, rfl, e4⟩
        · simp only [cond_eq_ite] at h2; simp at h2; omega
        · rw [e2, e4]
          simp only [cond_eq_ite] at h2
          simp at h2 h3
          have h5 : q < p := by omega
          have h6 : ¬ p < q := by omega
          simp [h5, h6]
end Go.Proofs.Ytkjnneephcboaaa
