import Derived.Test.YtkjnneephcboaaaOrdB
import Derived.Test.YtkjnneephcboaaaOrdSh2
namespace Go.Proofs.Ytkjnneephcboaaa
open Go Go.X Go.Proofs
set_option linter.unusedVariables false

def aheadI (p q s : Int) : Int × Bool :=
  if p ≠ 0 then (if q = -p ∨ s = -p then (-p, true) else (p, true))
  else if q ≠ 0 ∧ s ≠ 0 ∧ q ≠ s then (0, false) else if q ≠ 0 then (q, true) else (s, true)
def aheadS (b l r : List ByteArray) (x y : ByteArray) : Int × Bool := aheadI (saysL b x y) (saysL l x y) (saysL r x y)
def rowsL (b l r : List ByteArray) : Bool := onceL b && onceL l && onceL r
def AheadS (b l r : List ByteArray) (x y : ByteArray) : Int × Bool := if rowsL b l r = false ∨ x = y then (0, false) else aheadS b l r x y

theorem wrap_neg {p : Int} (h : p = -1 ∨ p = 0 ∨ p = 1) : IntKind.wrap .i64 (0 - p) = -p := by
  rw [wrap64 (by omega) (by omega)]; omega

theorem refahead_spec {n : Nat} {h : Heap} {b l r : Sl} {xb xl xr : List ByteArray} (hb : Strs n h b xb) (hl : Strs n h l xl) (hr : Strs n h r xr) (x y : ByteArray) (nb : xb.Nodup) (nl : xl.Nodup) (nr : xr.Nodup)
    (cb : xb.length < 4611686018427387904) (cl : xl.length < 4611686018427387904) (cr : xr.length < 4611686018427387904) :
    XC Try.prog 19 #[.slice b.a b.len b.cap, .slice l.a l.len l.cap, .slice r.a r.len r.cap, .string x, .string y] h
      fun v h' => v = .tuple #[.int .i64 (aheadS xb xl xr x y).1, .bool (aheadS xb xl xr x y).2] ∧ h' = h := by
  refine sh_scarfref23_ahead _ _ _ _ _ _ _ ((refsays_spec hb x y nb cb).mono ?_)
  rintro v h1 ⟨rfl, rfl⟩
  refine ⟨_, rfl, (refsays_spec hl x y nl cl).mono ?_⟩
  rintro v h2 ⟨rfl, rfl⟩
  refine ⟨_, rfl, (refsays_spec hr x y nr cr).mono ?_⟩
  rintro v h3 ⟨rfl, rfl⟩
  refine ⟨_, rfl, ?_⟩
  have rp := saysL_range xb x y
  rw [wrap_neg rp]
  unfold aheadS aheadI
  generalize saysL xb x y = p at *
  generalize saysL xl x y = q at *
  generalize saysL xr x y = s at *
  refine ⟨fun e1 => ⟨fun e2 => ?_, fun e2 => ?_⟩, fun e1 => ⟨fun e2 => ?_, fun e2 => ⟨fun e3 => ?_, fun e3 => ?_⟩⟩⟩
  · simp only [cond_eq_ite] at e2; simp at e1 e2
    have e2' : q = -p ∨ s = -p := by rcases e2 with h | h <;> simp [h]
    simp [e1, e2']
  · simp only [cond_eq_ite] at e2; simp at e1 e2
    have e2' : ¬ (q = -p ∨ s = -p) := by rintro (h | h) <;> simp_all
    simp [e1, e2']
  · simp only [cond_eq_ite] at e2; simp at e1 e2
    simp [e1, e2]
  · simp only [cond_eq_ite] at e2; simp at e1 e2 e3
    have e2' : ¬ (¬ s = 0 ∧ ¬ q = s) := by rintro ⟨a, b⟩; exact b (e2 e3 a)
    simp [e1, e2', e3]
  · simp only [cond_eq_ite] at e2; simp at e1 e2 e3
    simp [e1, e3]

theorem refOnce_spec {n : Nat} {h : Heap} {l : Sl} {xs : List ByteArray} (hl : Strs n h l xs) (hlen : xs.length < 4611686018427387904) :
    XC Try.prog 15 #[.slice l.a l.len l.cap] h fun v h' => v = .bool (onceL xs) ∧ h' = h := by
  refine sh_scarfref23_Once _ _ _ ?_
  have e0 : (((l.len : Nat) : Int)) = (xs.length : Int) := by rw [hl.1]
  refine ⟨fun h1 => ?_, fun h1 => ?_⟩
  · refine ⟨?_, rfl⟩
    have : ¬ xs.length ≤ 256 := by rw [e0] at h1; simp at h1; omega
    simp [onceL, this]
  have hle : xs.length ≤ 256 := by rw [e0] at h1; simp at h1; omega
  refine ⟨fun i h' => h' = h ∧ ∃ m : Nat, i = m ∧ m ≤ xs.length ∧ (xs.take m).Nodup, fun i _ => xs.length - i.toNat, ⟨rfl, 0, rfl, by omega, by simp⟩, ?_⟩
  rintro i h' ⟨rfl, m, rfl, hm, hnd⟩
  refine ⟨fun h2 => ?_, fun h2 => ?_⟩
  · have hlt : m < xs.length := by rw [e0] at h2; simpa using h2
    refine ⟨fun k h'' => h'' = h' ∧ ∃ q : Nat, k = q ∧ q ≤ m ∧ xs[m] ∉ xs.take q, fun k _ => m - k.toNat, ⟨rfl, 0, rfl, by omega, by simp⟩, ?_⟩
    rintro k h'' ⟨rfl, q, rfl, hq, hno⟩
    refine ⟨fun h3 => ?_, fun h3 => ?_⟩
    · have hqm : q < m := by simpa using h3
      have hqx : q < xs.length := by omega
      refine strs_idx hl hlt rfl ?_
      refine strs_idx hl hqx rfl ?_
      refine ⟨fun h4 => ?_, fun h4 => ?_⟩
      · refine ⟨?_, rfl⟩
        rw [toList_beq] at h4; simp at h4
        have : ¬ xs.Nodup := by
          intro hn
          have h5 := (List.nodup_iff_pairwise_ne.1 hn)
          rw [List.pairwise_iff_getElem] at h5
          exact h5 q m hqx hlt hqm h4.symm
        simp [onceL, this]
      · rw [wrap_succ (by omega)]
        refine ⟨⟨rfl, q + 1, rfl, by omega, fun hmem => ?_⟩, by simp; omega⟩
        rw [List.take_succ_eq_append_getElem hqx, List.mem_append] at hmem
        rcases hmem with h9 | h9
        · exact hno h9
        · rw [toList_beq] at h4; simp at h4 h9; exact h4 h9
    · have hqm : q = m := by simp at h3; omega
      subst hqm
      rw [wrap_succ (by omega)]
      refine ⟨⟨rfl, q + 1, rfl, by omega, ?_⟩, by simp; omega⟩
      rw [List.take_succ_eq_append_getElem hlt, List.nodup_append]
      refine ⟨hnd, by simp, fun a ha b hb => ?_⟩
      simp at hb; subst hb
      exact fun e => hno (e ▸ ha)
  · refine ⟨?_, rfl⟩
    have hm' : m = xs.length := by rw [e0] at h2; simp at h2; omega
    rw [hm', List.take_length] at hnd
    simp [onceL, hle, hnd]

theorem onceL_nodup {xs : List ByteArray} (h : onceL xs = true) : xs.Nodup ∧ xs.length ≤ 256 := by
  simp [onceL] at h; exact ⟨h.2, h.1⟩

theorem refrows_spec {n : Nat} {h : Heap} {b l r : Sl} {xb xl xr : List ByteArray} (hb : Strs n h b xb) (hl : Strs n h l xl) (hr : Strs n h r xr)
    (cb : xb.length < 4611686018427387904) (cl : xl.length < 4611686018427387904) (cr : xr.length < 4611686018427387904) :
    XC Try.prog 18 #[.slice b.a b.len b.cap, .slice l.a l.len l.cap, .slice r.a r.len r.cap] h fun v h' => v = .bool (rowsL xb xl xr) ∧ h' = h := by
  refine sh_scarfref23_rows _ _ _ _ _ ((refOnce_spec hb cb).mono ?_)
  rintro v h1 ⟨rfl, rfl⟩
  refine ⟨_, rfl, (refOnce_spec hl cl).mono ?_⟩
  rintro v h2 ⟨rfl, rfl⟩
  refine ⟨_, rfl, (refOnce_spec hr cr).mono ?_⟩
  rintro v h3 ⟨rfl, rfl⟩
  refine ⟨_, rfl, ?_, rfl⟩
  congr 1
  unfold rowsL
  cases onceL xb <;> cases onceL xl <;> cases onceL xr <;> rfl

theorem refAhead_spec {n : Nat} {h : Heap} {b l r : Sl} {xb xl xr : List ByteArray} (hb : Strs n h b xb) (hl : Strs n h l xl) (hr : Strs n h r xr) (x y : ByteArray)
    (cb : xb.length < 4611686018427387904) (cl : xl.length < 4611686018427387904) (cr : xr.length < 4611686018427387904) :
    XC Try.prog 10 #[.slice b.a b.len b.cap, .slice l.a l.len l.cap, .slice r.a r.len r.cap, .string x, .string y] h
      fun v h' => v = .tuple #[.int .i64 (AheadS xb xl xr x y).1, .bool (AheadS xb xl xr x y).2] ∧ h' = h := by
  refine sh_scarfref23_Ahead _ _ _ _ _ _ _ ((refrows_spec hb hl hr cb cl cr).mono ?_)
  rintro v h1 ⟨rfl, rfl⟩
  refine ⟨_, rfl, fun e => ?_, fun e => ?_⟩
  · have : rowsL xb xl xr = false ∨ x = y := by
      rw [toList_beq] at e
      cases hr : rowsL xb xl xr
      · exact .inl rfl
      · rw [hr] at e; simp at e; exact .inr e
    simp [AheadS, this]
  · rw [toList_beq] at e
    cases hr' : rowsL xb xl xr
    · rw [hr'] at e; simp at e
    · rw [hr'] at e; simp at e
      have h1 := hr'
      unfold rowsL at h1
      simp only [Bool.and_eq_true] at h1
      refine (refahead_spec hb hl hr x y (onceL_nodup h1.1.1).1 (onceL_nodup h1.1.2).1 (onceL_nodup h1.2).1 cb cl cr).mono ?_
      rintro v h2 ⟨rfl, rfl⟩
      refine ⟨_, _, rfl, ?_, rfl⟩
      simp [AheadS, hr', e]

/-! ### The program's: comparing numbers -/
theorem isNaN_spec (h : Heap) (x : Int) : XC Try.prog 38 #[.int .i64 x] h fun v h' => v = .bool false ∧ h' = h := by
  refine sh_cmp_isNaN_int _ _ _ ?_
  exact ⟨by simp, rfl⟩
def cmpI (x y : Int) : Int := if x < y then -1 else if y < x then 1 else 0
theorem CompareInt_spec (h : Heap) (x y : Int) : XC Try.prog 34 #[.int .i64 x, .int .i64 y] h fun v h' => v = .int .i64 (cmpI x y) ∧ h' = h := by
  refine sh_cmp_Compare_int _ _ _ _ ((isNaN_spec h x).mono ?_)
  rintro v h1 ⟨rfl, rfl⟩
  refine ⟨_, rfl, (isNaN_spec h1 y).mono ?_⟩
  rintro v h2 ⟨rfl, rfl⟩
  refine ⟨_, rfl, fun e => (by cases e), fun _ => ⟨fun e => (by cases e), fun _ => ⟨fun e => ?_, fun e => ⟨fun e2 => ?_, fun e2 => ?_⟩⟩⟩⟩
  · simp at e; simp [cmpI, e]
  · simp at e e2; simp [cmpI, e2]; omega
  · simp at e e2
    have h1 : ¬ x < y := by omega
    have h2 : ¬ y < x := by omega
    simp [cmpI, h1, h2]
end Go.Proofs.Ytkjnneephcboaaa
