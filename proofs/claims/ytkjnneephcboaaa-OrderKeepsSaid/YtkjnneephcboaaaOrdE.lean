import Derived.Test.YtkjnneephcboaaaOrdD
namespace Go.Proofs.Ytkjnneephcboaaa
open Go Go.X Go.Proofs
set_option linter.unusedVariables false

theorem Or_spec {h : Heap} {b : Nat} {p q : Int} (H : Blk h b #[.int .i64 p, .int .i64 q]) :
    XC Try.prog 29 #[.slice (some ⟨b, 0, none⟩) 2 2] h fun v h' => v = .int .i64 (if p ≠ 0 then p else q) ∧ h' = h := by
  refine sh_cmp_Or_int ⟨some ⟨b, 0, none⟩, 2, 2⟩ _ _ ?_
  refine ⟨fun i h' => h' = h ∧ ∃ k : Nat, i = k ∧ k ≤ 2 ∧ (0 < k → p = 0) ∧ (1 < k → q = 0), fun i _ => 2 - i.toNat, ⟨rfl, 0, rfl, by omega, by omega, by omega⟩, ?_⟩
  rintro i h' ⟨rfl, k, rfl, hk, h0, h1⟩
  refine ⟨fun h2 => ?_, fun h2 => ?_⟩
  · have hlt : k < 2 := by
      have h2' : decide ((k : Int) < ((2 : Nat) : Int)) = true := h2
      simp at h2'; omega
    refine ⟨⟨b, 0, none⟩, ⟨rfl, by omega, by show (k : Int) < ((2 : Nat) : Int); omega⟩, if k = 0 then p else q, ?_, fun h3 => ?_, fun h3 => ?_⟩
    · refine H.cellAdd ?_
      match k, hlt with
      | 0, _ => rfl
      | 1, _ => rfl
    · match k, hlt with
      | 0, _ => simp at h3; simp [h3]
      | 1, _ => simp at h3; simp [h0 (by omega)]
    · rw [wrap_succ (by omega)]
      match k, hlt with
      | 0, _ => simp at h3; exact ⟨⟨rfl, 1, rfl, by omega, fun _ => h3, by omega⟩, by simp⟩
      | 1, _ => simp at h3; exact ⟨⟨rfl, 2, rfl, by omega, fun _ => h0 (by omega), fun _ => h3⟩, by simp⟩
  · have hk2 : k = 2 := by
      have h2' : decide ((k : Int) < ((2 : Nat) : Int)) = false := h2
      simp at h2'; omega
    subst hk2
    simp [h0 (by omega), h1 (by omega)]

theorem ahead_spec {n : Nat} {h : Heap} {p q r : Option Nat} {xb xl xr : List ByteArray} (H : Ords n h p q r xb xl xr) (hn : n ≤ h.size) (x y : ByteArray) :
    XC Try.prog 17 #[.agg #[.map p, .map q, .map r], .string x, .string y] h
      fun v h' => v = .tuple #[.int .i64 (aheadS xb xl xr x y).1, .bool (aheadS xb xl xr x y).2] ∧ Keep h.size h h' := by
  obtain ⟨a, b, c, rfl, rfl, rfl, la, lb, lc, ma, mb, mc⟩ := H
  refine sh_order_orders_ahead _ _ _ _ _ _ _ ?_
  intro h1
  have s1 : h1.size = h.size + 1 := Array.size_push _
  have k1 : Keep h.size h h1 := Keep.push _ _ (Nat.le_refl _)
  have b1 : Blk h1 h.size #[.map (some a), .map (some b), .map (some c)] := Blk.new _ _ _
  clear_value h1
  have ma1 := ma.keep (k1.get a (by omega))
  have mb1 := mb.keep (k1.get b (by omega))
  have mc1 := mc.keep (k1.get c (by omega))
  have rp := saysL_range xb x y
  have rq := saysL_range xl x y
  have rs := saysL_range xr x y
  refine ⟨_, b1.cellAdd rfl, _, says_spec ma1 x y, _, b1.cellAdd rfl, _, says_spec mb1 x y, _, b1.cellAdd rfl, _, says_spec mc1 x y, ?_⟩
  rw [wrap_neg rp]
  unfold aheadS aheadI
  generalize saysL xb x y = P at *
  generalize saysL xl x y = Q at *
  generalize saysL xr x y = U at *
  have hw : IntKind.wrap .i64 (Q * U) = Q * U := by
    rcases rq with rfl | rfl | rfl <;> rcases rs with rfl | rfl | rfl <;> rfl
  rw [hw]
  refine ⟨fun e1 => ?_, fun e1 => ⟨fun e2 => ?_, fun e2 => ⟨fun e3 => ?_, fun e3 => ?_⟩⟩⟩
  · simp only [cond_eq_ite] at e1; simp at e1
    have e2' : Q = -P ∨ U = -P := by rcases e1.2 with h | h <;> simp [h]
    simp [e1.1, e2', k1]
  · simp only [cond_eq_ite] at e1; simp at e1 e2
    have e2' : ¬ (Q = -P ∨ U = -P) := by
      have := e1 e2
      rintro (h | h) <;> simp_all
    simp [e2, e2', k1]
  · simp at e2 e3
    have : Q ≠ 0 ∧ U ≠ 0 ∧ Q ≠ U := by
      rcases rq with rfl | rfl | rfl <;> rcases rs with rfl | rfl | rfl <;> simp at e3 <;> simp
    simp [e2, this, k1]
  · simp at e2 e3
    intro h2
    have k2 : Keep h1.size h1 h2 := Keep.push _ _ (Nat.le_refl _)
    have b2 : Blk h2 h1.size #[.int .i64 Q, .int .i64 U] := Blk.new _ _ _
    clear_value h2
    refine (Or_spec b2).mono ?_
    rintro v h3 ⟨rfl, rfl⟩
    refine ⟨_, rfl, ?_, k1.trans k2 (by omega)⟩
    have : ¬ (Q ≠ 0 ∧ U ≠ 0 ∧ Q ≠ U) := by
      rcases rq with rfl | rfl | rfl <;> rcases rs with rfl | rfl | rfl <;> simp at e3 <;> simp
    have hP : ¬ (P ≠ 0) := by simpa using e2
    simp only [if_neg hP, if_neg this]
    split <;> rfl

theorem Ahead_spec {n : Nat} {h : Heap} {b l r : Sl} {xb xl xr : List ByteArray} (hb : Strs n h b xb) (hl : Strs n h l xl) (hr : Strs n h r xr) (hn : n ≤ h.size) (x y : ByteArray)
    (cb : xb.length < 4611686018427387904) (cl : xl.length < 4611686018427387904) (cr : xr.length < 4611686018427387904) :
    XC Try.prog 9 #[.slice b.a b.len b.cap, .slice l.a l.len l.cap, .slice r.a r.len r.cap, .string x, .string y] h
      fun v h' => v = .tuple #[.int .i64 (AheadS xb xl xr x y).1, .bool (AheadS xb xl xr x y).2] ∧ Keep h.size h h' := by
  refine sh_order_Ahead _ _ _ _ _ _ _ ?_
  intro h1
  have s1 : h1.size = h.size + 1 := Array.size_push _
  have k1 : Keep h.size h h1 := Keep.push _ _ (Nat.le_refl _)
  have b1 : Blk h1 h.size #[.slice b.a b.len b.cap, .slice l.a l.len l.cap, .slice r.a r.len r.cap] := Blk.new _ _ _
  clear_value h1
  refine (newOrders_spec b1 (hb.keep (k1.mono hn)) (hl.keep (k1.mono hn)) (hr.keep (k1.mono hn)) (by omega) cb cl cr).mono ?_
  rintro v h2 ⟨k2, p, q, s, rfl, hv⟩
  refine ⟨p, q, s, _, rfl, ?_⟩
  intro h3
  have s3 : h3.size = h2.size + 1 := Array.size_push _
  have k3 : Keep h2.size h2 h3 := Keep.push _ _ (Nat.le_refl _)
  have b3 : Blk h3 h2.size #[.map none, .map none, .map none] := Blk.new _ _ _
  clear_value h3
  refine storeAll (vs := [.map p, .map q, .map s]) (by kernel_rfl) b3 (by kernel_rfl) rfl (by simp [Value.oneCell']) fun h4 b4 hs4 ho4 => ?_
  have k4 : Keep h2.size h3 h4 := keep_of_other hs4 ho4 (Nat.le_refl _)
  have kk : Keep h.size h h4 := ((k1.trans k2 (by omega)).trans k3 (by have := k2.size; omega)).trans k4 (by have := k2.size; omega)
  rw [toList_beq]
  rcases hv with ⟨hrow, hO⟩ | ⟨hrow, rfl, rfl, rfl⟩
  · rw [hrow]
    refine ⟨fun e => ?_, fun e => ?_⟩
    · simp at e
      simp [AheadS, e, kk]
    · simp at e
      refine ⟨p, q, s, b4.ld, ?_⟩
      have hO4 : Ords h2.size h4 p q s xb xl xr := (hO.keep k3).keep k4
      refine (ahead_spec hO4 (by omega) x y).mono ?_
      rintro v h5 ⟨rfl, k5⟩
      refine ⟨_, _, rfl, ?_, kk.trans k5 (by have := kk.size; omega)⟩
      simp [AheadS, hrow, e]
  · rw [hrow]
    refine ⟨fun e => ?_, fun e => by simp at e⟩
    simp [AheadS, hrow, kk]
end Go.Proofs.Ytkjnneephcboaaa
