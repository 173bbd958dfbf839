import Derived.Test.YtkjnneephcboaaaOrdW
import Derived.Test.YtkjnneephcboaaaOrdR
import Derived.Test.YtkjnneephcboaaaOrdSh3
namespace Go.Proofs.Ytkjnneephcboaaa
open Go Go.X Go.Proofs Go.Sort
set_option linter.unusedVariables false

theorem Keeps_spec {n : Nat} {h : Heap} {b l r s : Sl} {xb xl xr xs : List ByteArray} (hb : Strs n h b xb) (hl : Strs n h l xl) (hr : Strs n h r xr) (hs : Strs n h s xs) (hn : n ≤ h.size) (hcs : s.len ≤ s.cap) :
    XC Try.prog 4 #[.slice b.a b.len b.cap, .slice l.a l.len l.cap, .slice r.a r.len r.cap, .slice s.a s.len s.cap] h fun v h' => v = .bool true ∧ Keep h.size h h' := by
  refine sh2_scarflaw23_OrderKeeps _ _ _ _ _ _ ((small_spec h).mono ?_)
  rintro v h1 ⟨rfl, k1⟩
  have z1 := k1.size
  refine ⟨true, rfl, (xcSame (Short_spec (hb.keep (k1.mono hn)))).mono ?_⟩
  rintro v h2 ⟨rfl, k2⟩
  have z2 := k2.size
  have kk2 := k1.trans k2 (by omega)
  refine ⟨_, rfl, joinBool (val := shortL xl) (fun _ => xcSame (Short_spec (hl.keep (kk2.mono hn)))) ?_⟩
  intro h3 k3
  have z3 := k3.size
  have kk3 := kk2.trans k3 (by omega)
  refine joinBool (val := shortL xr) (fun _ => xcSame (Short_spec (hr.keep (kk3.mono hn)))) ?_
  intro h4 k4
  have z4 := k4.size
  have kk4 := kk3.trans k4 (by omega)
  refine joinBool (val := shortL xs) (fun _ => xcSame (Short_spec (hs.keep (kk4.mono hn)))) ?_
  intro h5 k5
  have z5 := k5.size
  have kk5 := kk4.trans k5 (by omega)
  refine ⟨fun _ => ⟨rfl, kk5⟩, fun e => ?_⟩
  obtain ⟨eb, el, er, es, e30⟩ := guard4 e
  have lb := shortL_len eb
  have ll := shortL_len el
  have lr := shortL_len er
  have ls := shortL_len es
  have K := fun {h' : Heap} (k : Keep h.size h h') => k.mono hn
  refine (Merge_done (n := n) (hb.keep (K kk5)) (hl.keep (K kk5)) (hr.keep (K kk5)) (hs.keep (K kk5)) (by omega) hcs (by omega) (by omega) (by omega) (by omega)).mono ?_
  rintro v h6 ⟨k6, z, rfl, oz⟩
  have z6 := k6.size
  have kk6 := kk5.trans k6 (by omega)
  refine ⟨z, _, rfl, fun e => ?_, fun e => ?_⟩
  · have hm : mergeS xb xl xr xs = none := by
      cases hm : mergeS xb xl xr xs with
      | none => rfl
      | some r => rw [hm] at e; simp at e
    rw [hm] at oz
    have := oz.1
    simp at this
    exact ⟨by simp [this], kk6⟩
  obtain ⟨rs, hm⟩ : ∃ rs, mergeS xb xl xr xs = some rs := by
    cases hm : mergeS xb xl xr xs with
    | none => rw [hm] at e; simp at e
    | some r => exact ⟨r, rfl⟩
  rw [hm] at oz
  have oz' : Strs h6.size h6 z rs := oz
  obtain ⟨hro, hon, hperm, hord⟩ := merge_keeps hm
  have hlr : rs.length = xs.length := hperm.length_eq
  have hond : onceL rs = true := by
    have := onceL_nodup hon
    simp only [onceL, Bool.and_eq_true, decide_eq_true_eq]
    exact ⟨by omega, hperm.nodup_iff.2 this.1⟩
  have hlen : ((z.len : Nat) : Int) = ((s.len : Nat) : Int) := by rw [oz'.1, hs.1, hlr]
  refine joinBool (val := true) (fun _ => (Once_spec oz' (Nat.le_refl _) (by omega)).mono fun v h' hv => ⟨by rw [hv.1, hond], hv.2⟩) ?_
  intro h7 k7
  have z7 := k7.size
  have kk7 := kk6.trans k7 (by omega)
  refine ⟨fun e => by rw [hlen] at e; simp at e, fun _ => ?_⟩
  have eL : (((z.len : Nat) : Int)) = (rs.length : Int) := by rw [oz'.1]
  have eS : (((s.len : Nat) : Int)) = (xs.length : Int) := by rw [hs.1]
  refine ⟨fun i h' => Keep h7.size h7 h' ∧ ∃ k : Nat, i = k, fun i _ => rs.length - i.toNat, ⟨Keep.refl _ _, 0, rfl⟩, ?_⟩
  rintro i h8 ⟨k8, k, rfl⟩
  have kk8 := kk7.trans k8 (by omega)
  have z8 := k8.size
  refine ⟨fun t1 => ?_, fun _ => ⟨rfl, kk8⟩⟩
  have hlt : k < rs.length := by rw [eL] at t1; simpa using t1
  have hz8 : Strs h6.size h8 z rs := oz'.keep (k7.trans k8 (by omega))
  have hs8 : Strs n h8 s xs := hs.keep (K kk8)
  refine ⟨fun b j h' => h' = h8 ∧ ∃ q : Nat, j = q ∧ q ≤ xs.length ∧ b = (xs.take q).any fun x => decide (x = rs[k]), fun _ j _ => xs.length - j.toNat, ⟨rfl, 0, rfl, by omega, rfl⟩, ?_⟩
  rintro bb j h' ⟨rfl, q, rfl, hq, rfl⟩
  refine ⟨fun t2 => ?_, fun t2 => ?_⟩
  · have hqx : q < xs.length := by rw [eS] at t2; simpa using t2
    obtain ⟨p1, hp1, hc1⟩ := hs8.2.cell (k := q) (v := .string xs[q]) (by simp [hqx])
    obtain ⟨p2, hp2, hc2⟩ := hz8.2.cell (k := k) (v := .string rs[k]) (by simp [hlt])
    refine ⟨p1, fun _ => ⟨hp1, by omega, by rw [eS]; omega⟩, xs[q], fun _ => by rw [Int.toNat_natCast, Nat.mul_one]; exact hc1, p2, fun _ => ⟨hp2, by omega, by rw [eL]; omega⟩, rs[k], fun _ => by rw [Int.toNat_natCast, Nat.mul_one]; exact hc2, ?_⟩
    rw [wrap_succ (by omega), toList_beq]
    refine ⟨⟨rfl, q + 1, rfl, by omega, ?_⟩, by simp; omega⟩
    rw [List.take_succ_eq_append_getElem hqx, List.any_append]
    cases (xs.take q).any fun x => decide (x = rs[k]) <;> simp
  · have hqx : q = xs.length := by rw [eS] at t2; simp at t2; omega
    subst hqx
    rw [List.take_length]
    have hin : (xs.any fun x => decide (x = rs[k])) = true := by
      rw [List.any_eq_true]
      exact ⟨rs[k], hperm.mem_iff.1 (List.getElem_mem hlt), by simp⟩
    rw [hin]
    refine ⟨fun e => by simp at e, fun _ => ?_⟩
    refine ⟨fun j h'' => Keep h'.size h' h'' ∧ ∃ q : Nat, j = q ∧ q ≤ k, fun j _ => k - j.toNat, ⟨Keep.refl _ _, 0, rfl, by omega⟩, ?_⟩
    rintro j h9 ⟨k9, q, rfl, hqk⟩
    have kk9 := kk8.trans k9 (by omega)
    have z9 := k9.size
    have hz9 : Strs h6.size h9 z rs := hz8.keep (k9.mono (by omega))
    refine ⟨fun t3 => ?_, fun t3 => ?_⟩
    · have hq' : q < k := by simpa using t3
      have hqr : q < rs.length := by omega
      refine strs_idx hz9 hqr rfl (strs_idx hz9 hlt rfl ⟨(AheadS xb xl xr rs[q] rs[k]).1, (AheadS xb xl xr rs[q] rs[k]).2, fun h10 k10 => ?_, fun h10 k10 => ?_⟩)
      · have kk10 := kk9.trans k10 (by omega)
        have z10 := k10.size
        exact Ahead_spec (n := n) (hb.keep (K kk10)) (hl.keep (K kk10)) (hr.keep (K kk10)) (by omega) _ _ (by omega) (by omega) (by omega)
      · have ho := hord q k hqr hlt hq'
        refine ⟨fun e => ?_, fun _ => ?_⟩
        · exfalso
          rw [ho.1] at e
          simp at e
          omega
        · rw [wrap_succ (by omega)]
          exact ⟨⟨k9.trans k10 (by omega), q + 1, rfl, by omega⟩, by simp; omega⟩
    · rw [wrap_succ (by omega)]
      exact ⟨⟨k8.trans k9 (by omega), k + 1, rfl⟩, by simp; omega⟩
end Go.Proofs.Ytkjnneephcboaaa
