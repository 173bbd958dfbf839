import Derived.Test.YtkjnneephcboaaaOrdT
import Derived.Test.YtkjnneephcboaaaOrdR
namespace Go.Proofs.Ytkjnneephcboaaa
open Go Go.X Go.Proofs Go.Sort
set_option linter.unusedVariables false

theorem guard2 {a b c d : Bool} (h : (bif (bif (!(bif a then b else false)) then true else c) then true else d) = false) : a = true ∧ b = true ∧ c = false ∧ d = false := by
  cases a <;> cases b <;> cases c <;> cases d <;> simp at h ⊢

theorem SameLaw_spec {n : Nat} {h : Heap} {l s : Sl} {xl xs : List ByteArray} (hl : Strs n h l xl) (hs : Strs n h s xs) (hn : n ≤ h.size) (hcs : s.len ≤ s.cap) (hcl : l.len ≤ l.cap) :
    XC Try.prog 6 #[.slice l.a l.len l.cap, .slice s.a s.len s.cap] h fun v h' => v = .bool true ∧ Keep h.size h h' := by
  refine sh_scarflaw23_OrderSame _ _ _ _ ((small_spec h).mono ?_)
  rintro v h1 ⟨rfl, k1⟩
  have z1 := k1.size
  have K := fun {h' : Heap} (k : Keep h.size h h') => k.mono hn
  refine ⟨true, rfl, (xcSame (Short_spec (hl.keep (K k1)))).mono ?_⟩
  rintro v h2 ⟨rfl, k2⟩
  have z2 := k2.size
  have kk2 := k1.trans k2 (by omega)
  refine ⟨_, rfl, joinBool (val := shortL xs) (fun _ => xcSame (Short_spec (hs.keep (K kk2)))) ?_⟩
  intro h3 k3
  have z3 := k3.size
  have kk3 := kk2.trans k3 (by omega)
  refine ⟨fun _ => ⟨rfl, kk3⟩, fun e => ?_⟩
  obtain ⟨el, es, _, _⟩ := guard2 e
  have ll := shortL_len el
  have ls := shortL_len es
  have nil : ∀ {m : Nat} {h' : Heap}, Strs m h' ⟨none, 0, 0⟩ [] := Strs.nil _ _ _ _
  refine (Merge_done (n := n) (hl.keep (K kk3)) (hl.keep (K kk3)) (hl.keep (K kk3)) (hl.keep (K kk3)) (by omega) hcl (by omega) (by omega) (by omega) (by omega)).mono ?_
  rintro v h4 ⟨k4, za, rfl, oa⟩
  have z4 := k4.size
  have kk4 := kk3.trans k4 (by omega)
  refine ⟨za, _, rfl, (Merge_done (n := n) (b := ⟨none, 0, 0⟩) (r := ⟨none, 0, 0⟩) nil (hl.keep (K kk4)) nil (hl.keep (K kk4)) (by omega) hcl (by simp) (by omega) (by simp) (by omega)).mono ?_⟩
  rintro v h5 ⟨k5, zb, rfl, ob⟩
  have z5 := k5.size
  have kk5 := kk4.trans k5 (by omega)
  refine ⟨zb, _, rfl, (Merge_done (n := n) (b := ⟨none, 0, 0⟩) (l := ⟨none, 0, 0⟩) (r := ⟨none, 0, 0⟩) nil nil nil (hs.keep (K kk5)) (by omega) hcs (by simp) (by simp) (by simp) (by omega)).mono ?_⟩
  rintro v h6 ⟨k6, zc, rfl, oc⟩
  have z6 := k6.size
  have kk6 := kk5.trans k6 (by omega)
  rw [merge_same] at oa ⊢
  rw [merge_one] at ob ⊢
  rw [merge_none] at oc ⊢
  refine ⟨zc, _, rfl, (Once_spec (n := n) (hl.keep (K kk6)) (by omega) (by omega)).mono ?_⟩
  rintro v h7 ⟨rfl, k7⟩
  have z7 := k7.size
  have kk7 := kk6.trans k7 (by omega)
  refine ⟨_, rfl, joinBool (val := onceL xs) (fun _ => Once_spec (n := n) (hs.keep (K kk7)) (by omega) (by omega)) ?_⟩
  intro h8 k8
  have z8 := k8.size
  have kk8 := kk7.trans k8 (by omega)
  have i1 : ∀ (c : Bool) (q : List ByteArray), (if c = true then some q else none).isSome = c := by intro c q; cases c <;> rfl
  rw [i1, i1]
  refine ⟨fun e => ?_, fun _ => ?_⟩
  · exfalso; simp at e
  -- the row that is told is sorted, each name once
  have ka : Keep h4.size h4 h8 := (((k5.trans k6 (by omega)).trans k7 (by omega)).trans k8 (by omega))
  have kb : Keep h5.size h5 h8 := ((k6.trans k7 (by omega)).trans k8 (by omega))
  have kc : Keep h6.size h6 h8 := k7.trans k8 (by omega)
  obtain ⟨zs, hzs⟩ : ∃ zs, zs = (if onceL xs = true then some (sortL xs) else none).getD [] := ⟨_, rfl⟩
  rw [← hzs] at oc
  have hzl : zs.length ≤ 200 := by
    rw [hzs]; split
    · simp [(sortL_perm xs).length_eq]; omega
    · simp
  have hsorted : ∀ (i j : Nat) (hi : i < zs.length) (hj : j < zs.length), i < j → zs[i].toList < zs[j].toList := by
    intro i j hi hj hij
    cases ho : onceL xs with
    | false => rw [ho] at hzs; simp at hzs; subst hzs; simp at hi
    | true =>
      rw [ho] at hzs
      simp only [if_true, Option.getD_some] at hzs
      subst hzs
      have hnd : (sortL xs).Nodup := (sortL_perm xs).nodup_iff.2 (onceL_nodup ho).1
      have h1 : leS (sortL xs)[i] (sortL xs)[j] := List.pairwise_iff_getElem.1 (sortL_sorted xs) i j hi hj hij
      have h2 : (sortL xs)[i] ≠ (sortL xs)[j] := List.pairwise_iff_getElem.1 (List.nodup_iff_pairwise_ne.1 hnd) i j hi hj hij
      exact List.not_le.1 fun h3 => h2 (leS_antisymm h1 h3)
  have oc8 := oc.keep kc
  have eL : (((zc.len : Nat) : Int)) = (zs.length : Int) := by rw [oc.1]
  refine ⟨fun i h' => h' = h8 ∧ ∃ k : Nat, i = k ∧ 1 ≤ k, fun i _ => zs.length - i.toNat, ⟨rfl, 1, rfl, by omega⟩, ?_⟩
  rintro i h' ⟨rfl, k, rfl, hk⟩
  refine ⟨fun t1 => ?_, fun t1 => ?_⟩
  · have hlt : k < zs.length := by rw [eL] at t1; simpa using t1
    have hw : IntKind.wrap .i64 ((k : Int) - 1) = ((k - 1 : Nat) : Int) := by rw [wrap64 (by omega) (by omega)]; omega
    rw [hw]
    refine strs_idx oc8 hlt rfl (strs_idx (k := k - 1) oc8 (by omega) rfl ⟨fun e => ?_, fun _ => ?_⟩)
    · exfalso
      have h1 := hsorted (k - 1) k (by omega) hlt (by omega)
      simp only [Bool.or_eq_true, beq_iff_eq, bytesLess_eq, decide_eq_true_eq] at e
      rcases e with e | e
      · exact List.lt_irrefl _ (List.lt_trans e h1)
      · rw [e] at h1; exact List.lt_irrefl _ h1
    · rw [wrap_succ (by omega)]
      exact ⟨⟨rfl, k + 1, rfl, by omega⟩, by simp; omega⟩
  have hm1 : (if onceL xl = true then some xl else none).getD [] = if onceL xl = true then xl else [] := by cases onceL xl <;> rfl
  rw [hm1] at oa ob
  have hlen1 : (if onceL xl = true then xl else []).length ≤ 200 := by
    split
    · omega
    · simp
  refine joinBool (val := decide ((if onceL xl = true then xl else []) = xl)) (fun _ => (xcSame (Same_spec ((oa.keep ka).mono (by omega : h4.size ≤ h'.size)) ((hl.keep (K kk8)).mono (by omega : n ≤ h'.size)) (by omega)))) ?_
  intro h9 k9
  have z9 := k9.size
  have kk9 := kk8.trans k9 (by omega)
  refine joinBool (val := decide ((if onceL xl = true then xl else []) = xl)) (fun _ => (xcSame (Same_spec ((ob.keep (kb.trans k9 (by omega))).mono (by omega : h5.size ≤ h9.size)) ((hl.keep (K kk9)).mono (by omega : n ≤ h9.size)) (by omega)))) ?_
  intro h10 k10
  refine ⟨?_, kk9.trans k10 (by omega)⟩
  have hlc : onceL xs = true → (zc.len : Int) = (s.len : Int) := by
    intro ho
    rw [oc.1, hs.1, hzs, ho]
    simp [(sortL_perm xs).length_eq]
  refine congrArg Value.bool ?_
  cases h1 : onceL xl <;> cases h2 : onceL xs
  · simp
  · simp [hlc h2]
  · simp
  · simp [hlc h2]
end Go.Proofs.Ytkjnneephcboaaa
