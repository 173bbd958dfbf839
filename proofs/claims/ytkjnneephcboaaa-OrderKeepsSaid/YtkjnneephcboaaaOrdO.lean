import Derived.Test.YtkjnneephcboaaaOrdN
namespace Go.Proofs.Ytkjnneephcboaaa
open Go Go.X Go.Proofs Go.Sort
set_option linter.unusedVariables false

theorem strsAt {n : Nat} {h : Heap} {s : Sl} {xs : List ByteArray} (H : Strs n h s xs) (h0 : 0 < xs.length) : ∃ b o, s.a = some ⟨b, o, none⟩ ∧ b < n ∧ ∀ (j : Nat) (hj : j < xs.length), cellH h ⟨b, o + j, none⟩ = some (.string xs[j]) := by
  rcases H.2 with e | ⟨b, o, e, hb, hc⟩
  · simp at e; subst e; simp at h0
  · exact ⟨b, o, e, hb, fun j hj => hc j _ (by simp [hj])⟩

theorem refMerge_spec {n : Nat} {h : Heap} {b l r s : Sl} {xb xl xr xs : List ByteArray} (hb : Strs n h b xb) (hl : Strs n h l xl) (hr : Strs n h r xr) (hs : Strs n h s xs) (hn : n ≤ h.size)
    (cb : xb.length < 4611686018427387904) (cl : xl.length < 4611686018427387904) (cr : xr.length < 4611686018427387904) (cs : xs.length < 4611686018427387904) :
    XC Try.prog 12 #[.slice b.a b.len b.cap, .slice l.a l.len l.cap, .slice r.a r.len r.cap, .slice s.a s.len s.cap] h
      fun v h' => Keep h.size h h' ∧ ∃ z : Sl, v = .tuple #[.slice z.a z.len z.cap, .bool (mergeS xb xl xr xs).isSome] ∧ Strs h'.size h' z ((mergeS xb xl xr xs).getD []) := by
  refine sh_scarfref23_Merge _ _ _ _ _ _ ((refrows_spec hb hl hr cb cl cr).mono ?_)
  rintro v h0 ⟨rfl, rfl⟩
  refine ⟨_, rfl, (refOnce_spec hs cs).mono ?_⟩
  rintro v h1 ⟨rfl, rfl⟩
  have hno : ∀ h' : Heap, Keep h1.size h1 h' → mergeS xb xl xr xs = none → Keep h1.size h1 h' ∧ ∃ z : Sl, (Value.tuple #[.slice none 0 0, .bool false]) = .tuple #[.slice z.a z.len z.cap, .bool (mergeS xb xl xr xs).isSome] ∧ Strs h'.size h' z ((mergeS xb xl xr xs).getD []) := by
    intro h' k' e
    rw [e]
    exact ⟨k', ⟨none, 0, 0⟩, rfl, Strs.nil _ _ _ _⟩
  refine ⟨_, rfl, fun e => hno _ (Keep.refl _ _) ?_, fun e => ?_⟩
  · unfold mergeS
    rw [if_neg]
    intro h
    simp only [Bool.and_eq_true] at h
    rw [h.1.1, h.1.2] at e
    simp at e
  obtain ⟨hro, hon⟩ : rowsL xb xl xr = true ∧ onceL xs = true := by
    cases hrr : rowsL xb xl xr <;> cases hoo : onceL xs <;> simp [hrr, hoo] at e ⊢
  obtain ⟨hnd, hlen⟩ := onceL_nodup hon
  obtain ⟨⟨nb, nl⟩, nr⟩ : (xb.Nodup ∧ xl.Nodup) ∧ xr.Nodup := by
    have := hro
    simp only [rowsL, Bool.and_eq_true] at this
    exact ⟨⟨(onceL_nodup this.1.1).1, (onceL_nodup this.1.2).1⟩, (onceL_nodup this.2).1⟩
  have e0 : (((s.len : Nat) : Int)) = (xs.length : Int) := by rw [hs.1]
  -- the pairs
  refine ⟨fun i h' => h' = h1 ∧ ∃ k : Nat, i = k ∧ k ≤ xs.length ∧ ∀ s t, Dn xs k 0 s t → (aheadS xb xl xr s t).2 = true, fun i _ => xs.length - i.toNat, ⟨rfl, 0, rfl, by omega, fun s t h => absurd h (Dn_start xs s t)⟩, ?_⟩
  rintro i h' ⟨rfl, k, rfl, hk, hok⟩
  refine ⟨fun t1 => ?_, fun t1 => ?_⟩
  · have hlt : k < xs.length := by rw [e0] at t1; simpa using t1
    have hx : xs[k]? = some xs[k] := List.getElem?_eq_getElem hlt
    refine ⟨fun j h'' => h'' = h' ∧ ∃ q : Nat, j = q ∧ q ≤ k ∧ ∀ s t, Dn xs k q s t → (aheadS xb xl xr s t).2 = true, fun j _ => k - j.toNat, ⟨rfl, 0, rfl, by omega, hok⟩, ?_⟩
    rintro j h'' ⟨rfl, q, rfl, hq, hok⟩
    refine ⟨fun t2 => ?_, fun t2 => ?_⟩
    · have hqk : q < k := by simpa using t2
      have hqx : q < xs.length := by omega
      have hy : xs[q]? = some xs[q] := List.getElem?_eq_getElem hqx
      refine strs_idx hs hlt rfl (strs_idx hs hqx rfl ⟨_, _, refahead_spec hb hl hr _ _ nb nl nr cb cl cr, fun t3 => hno _ (Keep.refl _ _) ?_, fun t3 => ?_⟩)
      · unfold mergeS
        rw [if_neg]
        intro h
        simp only [Bool.and_eq_true] at h
        have := (noContraB_iff.1 h.2) _ (List.getElem_mem hlt) _ (List.getElem_mem hqx)
        rw [this] at t3
        simp at t3
      · rw [wrap_succ (by omega)]
        have hokk : (aheadS xb xl xr xs[k] xs[q]).2 = true := by simpa using t3
        refine ⟨⟨rfl, q + 1, rfl, by omega, fun s t h => ?_⟩, by simp; omega⟩
        rcases (Dn_next hqk hx hy s t).1 h with h | ⟨rfl, rfl⟩ | ⟨rfl, rfl⟩
        · exact hok s t h
        · exact hokk
        · rw [aheadS_flip]; exact hokk
    · have hqk : q = k := by simp at t2; omega
      subst hqk
      rw [wrap_succ (by omega)]
      exact ⟨⟨rfl, q + 1, rfl, by omega, fun s t h => hok s t ((Dn_row s t).2 h)⟩, by simp; omega⟩
  have hk' : k = xs.length := by rw [e0] at t1; simp at t1; omega
  subst hk'
  have hnc : NoContra xb xl xr xs := by
    intro a ha b hb
    by_cases hab : a = b
    · rw [hab, aheadS_self]
    · exact hok a b (Dn_all ha hb hab)
  have hmS : mergeS xb xl xr xs = selL (ahB xb xl xr) xs.length (sortL xs) := by
    unfold mergeS
    rw [if_pos]
    simp [hro, hon, noContraB_iff.2 hnc]
  intro h2
  have s2 : h2.size = h'.size + 1 := Array.size_push _
  have k2 : Keep h'.size h' h2 := Keep.push _ _ (Nat.le_refl _)
  have g2 : h2[h'.size]? = some (.cells #[] 9 (0, 0)) := get_push _ _
  clear_value h2
  have own0 : Owns h2 h'.size 9 1 ⟨some ⟨h'.size, 0, none⟩, 0, 0⟩ [] := ⟨rfl, .inr ⟨h'.size, 0, #[], rfl, Nat.le_refl _, g2, Nat.le_refl _, by unfold maxLen; omega, rfl, rfl⟩⟩
  have hs2 := hs.keep (k2.mono hn)
  refine append_own elemStr own0 (src := s) (news := xs.map Value.string) (n := n) hs2.2 (by simp [hs.1]) (by simp [Value.oneCell']) (by have := hs.1; simp only; omega) (by have := hs.1; simp only; omega) (by omega) fun s' h3 e1 e2 e3 e4 e5 => ⟨s', rfl, ?_⟩
  have k3 : ∀ i, i < h'.size → h3[i]? = h'[i]? := fun i hi => (e3 i (by omega) fun p hp => by simp at hp; subst hp; simp; omega).trans (k2.get i hi)
  simp only [List.nil_append] at e2
  have hls' : s'.len = xs.length := ownLe e2
  have hcs' : s'.len ≤ s'.cap := by
    rcases e2.2 with ⟨hv, h0⟩ | ⟨g, cap, cur, hv, _, _, hnc, _⟩
    · omega
    · simp only [Value.slice.injEq] at hv; omega
  -- the rounds
  refine ⟨fun rest out hx => ∃ ys zs : List ByteArray, h3.size ≤ hx.size ∧ (∀ i, i < h'.size → hx[i]? = h'[i]?) ∧ Strs hx.size hx rest ys ∧ rest.len ≤ rest.cap ∧ Owns hx h3.size 9 1 out (zs.map Value.string) ∧
      (∀ p q, rest.a = some p → out.a = some q → p.block ≠ q.block) ∧ ys.Nodup ∧ ys.length + zs.length = xs.length ∧ mergeS xb xl xr xs = (selL (ahB xb xl xr) ys.length (sortL ys)).map (zs ++ ·), fun rest _ _ => rest.len,
    ⟨xs, [], Nat.le_refl _, k3, ownStrs e2, hcs', Owns.nil _ _ _ _, fun p q _ hq => (by cases hq), hnd, by simp, by rw [hmS]; simp⟩, ?_⟩
  rintro rest out h4 ⟨ys, zs, z4, k4, hR, hRc, ownO, hdis, hyn, hcnt, hsel⟩
  have hlr : rest.len = ys.length := hR.1
  have hlo : out.len = zs.length := ownLe ownO
  have k4' : Keep h'.size h' h4 := ⟨by omega, k4⟩
  refine ⟨fun t2 => ?_, fun t2 => ?_⟩
  rotate_left
  · have hz : ys.length = 0 := by rw [hlr] at t2; simp at t2; simpa using t2
    have hy0 : ys = [] := List.eq_nil_of_length_eq_zero hz
    subst hy0
    have hm : mergeS xb xl xr xs = some zs := by rw [hsel]; simp [selL]
    rw [hm]
    exact ⟨k4', out, rfl, ownStrs ownO⟩
  have hpos : 0 < ys.length := by rw [hlr] at t2; simpa using t2
  obtain ⟨bb, oo, hra, hbb, hcell⟩ := strsAt hR hpos
  have eL : (((rest.len : Nat) : Int)) = (ys.length : Int) := by rw [hlr]
  -- which is best
  refine ⟨fun best i hx => hx = h4 ∧ ∃ k : Nat, i = k ∧ k ≤ ys.length ∧ ((best = -1 ∧ ∀ (j : Nat) (hj : j < ys.length), j < k → freeB (ahB xb xl xr) ys ys[j] = false) ∨
      ∃ (b : Nat) (hb : b < ys.length), best = b ∧ freeB (ahB xb xl xr) ys ys[b] = true ∧ ∀ (j : Nat) (hj : j < ys.length), j < k → freeB (ahB xb xl xr) ys ys[j] = true → leS ys[b] ys[j]), fun _ i _ => ys.length - i.toNat,
    ⟨rfl, 0, rfl, by omega, .inl ⟨rfl, fun j hj h0 => by omega⟩⟩, ?_⟩
  rintro best i h5 ⟨rfl, k, rfl, hk, hbest⟩
  refine ⟨fun t3 => ?_, fun t3 => ?_⟩
  · have hlt : k < ys.length := by rw [eL] at t3; simpa using t3
    refine ⟨fun first m hx => hx = h5 ∧ ∃ q : Nat, m = q ∧ q ≤ ys.length ∧ first = (ys.take q).all fun s => !ahB xb xl xr s ys[k], fun _ m _ => ys.length - m.toNat, ⟨rfl, 0, rfl, by omega, rfl⟩, ?_⟩
    rintro first m h6 ⟨rfl, q, rfl, hq, rfl⟩
    refine ⟨fun t4 => ?_, fun t4 => ?_⟩
    · have hqy : q < ys.length := by rw [eL] at t4; simpa using t4
      refine strs_idx hR hqy rfl (strs_idx hR hlt rfl ⟨_, _, refahead_spec (hb.keep (k4'.mono hn)) (hl.keep (k4'.mono hn)) (hr.keep (k4'.mono hn)) _ _ nb nl nr cb cl cr, ?_⟩)
      rw [wrap_succ (by omega)]
      refine ⟨⟨rfl, q + 1, rfl, by omega, ?_⟩, by simp; omega⟩
      rw [List.take_succ_eq_append_getElem hqy, List.all_append]
      cases (ys.take q).all fun s => !ahB xb xl xr s ys[k] with
      | false => rfl
      | true =>
        simp only [cond_true, List.all_cons, List.all_nil, Bool.and_true, Bool.true_and]
        by_cases hqk : q = k
        · subst hqk
          simp [ahB_self]
        · have : ((q : Int) == (k : Int)) = false := by simp; omega
          rw [this]
          simp only [cond_false, ahB]
          rw [Bool.eq_iff_iff]
          simp
    · have hqy : q = ys.length := by rw [eL] at t4; simp at t4; omega
      subst hqy
      rw [List.take_length]
      have hfr : (ys.all fun s => !ahB xb xl xr s ys[k]) = freeB (ahB xb xl xr) ys ys[k] := rfl
      rw [hfr, wrap_succ (by omega)]
      have hck : cellH h6 ((⟨bb, oo, none⟩ : Addr).add ((k : Int).toNat * 1)) = some (.string ys[k]) := by rw [Int.toNat_natCast, Nat.mul_one, add_none]; exact hcell k hlt
      rcases hbest with ⟨rfl, hnone⟩ | ⟨c, hc, rfl, hcf, hcl⟩
      · refine ⟨⟨bb, oo, none⟩, fun _ => ⟨hra, by omega, by rw [eL]; omega⟩, ys[k], fun _ => hck, ⟨bb, oo, none⟩, fun e => by simp at e, ys[k], fun e => by simp at e, fun t5 => ?_, fun t5 => ?_⟩
        · have hf : freeB (ahB xb xl xr) ys ys[k] = true := by
            cases hf : freeB (ahB xb xl xr) ys ys[k] <;> simp [hf] at t5 ⊢
          refine ⟨⟨rfl, k + 1, rfl, by omega, .inr ⟨k, hlt, rfl, hf, fun j hj hjk hjf => ?_⟩⟩, by simp; omega⟩
          by_cases hjk' : j = k
          · subst hjk'; exact leS_refl _
          · rw [hnone j hj (by omega)] at hjf; cases hjf
        · have hf : freeB (ahB xb xl xr) ys ys[k] = false := by
            cases hf : freeB (ahB xb xl xr) ys ys[k] <;> simp [hf] at t5 ⊢
          refine ⟨⟨rfl, k + 1, rfl, by omega, .inl ⟨rfl, fun j hj hjk => ?_⟩⟩, by simp; omega⟩
          by_cases hjk' : j = k
          · subst hjk'; exact hf
          · exact hnone j hj (by omega)
      · have hcc : cellH h6 ((⟨bb, oo, none⟩ : Addr).add ((c : Int).toNat * 1)) = some (.string ys[c]) := by rw [Int.toNat_natCast, Nat.mul_one, add_none]; exact hcell c hc
        have hdc : decide ((c : Int) < 0) = false := by simp
        refine ⟨⟨bb, oo, none⟩, fun _ => ⟨hra, by omega, by rw [eL]; omega⟩, ys[k], fun _ => hck, ⟨bb, oo, none⟩, fun _ => ⟨hra, by omega, by rw [eL]; omega⟩, ys[c], fun _ => hcc, fun t5 => ?_, fun t5 => ?_⟩
        · rw [hdc] at t5
          have hf : freeB (ahB xb xl xr) ys ys[k] = true ∧ Op.bytesLess ys[k].toList ys[c].toList = true := by
            cases hf : freeB (ahB xb xl xr) ys ys[k] <;> simp [hf] at t5 ⊢
            exact t5
          have hlts : ys[k].toList < ys[c].toList := by have := hf.2; rw [bytesLess_eq] at this; simpa using this
          refine ⟨⟨rfl, k + 1, rfl, by omega, .inr ⟨k, hlt, rfl, hf.1, fun j hj hjk hjf => ?_⟩⟩, by simp; omega⟩
          by_cases hjk' : j = k
          · subst hjk'; exact leS_refl _
          · exact List.le_trans (List.le_of_lt hlts) (hcl j hj (by omega) hjf)
        · rw [hdc] at t5
          refine ⟨⟨rfl, k + 1, rfl, by omega, .inr ⟨c, hc, rfl, hcf, fun j hj hjk hjf => ?_⟩⟩, by simp; omega⟩
          by_cases hjk' : j = k
          · subst hjk'
            rw [hjf] at t5
            have : Op.bytesLess ys[j].toList ys[c].toList = false := by simpa using t5
            rw [bytesLess_eq] at this
            exact List.not_lt.1 (by simpa using this)
          · exact hcl j hj (by omega) hjf
  have hky : k = ys.length := by rw [eL] at t3; simp at t3; omega
  subst hky
  refine ⟨fun t4 => hno _ k4' ?_, fun t4 => ?_⟩
  · rcases hbest with ⟨rfl, hnone⟩ | ⟨c, hc, rfl, _⟩
    · rw [hsel, sel_stuck hpos fun j hj => hnone j hj hj]; rfl
    · simp at t4; omega
  rcases hbest with ⟨rfl, _⟩ | ⟨c, hc, rfl, hcf, hcl⟩
  · simp at t4
  refine strs_idx hR hc rfl ?_
  intro h6
  have s6 : h6.size = h5.size + 1 := Array.size_push _
  have k6 : Keep h5.size h5 h6 := Keep.push _ _ (Nat.le_refl _)
  have b6 : Blk h6 h5.size #[.string ys[c]] := Blk.new _ _ _
  clear_value h6
  refine append_own elemStr (ownO.keepN k6) (src := ⟨some ⟨h5.size, 0, none⟩, 1, 1⟩) (news := [.string ys[c]]) (n := h6.size) (.inr ⟨h5.size, 0, rfl, by omega, fun i u hi => ?_⟩) rfl (by simp [Value.oneCell']) (by simp only; omega) (by simp only; omega) (by omega) fun so h7 d1 d2 d3 d4 d5 => ⟨so, rfl, ?_⟩
  · cases i with
    | zero => simp at hi; subst hi; exact b6.cell rfl
    | succ i => simp at hi
  have k7 : ∀ i, i < h5.size → (∀ p, out.a = some p → i ≠ p.block) → h7[i]? = h5[i]? := fun i hi hne => (d3 i (by omega) hne).trans (k6.get i hi)
  have kb7 : h7[bb]? = h5[bb]? := k7 bb hbb fun p hp => hdis _ p hra hp
  have hcell7 : ∀ (j : Nat) (hj : j < ys.length), cellH h7 ⟨bb, oo + j, none⟩ = some (.string ys[j]) := fun j hj => (cellH_block (a := ⟨bb, oo + j, none⟩) kb7).trans (hcell j hj)
  have k7' : ∀ i, i < h'.size → h7[i]? = h'[i]? := fun i hi => (k7 i (by omega) fun p hp => by have := (ownO.base_le p hp).1; omega).trans (k4 i hi)
  rw [wrap_succ (by omega)]
  refine ⟨.inr ⟨_, rfl⟩, ⟨by omega, by omega, by omega, by omega⟩, .inl rfl, ⟨by omega, by omega, by omega, by omega⟩, ?_⟩
  simp only [Int.toNat_natCast, show (0 : Int).toNat = 0 from rfl, Nat.sub_zero, resl_zero]
  rw [hra]
  have hsrc : Arr h7.size h7 (resl (some ⟨bb, oo, none⟩) 1 (c + 1) rest.cap) ((ys.drop (c + 1)).map Value.string) := by
    by_cases hcc : c + 1 = rest.cap
    · have : ys.drop (c + 1) = [] := List.drop_eq_nil_of_le (by omega)
      rw [this]; exact .inl rfl
    · refine .inr ⟨bb, oo + (c + 1), ?_, by omega, fun j v hj => ?_⟩
      · unfold resl
        rw [if_neg (fun e => hcc e.symm)]
        simp [add_none]
      · have hj' : c + 1 + j < ys.length := by
          have := (List.getElem?_eq_some_iff.1 hj).1
          simp at this; omega
        have : v = .string ys[c + 1 + j] := by
          rw [List.getElem?_map, List.getElem?_drop, List.getElem?_eq_getElem hj'] at hj
          simpa using hj.symm
        rw [this, Nat.add_assoc]
        exact hcell7 _ hj'
  have htk : (ys.take c).length = c := by simp; omega
  have hlE : (ys.eraseIdx c).length = ys.length - 1 := List.length_eraseIdx_of_lt hc
  have hsl := sel_least hyn hc hcf fun j hj => hcl j hj hj
  have hnext : ∀ (rest' : Sl) (h8 : Heap), rest'.len = ys.length - 1 → rest'.len ≤ rest'.cap → Arr h8.size h8 rest'.a ((ys.eraseIdx c).map Value.string) → (∀ i, i < h7.size → h8[i]? = h7[i]?) → h7.size ≤ h8.size → (∀ p q, rest'.a = some p → so.a = some q → p.block ≠ q.block) →
      ∃ ys zs : List ByteArray, h3.size ≤ h8.size ∧ (∀ i, i < h'.size → h8[i]? = h'[i]?) ∧ Strs h8.size h8 rest' ys ∧ rest'.len ≤ rest'.cap ∧ Owns h8 h3.size 9 1 so (zs.map Value.string) ∧
        (∀ p q, rest'.a = some p → so.a = some q → p.block ≠ q.block) ∧ ys.Nodup ∧ ys.length + zs.length = xs.length ∧ mergeS xb xl xr xs = (selL (ahB xb xl xr) ys.length (sortL ys)).map (zs ++ ·) := by
    intro rest' h8 f1 f2 f3 f4 f5 f6
    refine ⟨ys.eraseIdx c, zs ++ [ys[c]], by omega, fun i hi => (f4 i (by omega)).trans (k7' i hi), ⟨by omega, f3⟩, f2, ?_, f6, hyn.sublist (List.eraseIdx_sublist _ _), by rw [hlE]; simp; omega, ?_⟩
    · rw [List.map_append]
      exact d2.keep fun p hp => f4 _ (d2.base_le p hp).2
    · rw [hsel, hsl, Option.map_map]
      congr 1
      funext w
      simp
  have hea : ys.eraseIdx c = ys.take c ++ ys.drop (c + 1) := List.eraseIdx_eq_take_drop_succ _ _
  have hdis7 : ∀ q, so.a = some q → bb ≠ q.block := fun q hq => by
    rcases d5 q hq with ⟨p, hp, e⟩ | e
    · rw [e]; exact hdis _ p hra hp
    · omega
  refine append_fresh elemStr (p := ⟨bb, oo, none⟩) (n := c) (olds := (ys.take c).map Value.string) (by simp; omega) (fun j v hj => ?_) (src := ⟨resl (some ⟨bb, oo, none⟩) 1 (c + 1) rest.cap, rest.len - (c + 1), rest.cap - (c + 1)⟩) hsrc (by simp; omega) (by simp only; omega) (by simp only; omega) (fun hz => ?_) (fun cp h8 hz hcp harr hk8 hs8 => ?_)
  · have hj' : j < c := by
      have := (List.getElem?_eq_some_iff.1 hj).1
      simp at this; omega
    have hjy : j < ys.length := by omega
    have : v = .string ys[j] := by
      rw [List.getElem?_map, List.getElem?_take, if_pos hj', List.getElem?_eq_getElem hjy] at hj
      simpa using hj.symm
    rw [this, add_none]
    exact hcell7 j hjy
  · simp only at hz
    have hc1 : c = ys.length - 1 := by omega
    refine ⟨⟨some ⟨bb, oo, none⟩, c, c⟩, rfl, hnext _ _ hc1 (Nat.le_refl _) ?_ (fun _ _ => rfl) (Nat.le_refl _) (fun p q hp hq => by simp only [Option.some.injEq] at hp; subst hp; exact hdis7 q hq), by simp only; omega⟩
    refine .inr ⟨bb, oo, rfl, by omega, fun j v hj => ?_⟩
    have hd : ys.drop (c + 1) = [] := List.drop_eq_nil_of_le (by omega)
    rw [hea, hd, List.append_nil] at hj
    have hj' : j < c := by
      have := (List.getElem?_eq_some_iff.1 hj).1
      simp at this; omega
    have hjy : j < ys.length := by omega
    have : v = .string ys[j] := by
      rw [List.getElem?_map, List.getElem?_take, if_pos hj', List.getElem?_eq_getElem hjy] at hj
      simpa using hj.symm
    rw [this]
    exact hcell7 j hjy
  · simp only at hz hcp
    refine ⟨⟨some ⟨h7.size, 0, none⟩, c + (rest.len - (c + 1)), cp⟩, rfl, hnext _ _ (by simp only; omega) hcp ?_ hk8 (by omega) (fun p q hp hq => ?_), by simp only; omega⟩
    · rw [hea, List.map_append]; exact harr
    · simp only [Option.some.injEq] at hp
      subst hp
      have := (d2.base_le q hq).2
      simp only
      omega
end Go.Proofs.Ytkjnneephcboaaa
