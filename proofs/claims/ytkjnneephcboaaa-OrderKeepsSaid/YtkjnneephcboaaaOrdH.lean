import Derived.Test.YtkjnneephcboaaaOrdG
namespace Go.Proofs.Ytkjnneephcboaaa
open Go Go.X Go.Proofs
set_option linter.unusedVariables false

/-! ### slices.Delete of one; slices.IndexFunc at the closure -/
theorem Delete_spec {h : Heap} {base : Nat} {s : Sl} {xs : List ByteArray} (H : Owns h base 9 1 s (xs.map Value.string)) (hb : base ≤ h.size) {k : Nat} (hk : k < xs.length) (hlen : xs.length ≤ 1000) :
    XC Try.prog 25 #[.slice s.a s.len s.cap, .int .i64 (k : Int), .int .i64 ((k + 1 : Nat) : Int)] h fun v h' =>
      ∃ s' : Sl, v = .slice s'.a s'.len s'.cap ∧ s'.a = s.a ∧ Owns h' base 9 1 s' ((xs.eraseIdx k).map Value.string) ∧ h'.size = h.size ∧ (∀ i, (∀ p, s.a = some p → i ≠ p.block) → h'[i]? = h[i]?) := by
  have hl := H.length
  rw [List.length_map, Nat.mul_one] at hl
  rcases H.2 with ⟨hv, h0⟩ | ⟨g, cap, cur, hv, hbg, hg, hnc, hcm, hsz, ht⟩
  · omega
  simp only [Value.slice.injEq] at hv
  obtain ⟨ha, _, rfl⟩ := hv
  have hg' : h[g]? = some (.cells cur 9 (0, 0)) := hg
  have hgl : g < h.size := (Array.getElem?_eq_some_iff.1 hg').1
  rw [Nat.mul_one] at hsz ht
  refine sh_slices_Delete_string_string s _ _ _ _ ⟨.inr ⟨_, rfl⟩, ⟨by omega, by omega, by omega, by omega⟩, fun e => ?_, fun e => ⟨.inl rfl, ⟨by omega, by omega, by omega, by omega⟩, .inl rfl, ⟨by omega, by omega, by omega, by omega⟩, ?_⟩⟩
  · simp at e; omega
  have e1 : resl s.a 1 ((0 : Int).toNat) (((s.cap : Int) : Int).toNat) = some ⟨g, 0, none⟩ := by rw [show (0 : Int).toNat = 0 from rfl, resl_zero, ha]
  have e2 : resl s.a 1 (((k + 1 : Nat) : Int).toNat) (((s.cap : Int) : Int).toNat) = if k + 1 = s.cap then some ⟨g, 0, none⟩ else some ⟨g, k + 1, none⟩ := by
    unfold resl
    rw [Int.toNat_natCast, Int.toNat_natCast, ha]
    by_cases hc : k + 1 = s.cap
    · rw [if_pos hc.symm, if_pos hc]
    · rw [if_neg (fun e => hc e.symm), if_neg hc]
      simp [add_none]
  rw [e1, e2]
  simp only [Int.toNat_natCast, show (0 : Int).toNat = 0 from rfl, Nat.sub_zero]
  -- the append, in place
  have happ : ∃ q, (if k + 1 = s.cap then some (⟨g, 0, none⟩ : Addr) else some ⟨g, k + 1, none⟩) = some q ∧ ∀ j u, ((xs.drop (k + 1)).map Value.string)[j]? = some u → ∀ B d, (mk B d h).cell? (q.add j) = some u := by
    by_cases hc : k + 1 = s.cap
    · refine ⟨⟨g, 0, none⟩, by rw [if_pos hc], fun j u hu => ?_⟩
      have : xs.drop (k + 1) = [] := List.drop_eq_nil_of_le (by omega)
      rw [this] at hu; simp at hu
    · refine ⟨⟨g, k + 1, none⟩, by rw [if_neg hc], fun j u hu B d => ?_⟩
      rw [add_none]
      have hcur : cur[k + 1 + j]? = some u := by
        have h3 : (xs.map Value.string)[k + 1 + j]? = some u := by simpa [List.getElem?_drop] using hu
        rw [← ht, List.getElem?_take] at h3
        split at h3
        · simpa using h3
        · cases h3
      exact Blk.cell (h := h) ⟨_, hg'⟩ hcur
  obtain ⟨q, hq, hcells⟩ := happ
  rw [hq]
  let news := (xs.drop (k + 1)).map Value.string
  have hnl : news.length = xs.length - (k + 1) := by simp [news]
  have hcl : cur.size = s.cap := hsz
  let cur2 : Array Value := (cur.toList.take k ++ news ++ cur.toList.drop (k + news.length)).toArray
  have hc2 : cur2.size = s.cap := by
    simp only [cur2, List.size_toArray, List.length_append, List.length_take, List.length_drop, Array.length_toList, hnl]
    omega
  have hap : XRun Try.prog (Builtin.append_ #[22, 22] 22 #[.slice (some ⟨g, 0, none⟩) k s.cap, .slice (some q) (s.len - (k + 1)) (s.cap - (k + 1))]) h
      (fun v h2 => v = .slice (some ⟨g, 0, none⟩) (k + (s.len - (k + 1))) s.cap ∧ h2[g]? = some (.cells cur2 9 (0, 0)) ∧ h2.size = h.size ∧ ∀ i, i ≠ g → h2[i]? = h[i]?) := by
    intro B d
    obtain ⟨i, hi, hz, hisz, _⟩ := elemStr.info
    have hr := run_append_room (P := Try.prog) (w := mk B d h) 22 22 9 i elemStr.slice hi g k s.cap cur hg' q (s.len - (k + 1)) (s.cap - (k + 1)) news (by rw [hnl, hisz]; omega) (fun j u hu => hcells j u hu B d) (by intro u hu; simp only [news, List.mem_map] at hu; obtain ⟨x, -, rfl⟩ := hu; rfl) (by omega) (by rw [hisz, hnl]; omega)
    rw [hisz, Nat.mul_one] at hr
    refine ⟨_, d, h.setIfInBounds g (.cells cur2 9 (0, 0)), ?_, rfl, by simp [hgl], by simp, fun i hi => by rw [Array.getElem?_setIfInBounds_ne (Ne.symm hi)]⟩
    rw [hr]
    congr 1
    unfold World.setRow mk
    simp only
    congr 1
    apply Array.ext_getElem?
    intro j
    rw [Array.getElem?_modify]
    by_cases hj : j = g
    · subst hj
      have e' : h[j] = .cells cur 9 (0, 0) := by
        have := Array.getElem?_eq_getElem hgl
        rw [hg'] at this
        exact (Option.some.inj this).symm
      simp [hgl, e', cur2]
    · rw [if_neg (Ne.symm hj), Array.getElem?_setIfInBounds_ne (Ne.symm hj)]
  refine hap.mono ?_
  rintro v h2 ⟨rfl, g2, z2, o2⟩
  have el : k + (s.len - (k + 1)) = s.len - 1 := by omega
  rw [el]
  refine ⟨⟨some ⟨g, 0, none⟩, s.len - 1, s.cap⟩, rfl, .inl trivial, ⟨by omega, by simp only; omega, by simp only; omega, by omega⟩, ?_⟩
  have e3 : resl (some ⟨g, 0, none⟩) 1 (s.len - 1) s.cap = some ⟨g, s.len - 1, none⟩ := by
    unfold resl
    rw [if_neg (by omega)]
    simp [add_none]
  simp only [Int.toNat_natCast]
  rw [e3]
  have en : s.len - (s.len - 1) = 1 := by omega
  rw [en]
  have hzc : (Builtin.zeroCells (Value.string ⟨#[]⟩).cells 1).toList = [.string ⟨#[]⟩] := by simp [Builtin.zeroCells, Value.cells]
  refine clear_run elemStr g2 (by rw [hc2]; omega) (by rw [hzc]; simp [Value.oneCell']) (by rw [hzc]; rfl) (fun h3 g3 z3 o3 => ?_) (by omega)
  refine ⟨rfl, ⟨some ⟨g, 0, none⟩, s.len - 1, s.cap⟩, rfl, ha.symm, ⟨?_, .inr ⟨g, s.cap, _, rfl, hbg, g3, by simp only; omega, hcm, ?_, ?_⟩⟩, by omega, fun i hi => (o3 i (hi _ ha)).trans (o2 i (hi _ ha))⟩
  · rw [List.length_map, List.length_eraseIdx_of_lt hk]; simp only; omega
  · rw [hzc]
    simp only [List.size_toArray, List.length_append, List.length_take, List.length_drop, Array.length_toList, hc2, List.length_cons, List.length_nil]
    omega
  · rw [hzc]
    simp only [Nat.mul_one]
    have e4 : (cur2.toList.take (s.len - 1)).length = s.len - 1 := by simp [hc2]; omega
    rw [List.append_assoc, List.take_append_of_le_length (by omega), List.take_take, Nat.min_self]
    have e5 : cur2.toList = cur.toList.take k ++ news ++ cur.toList.drop (k + news.length) := rfl
    have e6 : (cur.toList.take k ++ news).length = s.len - 1 := by simp [hnl]; omega
    rw [e5, ← e6, List.take_left, List.eraseIdx_eq_take_drop_succ, List.map_append]
    congr 1
    have : cur.toList.take k = (cur.toList.take s.len).take k := by rw [List.take_take]; congr 1; omega
    rw [this, ht, List.map_take]

theorem ownStrs {h : Heap} {base : Nat} {s : Sl} {xs : List ByteArray} (H : Owns h base 9 1 s (xs.map Value.string)) : Strs h.size h s xs :=
  ⟨by have := H.length; rw [List.length_map] at this; omega, H.arr⟩

theorem zero_spec {h : Heap} {b m : Nat} {g : ByteArray → Nat} (hb : Blk h b #[.map (some m)]) (hm : MapCnt h m g) (x : ByteArray) :
    XC Try.prog 24 #[.string x, .pointer (some ⟨b, 0, none⟩)] h fun v h' => v = .bool (decide (g x = 0)) ∧ h' = h := by
  refine sh_order_Merge_1 _ _ _ _ ⟨_, hb.cell rfl, _, hm.look x, ?_, rfl⟩
  congr 1
  rw [Bool.eq_iff_iff]
  simp

theorem IndexFunc_spec {n : Nat} {h : Heap} {b m : Nat} {g : ByteArray → Nat} (hb : Blk h b #[.map (some m)]) (hm : MapCnt h m g) {s : Sl} {xs : List ByteArray} (hs : Strs n h s xs) (hlen : xs.length ≤ 1000) :
    XC Try.prog 23 #[.slice s.a s.len s.cap, .func (.func 24) #[] #[.pointer (some ⟨b, 0, none⟩)]] h fun v h' => h' = h ∧
      ((v = .int .i64 (-1) ∧ ∀ x ∈ xs, g x ≠ 0) ∨ ∃ k : Nat, ∃ hk : k < xs.length, v = .int .i64 (k : Int) ∧ g xs[k] = 0 ∧ ∀ x ∈ xs.take k, g x ≠ 0) := by
  refine sh_slices_IndexFunc_string_string _ _ _ _ _ _ ?_
  have e0 : (((s.len : Nat) : Int)) = (xs.length : Int) := by rw [hs.1]
  refine ⟨fun i h' => h' = h ∧ ∃ k : Nat, i = k ∧ k ≤ xs.length ∧ ∀ x ∈ xs.take k, g x ≠ 0, fun i _ => xs.length - i.toNat, ⟨rfl, 0, rfl, by omega, by simp⟩, ?_⟩
  rintro i h' ⟨rfl, k, rfl, hk, hno⟩
  refine ⟨fun h1 => ?_, fun h1 => ?_⟩
  · have hlt : k < xs.length := by rw [e0] at h1; simpa using h1
    refine strs_idx hs hlt rfl ⟨by kernel_rfl, (zero_spec hb hm _).mono ?_⟩
    rintro v h2 ⟨rfl, rfl⟩
    refine ⟨_, rfl, fun e => ?_, fun e => ?_⟩
    · simp at e
      exact ⟨rfl, .inr ⟨k, hlt, rfl, e, hno⟩⟩
    · simp at e
      rw [wrap_succ (by omega)]
      refine ⟨⟨rfl, k + 1, rfl, by omega, fun x hx => ?_⟩, by simp; omega⟩
      rw [List.take_succ_eq_append_getElem hlt, List.mem_append] at hx
      rcases hx with hx | hx
      · exact hno x hx
      · simp at hx; subst hx; exact e
  · have hk' : k = xs.length := by rw [e0] at h1; simp at h1; omega
    subst hk'
    rw [List.take_length] at hno
    exact ⟨rfl, .inl ⟨rfl, hno⟩⟩

theorem Values_spec (h : Heap) (s : Sl) : XC Try.prog 22 #[.slice s.a s.len s.cap] h fun v h' =>
    v = .func (.func 33) #[] #[.pointer (some ⟨h.size, 0, none⟩)] ∧ h'.size = h.size + 1 ∧ Keep h.size h h' ∧ Blk h' h.size #[.slice s.a s.len s.cap] := by
  refine sh_slices_Values_string_string _ _ _ ?_
  intro h1
  exact ⟨rfl, Array.size_push _, Keep.push _ _ (Nat.le_refl _), Blk.new _ _ _⟩
end Go.Proofs.Ytkjnneephcboaaa
