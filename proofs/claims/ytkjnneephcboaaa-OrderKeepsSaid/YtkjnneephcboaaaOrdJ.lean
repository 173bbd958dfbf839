import Derived.Test.YtkjnneephcboaaaOrdI
namespace Go.Proofs.Ytkjnneephcboaaa
open Go Go.X Go.Proofs
set_option linter.unusedVariables false

/-- What slices.Sorted does with slices.Values of a row: shown in the text on sorting. -/
def SortedC : Prop := ∀ (h : Heap) (n g : Nat) (s : Sl) (xs : List ByteArray), Blk h g #[.slice s.a s.len s.cap] → Strs n h s xs → n ≤ h.size → xs.length ≤ 1000 →
  XC Try.prog 21 #[.func (.func 33) #[] #[.pointer (some ⟨g, 0, none⟩)]] h fun v h' =>
    Keep h.size h h' ∧ ∃ s' : Sl, v = .slice s'.a s'.len s'.cap ∧ Owns h' h.size 9 1 s' ((sortL xs).map Value.string)

theorem ownLe {h : Heap} {base : Nat} {s : Sl} {xs : List ByteArray} (H : Owns h base 9 1 s (xs.map Value.string)) : s.len = xs.length := by
  have := H.length; simp at this; omega

theorem Merge_spec (SC : SortedC) {n : Nat} {h : Heap} {b l r s : Sl} {xb xl xr xs : List ByteArray} (hb : Strs n h b xb) (hl : Strs n h l xl) (hr : Strs n h r xr) (hs : Strs n h s xs) (hn : n ≤ h.size) (hcap : s.len ≤ s.cap)
    (cb : xb.length < 4611686018427387904) (cl : xl.length < 4611686018427387904) (cr : xr.length < 4611686018427387904) (cs : xs.length < 4611686018427387904) :
    XC Try.prog 11 #[.slice b.a b.len b.cap, .slice l.a l.len l.cap, .slice r.a r.len r.cap, .slice s.a s.len s.cap] h
      fun v h' => Keep h.size h h' ∧ ∃ z : Sl, v = .tuple #[.slice z.a z.len z.cap, .bool (mergeS xb xl xr xs).isSome] ∧ Strs h'.size h' z ((mergeS xb xl xr xs).getD []) := by
  refine sh_order_Merge _ _ _ _ _ _ ?_
  intro h1
  have s1 : h1.size = h.size + 1 := Array.size_push _
  have k1 : Keep h.size h h1 := Keep.push _ _ (Nat.le_refl _)
  have b1 : Blk h1 h.size #[.slice b.a b.len b.cap, .slice l.a l.len l.cap, .slice r.a r.len r.cap] := Blk.new _ _ _
  clear_value h1
  refine (newOrders_spec b1 (hb.keep (k1.mono hn)) (hl.keep (k1.mono hn)) (hr.keep (k1.mono hn)) (by omega) cb cl cr).mono ?_
  rintro v h2 ⟨k2, p, q, t, rfl, hv⟩
  refine ⟨p, q, t, _, rfl, ?_⟩
  intro h3
  have s3 : h3.size = h2.size + 1 := Array.size_push _
  have k3 : Keep h2.size h2 h3 := Keep.push _ _ (Nat.le_refl _)
  have b3 : Blk h3 h2.size #[.map none, .map none, .map none] := Blk.new _ _ _
  clear_value h3
  refine storeAll (vs := [.map p, .map q, .map t]) (by kernel_rfl) b3 (by kernel_rfl) rfl (by simp [Value.oneCell']) fun h4 b4 hs4 ho4 => ?_
  have k4 : Keep h2.size h3 h4 := keep_of_other hs4 ho4 (Nat.le_refl _)
  have z2 : h1.size ≤ h2.size := k2.size
  have kk : Keep h.size h h4 := ((k1.trans k2 (by omega)).trans k3 (by omega)).trans k4 (by omega)
  refine ⟨fun v h' => v = .bool (onceL xs) ∧ Keep h4.size h4 h', fun e => ?_, fun e => ⟨onceL xs, rfl, Keep.refl _ _⟩, fun e v h' hv => ⟨_, hv.1⟩, ?_⟩
  · refine (Once_spec (hs.keep (kk.mono hn)) (by omega) cs).mono ?_
    rintro v h5 ⟨rfl, k5⟩
    exact ⟨_, rfl, rfl, k5⟩
  rintro o h5 ⟨ho, k5⟩
  simp only [Value.bool.injEq] at ho
  subst ho
  have kk5 : Keep h.size h h5 := kk.trans k5 (by omega)
  have hno : ∀ h' : Heap, Keep h.size h h' → mergeS xb xl xr xs = none → Keep h.size h h' ∧ ∃ z : Sl, (Value.tuple #[.slice none 0 0, .bool false]) = .tuple #[.slice z.a z.len z.cap, .bool (mergeS xb xl xr xs).isSome] ∧ Strs h'.size h' z ((mergeS xb xl xr xs).getD []) := by
    intro h' k' e
    rw [e]
    exact ⟨k', ⟨none, 0, 0⟩, rfl, Strs.nil _ _ _ _⟩
  refine ⟨fun e => hno h5 kk5 ?_, fun e => ?_⟩
  · unfold mergeS
    rw [if_neg]
    intro h
    simp only [Bool.and_eq_true] at h
    rw [h.1.1, h.1.2] at e
    simp at e
  obtain ⟨hro, hon⟩ : rowsL xb xl xr = true ∧ onceL xs = true := by
    cases hrr : rowsL xb xl xr <;> cases hoo : onceL xs <;> simp [hrr, hoo] at e ⊢
  obtain ⟨hnd, hlen⟩ := onceL_nodup hon
  rcases hv with ⟨_, hO⟩ | ⟨hf, _⟩
  rotate_left
  · rw [hro] at hf; cases hf
  have hO5 : Ords h4.size h5 p q t xb xl xr := (((hO.keep k3).keep k4).mono (by omega)).keep k5
  refine ⟨p, q, t, ((b4.keepN k5 (by omega))).ld, ?_⟩
  refine (behind_spec hO5 (by have := k5.size; omega) (hs.keep (kk5.mono hn) |>.mono (m := h4.size) (by omega)) hcap hnd hlen).mono ?_
  rintro v h6 ⟨k6, hB⟩
  have z5 : h4.size ≤ h5.size := k5.size
  have z6 : h5.size ≤ h6.size := k6.size
  have kk6 : Keep h.size h h6 := kk5.trans k6 (by omega)
  have hnoContra : ∀ h' : Heap, Keep h.size h h' → ¬ NoContra xb xl xr xs → Keep h.size h h' ∧ ∃ z : Sl, (Value.tuple #[.slice none 0 0, .bool false]) = .tuple #[.slice z.a z.len z.cap, .bool (mergeS xb xl xr xs).isSome] ∧ Strs h'.size h' z ((mergeS xb xl xr xs).getD []) := by
    intro h' k' hc
    refine hno h' k' ?_
    unfold mergeS
    rw [if_neg]
    intro h
    simp only [Bool.and_eq_true] at h
    exact hc (noContraB_iff.1 h.2)
  rcases hB with ⟨hnc, m1, m2, f, g, rfl, hm1, hm2, mf, mg, inv⟩ | ⟨hnc, rfl⟩
  rotate_left
  · refine ⟨none, none, _, rfl, ?_⟩
    intro h7
    have s7 : h7.size = h6.size + 1 := Array.size_push _
    have k7 : Keep h6.size h6 h7 := Keep.push _ _ (Nat.le_refl _)
    have b7 : Blk h7 h6.size #[.map none] := Blk.new _ _ _
    clear_value h7
    refine store1 (by kernel_rfl) (by kernel_rfl) b7 (by simp) rfl fun h8 b8 s8 o8 => ?_
    have k8 : Keep h6.size h7 h8 := keep_of_other s8 o8 (Nat.le_refl _)
    refine ⟨fun _ => hnoContra h8 ((kk6.trans k7 (by omega)).trans k8 (by omega)) hnc, fun e => by simp at e⟩
  refine ⟨some m1, some m2, true, rfl, ?_⟩
  have hmz : m2 < h6.size := mg.lt
  intro h7
  have s7 : h7.size = h6.size + 1 := Array.size_push _
  have k7 : Keep h6.size h6 h7 := Keep.push _ _ (Nat.le_refl _)
  have b7 : Blk h7 h6.size #[.map none] := Blk.new _ _ _
  clear_value h7
  refine store1 (by kernel_rfl) (by kernel_rfl) b7 (by simp) rfl fun h8 b8 s8 o8 => ?_
  have k8 : Keep h6.size h7 h8 := keep_of_other s8 o8 (Nat.le_refl _)
  have k68 : Keep h6.size h6 h8 := k7.trans k8 (by omega)
  have kk8 : Keep h.size h h8 := kk6.trans k68 (by omega)
  have mf8 := mf.keepN k68
  have mg8 := mg.keepN k68
  refine ⟨fun e => by simp at e, fun _ => ?_⟩
  refine (Values_spec h8 s).mono ?_
  rintro v h9 ⟨rfl, s9, k9, b9⟩
  refine ⟨_, rfl, ?_⟩
  have kk9 : Keep h.size h h9 := kk8.trans k9 (by omega)
  refine (SC h9 n h8.size s xs b9 (hs.keep (kk9.mono hn)) (by omega) (by omega)).mono ?_
  rintro v h10 ⟨k10, s', rfl, own10⟩
  have z10 : h9.size ≤ h10.size := k10.size
  refine ⟨s', rfl, ?_⟩
  have hbx : Blk h8 h6.size #[.map (some m2)] := b8
  obtain ⟨lo, sl, q1, q2, q3, q4⟩ := mf8
  have hF : ∀ x t, t ∈ f x ↔ (t ∈ xs ∧ ahB xb xl xr x t = true) ∧ x ∈ xs := by
    intro x t
    rw [inv.mem]
    unfold ahB
    constructor
    · rintro ⟨hd, ha⟩
      have := Dn_end hd
      exact ⟨⟨this.2, by simpa using ha⟩, this.1⟩
    · rintro ⟨⟨ht, ha⟩, hx⟩
      have ha' : (aheadS xb xl xr x t).1 = -1 := by simpa using ha
      refine ⟨Dn_all hx ht ?_, ha'⟩
      rintro rfl
      rw [aheadS_self] at ha'; simp at ha'
  have hmS : mergeS xb xl xr xs = selL (ahB xb xl xr) xs.length (sortL xs) := by
    unfold mergeS
    rw [if_pos]
    simp [hro, hon, noContraB_iff.2 hnc]
  have hperm := sortL_perm xs
  have hcnt : ∀ t ∈ xs, g t = (sortL xs).countP fun s => ahB xb xl xr s t := by
    intro t ht
    rw [inv.cnt, hperm.countP_eq]
    refine List.countP_congr fun x hx => ?_
    simp only [decide_eq_true_eq, hF x t]
    exact ⟨fun h => h.1.2, fun h => ⟨⟨ht, h⟩, hx⟩⟩
  refine ⟨fun rest out h' => ∃ (ys zs : List ByteArray) (g : ByteArray → Nat), h10.size ≤ h'.size ∧ (∀ i, i < h8.size → i ≠ m2 → h'[i]? = h8[i]?) ∧ Owns h' h9.size 9 1 rest (ys.map Value.string) ∧ (∀ p, rest.a = some p → p.block < h10.size) ∧
      Owns h' h10.size 9 1 out (zs.map Value.string) ∧ MapCnt h' m2 g ∧ MInv (ahB xb xl xr) xs ys zs g ∧ ys.length + zs.length = xs.length ∧ mergeS xb xl xr xs = (selL (ahB xb xl xr) ys.length ys).map (zs ++ ·),
    fun rest _ _ => rest.len, ⟨sortL xs, [], g, Nat.le_refl _, fun i hi hne => (k10.get i (by omega)).trans (k9.get i hi), own10, fun p hp => (own10.base_le p hp).2, Owns.nil _ _ _ _, (mg8.keepN k9).keepN k10, ?_, ?_, ?_⟩, ?_⟩
  · exact ⟨hperm.nodup_iff.2 hnd, fun t ht => .inl (hperm.mem_iff.2 ht), fun t ht => hperm.mem_iff.1 ht, fun z hz => (by cases hz), fun t ht => hcnt t (hperm.mem_iff.1 ht)⟩
  · rw [hperm.length_eq]; simp
  · rw [hmS, hperm.length_eq]
    simp
  rintro rest out h' ⟨ys, zs, g', zz, hO', ownR, hRb, ownO, mg', minv, hcnt', hsel⟩
  have hlr : rest.len = ys.length := (ownLe ownR)
  have hlo : out.len = zs.length := (ownLe ownO)
  refine ⟨fun t1 => ?_, fun t1 => ?_⟩
  · have hpos : 0 < ys.length := by rw [hlr] at t1; simpa using t1
    have hbx' : Blk h' h6.size #[.map (some m2)] := hbx.keep (hO' _ (by omega) (by omega))
    refine (IndexFunc_spec hbx' mg' (ownStrs ownR) (by omega)).mono ?_
    rintro v h12 ⟨rfl, ⟨rfl, hnone⟩ | ⟨k, hk, rfl, h0, hbef⟩⟩
    · refine ⟨_, rfl, fun _ => hno h12 ?_ ?_, fun e => by simp at e⟩
      · exact ⟨by have := kk8.size; omega, fun i hi => (hO' i (by omega) (by omega)).trans (kk8.get i hi)⟩
      · rw [hsel, minv.none hpos hnone]; rfl
    refine ⟨_, rfl, fun e => by simp at e; omega, fun _ => ?_⟩
    refine strs_idx (ownStrs ownR) hk rfl ?_
    intro h13
    have s13 : h13.size = h12.size + 1 := Array.size_push _
    have k13 : Keep h12.size h12 h13 := Keep.push _ _ (Nat.le_refl _)
    have b13 : Blk h13 h12.size #[.string ys[k]] := Blk.new _ _ _
    clear_value h13
    refine append_own elemStr (ownO.keepN k13) (src := ⟨some ⟨h12.size, 0, none⟩, 1, 1⟩) (news := [.string ys[k]]) (n := h13.size) (.inr ⟨h12.size, 0, rfl, by omega, fun i u hi => ?_⟩) rfl (by simp [Value.oneCell']) (by simp only; omega) (by simp only; omega) (by omega) fun so h14 e1 e2 e3 e4 e5 => ⟨so, rfl, ?_⟩
    · cases i with
      | zero => simp at hi; subst hi; exact b13.cell rfl
      | succ i => simp at hi
    have o14 : ∀ i, i < h10.size → h14[i]? = h12[i]? := fun i hi => (e3 i (by omega) fun p hp => by have := (ownO.base_le p hp).1; omega).trans (k13.get i (by omega))
    have ownR14 : Owns h14 h9.size 9 1 rest (ys.map Value.string) := ownR.keep fun p hp => o14 _ (hRb p hp)
    refine strs_idx (ownStrs ownR14) hk rfl ?_
    have hO14 : ∀ i, i < h8.size → i ≠ m2 → h14[i]? = h8[i]? := fun i hi hne => (o14 i (by omega)).trans (hO' i hi hne)
    have hx : ys[k] ∈ ys := List.getElem_mem hk
    have hxs : ys[k] ∈ xs := minv.sub _ hx
    have hlk := lookup_core mapRows (q1.keep (hO14 m1 (by omega) (by omega))) ys[k] false
    rw [q2 ys[k]] at hlk
    refine ⟨sl ys[k], hlk, ?_⟩
    have ownF : ∀ h' : Heap, (∀ i, i ≠ m2 → h'[i]? = h14[i]?) → Owns h' (m2 + 1) 9 1 (sl ys[k]) ((f ys[k]).map Value.string) := fun h' hk' =>
      (q3 ys[k]).keep fun p hp => by have := (q3 ys[k]).base_le p hp; exact (hk' _ (by omega)).trans (hO14 _ this.2 (by omega))
    have hFl : (sl ys[k]).len = (f ys[k]).length := (ownLe (ownF h14 fun _ _ => rfl))
    have hFlen : (f ys[k]).length ≤ xs.length := inv.len _
    have mg14 : MapCnt h14 m2 g' := by
      obtain ⟨lc, c1, c2⟩ := mg'
      exact ⟨lc, c1.keep (o14 _ (by omega)), c2⟩
    refine ⟨fun j h' => ∃ l : Nat, j = l ∧ l ≤ (f ys[k]).length ∧ h'.size = h14.size ∧ (∀ i, i ≠ m2 → h'[i]? = h14[i]?) ∧ MapCnt h' m2 fun t => if t ∈ (f ys[k]).take l then g' t - 1 else g' t, fun j _ => (f ys[k]).length - j.toNat,
      ⟨0, rfl, by omega, rfl, fun _ _ => rfl, by simpa using mg14⟩, ?_⟩
    rintro j h15 ⟨l, rfl, hl, s15, o15, mg15⟩
    refine ⟨fun t2 => ?_, fun t2 => ?_⟩
    · have hlt : l < (f ys[k]).length := by rw [hFl] at t2; simpa using t2
      have hbx15 : Blk h15 h6.size #[.map (some m2)] := hbx.keep ((o15 _ (by omega)).trans (hO14 _ (by omega) (by omega)))
      refine strs_idx (ownStrs (ownF h15 o15)) hlt rfl ⟨_, hbx15.cell rfl, _, mg15.look _, ?_⟩
      have htF : (f ys[k])[l] ∈ f ys[k] := List.getElem_mem hlt
      have hb' := ((hF _ _).1 htF).1
      obtain ⟨hty, htne, hg1, hg2⟩ := minv.behind hx (ahB_self _ _ _ _) hb'.1 hb'.2
      have hnt : (f ys[k])[l] ∉ (f ys[k]).take l := by
        have h1 : ((f ys[k]).take (l + 1)).Nodup := (inv.nd ys[k]).sublist (List.take_sublist _ _)
        rw [List.take_succ_eq_append_getElem hlt, List.nodup_append] at h1
        exact fun hm => h1.2.2 _ hm _ (List.mem_singleton.2 rfl) rfl
      have hmem : ∀ x, x ∈ (f ys[k]).take (l + 1) ↔ x ∈ (f ys[k]).take l ∨ x = (f ys[k])[l] := fun x => by
        rw [List.take_succ_eq_append_getElem hlt, List.mem_append, List.mem_singleton]
      simp only [if_neg hnt]
      have ew : IntKind.wrap .i64 (((g' (f ys[k])[l] : Nat) : Int) - 1) = ((g' (f ys[k])[l] - 1 : Nat) : Int) := by rw [wrap64 (by omega) (by omega)]; omega
      rw [ew]
      refine mg15.store _ _ fun h16 mg16 s16 o16 => ?_
      rw [wrap_succ (by omega)]
      refine ⟨⟨l + 1, rfl, by omega, by omega, fun i hi => (o16 i hi).trans (o15 i hi), ?_⟩, by simp; omega⟩
      have ef : (fun x => if (f ys[k])[l] = x then g' (f ys[k])[l] - 1 else if x ∈ (f ys[k]).take l then g' x - 1 else g' x) = fun t => if t ∈ (f ys[k]).take (l + 1) then g' t - 1 else g' t := by
        funext x
        by_cases e : (f ys[k])[l] = x
        · have : x ∈ (f ys[k]).take (l + 1) := (hmem x).2 (.inr e.symm)
          rw [if_pos e, if_pos this, e]
        · rw [if_neg e]
          by_cases hm : x ∈ (f ys[k]).take l
          · rw [if_pos hm, if_pos ((hmem x).2 (.inl hm))]
          · rw [if_neg hm, if_neg fun h => (((hmem x).1 h).elim hm fun e' => e e'.symm)]
      rw [← ef]
      exact mg16
    · have hlF : l = (f ys[k]).length := by rw [hFl] at t2; simp at t2; omega
      subst hlF
      rw [List.take_length] at mg15
      rw [wrap_succ (by omega)]
      have ownR15 : Owns h15 h9.size 9 1 rest (ys.map Value.string) := ownR14.keep fun p hp => o15 _ (by have := (ownR14.base_le p hp).1; omega)
      refine (Delete_spec ownR15 (by omega) hk (by omega)).mono ?_
      rintro v h16 ⟨sr, rfl, ea, own16, s16, o16⟩
      obtain ⟨hs1, hs2⟩ := minv.sel hk h0 hbef
      have hlE : (ys.eraseIdx k).length = ys.length - 1 := List.length_eraseIdx_of_lt hk
      have hlsr : sr.len = ys.length - 1 := by rw [(ownLe own16), hlE]
      have hm16 : ∀ i, (i < h9.size ∨ h10.size ≤ i) → h16[i]? = h15[i]? := fun i hi => o16 i fun p hp => by
        have h1 := (ownR.base_le p hp).1
        have h2 := hRb p hp
        omega
      refine ⟨sr, rfl, ⟨ys.eraseIdx k, zs ++ [ys[k]], (fun t => if t ∈ f ys[k] then g' t - 1 else g' t), by omega, fun i hi hne => ?_, own16, fun p hp => hRb p (by rw [← ea]; exact hp), ?_, ?_, ?_, ?_, ?_⟩, ?_⟩
      · exact ((hm16 i (.inl (by omega))).trans (o15 i hne)).trans (hO14 i hi hne)
      · rw [List.map_append]
        refine e2.keep fun p hp => ?_
        have hbp := (e2.base_le p hp).1
        exact (hm16 _ (.inr hbp)).trans (o15 _ (by omega))
      · obtain ⟨lc, c1, c2⟩ := mg15
        exact ⟨lc, c1.keep (hm16 _ (.inl (by omega))), c2⟩
      · rw [hs2]
        exact minv.step hx (ahB_self _ _ _ _) h0 fun t => by rw [hF]; exact ⟨fun h => h.1, fun h => ⟨h, hxs⟩⟩
      · rw [hlE]; simp; omega
      · rw [hsel, hs1, Option.map_map]
        congr 1
        funext w
        simp
      · simp only; omega
  · have hz : ys.length = 0 := by rw [hlr] at t1; simp at t1; simpa using t1
    rw [hz] at hsel
    have hm : mergeS xb xl xr xs = some zs := by rw [hsel]; simp [selL]
    rw [hm]
    exact ⟨⟨by have := kk8.size; omega, fun i hi => (hO' i (by omega) (by omega)).trans (kk8.get i hi)⟩, out, rfl, (ownStrs ownO)⟩
end Go.Proofs.Ytkjnneephcboaaa
