import Derived.Test.YtkjnneephcboaaaOrdC
namespace Go.Proofs.Ytkjnneephcboaaa
open Go Go.X Go.Proofs
set_option linter.unusedVariables false

theorem mapPlaces : MapT Try.prog 33 9 3 (.int .i64 0) := ⟨by kernel_rfl, by kernel_rfl, ⟨Try.t3, by kernel_rfl, by kernel_rfl⟩⟩

def placesL (l : List ByteArray) : List (ByteArray × Value) := l.zipIdx.map fun p => (p.1, .int .i64 (p.2 : Int))
theorem getL_places (l : List ByteArray) (x : ByteArray) : ∀ i, getL ((l.zipIdx i).map fun p => (p.1, Value.int .i64 (p.2 : Int))) x = (posFrom l i x).map fun p => .int .i64 (p : Int) := by
  induction l with
  | nil => intro i; rfl
  | cons s l ih =>
    intro i
    simp only [List.zipIdx_cons, List.map_cons, getL, posFrom, ih]
    split <;> rfl
theorem getL_placesL (l : List ByteArray) (x : ByteArray) : getL (placesL l) x = (posL l x).map fun p => .int .i64 (p : Int) := getL_places l x 0
theorem placesL_snoc (l : List ByteArray) (x : ByteArray) : placesL (l ++ [x]) = placesL l ++ [(x, .int .i64 (l.length : Int))] := by
  simp [placesL, List.zipIdx_append]

theorem lookPlaces {h : Heap} {m : Nat} {xs : List ByteArray} (H : MapAt h m (placesL xs)) (x : ByteArray) :
    QExec Try.prog (Instr.lookup 33 (.map (some m)) (.string x) true) h (.tuple #[.int .i64 (((posL xs x).getD 0 : Nat) : Int), .bool (posL xs x).isSome]) := by
  have := lookup_core mapPlaces H x true
  simp only [if_true, getZ, getL_placesL] at this
  cases hp : posL xs x with
  | none => rw [hp] at this; exact this
  | some p => rw [hp] at this; exact this

theorem placed_spec {n : Nat} {h : Heap} {l : Sl} {xs : List ByteArray} (hl : Strs n h l xs) (hn : n ≤ h.size) (hlen : xs.length < 4611686018427387904) :
    XC Try.prog 27 #[.slice l.a l.len l.cap] h fun v h' => Keep h.size h h' ∧
      ((xs.Nodup ∧ ∃ m, v = .tuple #[.map (some m), .bool (decide (xs.length ≤ 256))] ∧ h.size ≤ m ∧ MapAt h' m (placesL xs)) ∨ (¬ xs.Nodup ∧ v = .tuple #[.map none, .bool false])) := by
  refine sh_order_placed _ _ _ ?_
  intro h1
  have k1 : Keep h.size h h1 := Keep.push _ _ (Nat.le_refl _)
  have m1 : MapAt h1 h.size [] := MapAt.new h
  clear_value h1
  have e0 : (((l.len : Nat) : Int)) = (xs.length : Int) := by rw [hl.1]
  refine ⟨fun i h' => ∃ k : Nat, i = k ∧ k ≤ xs.length ∧ (xs.take k).Nodup ∧ MapAt h' h.size (placesL (xs.take k)) ∧ Keep h.size h h', fun i _ => xs.length - i.toNat, ⟨0, rfl, by omega, by simp, m1, k1⟩, ?_⟩
  rintro i h' ⟨k, rfl, hk, hnd, hm, hkeep⟩
  have hl' : Strs n h' l xs := hl.keep (hkeep.mono hn)
  refine ⟨fun h2 => ?_, fun h2 => ?_⟩
  · have hlt : k < xs.length := by rw [e0] at h2; simpa using h2
    refine strs_idx hl' hlt rfl ⟨_, _, lookPlaces hm _, fun h3 => ?_, fun h3 => ?_⟩
    · refine ⟨hkeep, .inr ⟨fun hN => ?_, rfl⟩⟩
      have hmem : xs[k] ∈ xs.take k := by
        apply Classical.byContradiction
        intro hno
        rw [posL_none.2 hno] at h3; cases h3
      have h5 := (List.nodup_iff_pairwise_ne.1 hN)
      rw [List.pairwise_iff_getElem] at h5
      obtain ⟨q, hq, he⟩ := List.mem_take_iff_getElem.1 hmem
      exact h5 q k (by omega) hlt (by omega) he
    · have hno : posL (xs.take k) xs[k] = none := by
        cases hp : posL (xs.take k) xs[k] with
        | none => rfl
        | some p => rw [hp] at h3; cases h3
      refine update_ok mapPlaces hm _ _ fun h'' hm' hs ho => ?_
      rw [wrap_succ (by omega)]
      refine ⟨⟨k + 1, rfl, by omega, ?_, ?_, ?_⟩, by simp; omega⟩
      · rw [List.take_succ_eq_append_getElem hlt, List.nodup_append]
        refine ⟨hnd, by simp, fun a ha b hb => ?_⟩
        simp at hb; subst hb
        exact fun e => posL_none.1 hno (e ▸ ha)
      · have hg : getL (placesL (xs.take k)) xs[k] = none := by rw [getL_placesL, hno]; rfl
        rw [setL_append hg] at hm'
        rw [List.take_succ_eq_append_getElem hlt, placesL_snoc]
        have : (xs.take k).length = k := by simp; omega
        rw [this]; exact hm'
      · exact hkeep.trans (keep_of_other hs ho (Nat.le_refl _)) (Nat.le_refl _)
  · have hk' : k = xs.length := by rw [e0] at h2; simp at h2; omega
    rw [hk', List.take_length] at hnd hm
    refine ⟨hkeep, .inl ⟨hnd, h.size, ?_, Nat.le_refl _, hm⟩⟩
    rw [e0]
    congr 3
    simp
    omega

theorem Once_spec {n : Nat} {h : Heap} {l : Sl} {xs : List ByteArray} (hl : Strs n h l xs) (hn : n ≤ h.size) (hlen : xs.length < 4611686018427387904) :
    XC Try.prog 14 #[.slice l.a l.len l.cap] h fun v h' => v = .bool (onceL xs) ∧ Keep h.size h h' := by
  refine sh_order_Once _ _ _ ((placed_spec hl hn hlen).mono ?_)
  rintro v h1 ⟨hk, ⟨hnd, m, rfl, _, _⟩ | ⟨hnd, rfl⟩⟩
  · exact ⟨_, _, rfl, by simp [onceL, hnd], hk⟩
  · exact ⟨_, _, rfl, by simp [onceL, hnd], hk⟩

theorem says_spec {h : Heap} {m : Nat} {xs : List ByteArray} (H : MapAt h m (placesL xs)) (x y : ByteArray) :
    XC Try.prog 28 #[.map (some m), .string x, .string y] h fun v h' => v = .int .i64 (saysL xs x y) ∧ h' = h := by
  refine sh_order_places_says _ _ _ _ _ ⟨_, _, lookPlaces H x, _, _, lookPlaces H y, fun h1 => ?_, fun h1 => ?_⟩
  · refine ⟨?_, rfl⟩
    unfold saysL
    cases hx : posL xs x with
    | none => rfl
    | some p =>
      cases hy : posL xs y with
      | none => rfl
      | some q => rw [hx, hy] at h1; simp at h1
  · refine (CompareInt_spec h _ _).mono ?_
    rintro v h2 ⟨rfl, rfl⟩
    refine ⟨_, rfl, ?_, rfl⟩
    unfold saysL
    cases hx : posL xs x with
    | none => rw [hx] at h1; simp at h1
    | some p =>
      cases hy : posL xs y with
      | none => rw [hx, hy] at h1; simp at h1
      | some q => simp [cmpI]

/-- Three rows' places, in maps of their own. -/
def Ords (n : Nat) (h : Heap) (p q r : Option Nat) (xb xl xr : List ByteArray) : Prop :=
  ∃ a b c, p = some a ∧ q = some b ∧ r = some c ∧ a < n ∧ b < n ∧ c < n ∧ MapAt h a (placesL xb) ∧ MapAt h b (placesL xl) ∧ MapAt h c (placesL xr)
theorem Ords.keep {n : Nat} {h h' : Heap} {p q r : Option Nat} {xb xl xr : List ByteArray} (H : Ords n h p q r xb xl xr) (k : Keep n h h') : Ords n h' p q r xb xl xr := by
  obtain ⟨a, b, c, e1, e2, e3, l1, l2, l3, m1, m2, m3⟩ := H
  exact ⟨a, b, c, e1, e2, e3, l1, l2, l3, m1.keep (k.get a l1), m2.keep (k.get b l2), m3.keep (k.get c l3)⟩
theorem Ords.mono {n m : Nat} {h : Heap} {p q r : Option Nat} {xb xl xr : List ByteArray} (H : Ords n h p q r xb xl xr) (hm : n ≤ m) : Ords m h p q r xb xl xr := by
  obtain ⟨a, b, c, e1, e2, e3, l1, l2, l3, m1, m2, m3⟩ := H
  exact ⟨a, b, c, e1, e2, e3, by omega, by omega, by omega, m1, m2, m3⟩

def pick3 {α : Type} (a b c : α) : Nat → α
  | 0 => a
  | 1 => b
  | _ => c

theorem newOrders_spec {n : Nat} {h : Heap} {b l r : Sl} {xb xl xr : List ByteArray} {g : Nat} (hg : Blk h g #[.slice b.a b.len b.cap, .slice l.a l.len l.cap, .slice r.a r.len r.cap]) (hb : Strs n h b xb) (hl : Strs n h l xl) (hr : Strs n h r xr) (hn : n ≤ h.size)
    (cb : xb.length < 4611686018427387904) (cl : xl.length < 4611686018427387904) (cr : xr.length < 4611686018427387904) :
    XC Try.prog 16 #[.slice (some ⟨g, 0, none⟩) 3 3] h fun v h' => Keep h.size h h' ∧ ∃ p q s, v = .tuple #[.agg #[.map p, .map q, .map s], .bool (rowsL xb xl xr)] ∧
      ((rowsL xb xl xr = true ∧ Ords h'.size h' p q s xb xl xr) ∨ (rowsL xb xl xr = false ∧ p = none ∧ q = none ∧ s = none)) := by
  refine sh_order_newOrders ⟨some ⟨g, 0, none⟩, 3, 3⟩ _ _ ?_
  intro h1 h2
  have s1 : h1.size = h.size + 1 := Array.size_push _
  have s2 : h2.size = h.size + 2 := by show (Array.push _ _).size = _; rw [Array.size_push, s1]
  have k1 : Keep h.size h h1 := Keep.push _ _ (Nat.le_refl _)
  have k2 : Keep h.size h h2 := k1.trans (Keep.push (n := h.size) _ _ (by omega)) (Nat.le_refl _)
  have b1 : Blk h1 h.size #[.map none, .map none, .map none] := Blk.new _ _ _
  have b2 : Blk h2 h.size #[.map none, .map none, .map none] := b1.keepN (Keep.push (n := h1.size) _ _ (Nat.le_refl _)) (by omega)
  have a2 : Blk h2 (h.size + 1) #[.map none, .map none, .map none] := by rw [← s1]; exact Blk.new _ _ _
  rw [show (Array.size h1) = h.size + 1 from s1]
  clear_value h1 h2
  let X : Nat → List ByteArray := pick3 xb xl xr
  let S : Nat → Sl := pick3 b l r
  have hX : ∀ j, Strs n h (S j) (X j) ∧ (X j).length < 4611686018427387904 := by
    intro j
    match j with
    | 0 => exact ⟨hb, cb⟩
    | 1 => exact ⟨hl, cl⟩
    | _ + 2 => exact ⟨hr, cr⟩
  have hS : ∀ j, j < 3 → (#[Value.slice b.a b.len b.cap, Value.slice l.a l.len l.cap, Value.slice r.a r.len r.cap] : Array Value)[j]? = some (.slice (S j).a (S j).len (S j).cap) := by
    intro j hj
    match j, hj with
    | 0, _ => rfl
    | 1, _ => rfl
    | 2, _ => rfl
  refine ⟨fun i h' => ∃ k : Nat, i = k ∧ k ≤ 3 ∧ Keep h.size h h' ∧ h.size + 2 ≤ h'.size ∧ Blk h' h.size #[.map none, .map none, .map none] ∧ ∃ ms : Array Value, ms.size = 3 ∧ Blk h' (h.size + 1) ms ∧
      ∀ j, j < k → ∃ m, ms[j]? = some (.map (some m)) ∧ h.size + 2 ≤ m ∧ MapAt h' m (placesL (X j)) ∧ onceL (X j) = true, fun i _ => 3 - i.toNat,
    ⟨0, rfl, by omega, k2, by omega, b2, _, rfl, a2, fun j hj => by omega⟩, ?_⟩
  rintro i h3 ⟨k, rfl, hk, kp, hsz, bk, ms, hms, ba, hall⟩
  refine ⟨fun h4 => ?_, fun h4 => ?_⟩
  · have hk3 : k < 3 := by
      have h4' : decide ((k : Int) < ((3 : Nat) : Int)) = true := h4
      simp at h4'; omega
    have hgl : g < h.size := hg.lt
    refine ⟨⟨g, 0, none⟩, ⟨rfl, by omega, by show (k : Int) < ((3 : Nat) : Int); omega⟩, S k, ?_, ?_⟩
    · have := (hg.keepN kp hgl).cellAdd (o := 0) (k := (k : Int).toNat * 1) (v := .slice (S k).a (S k).len (S k).cap) (by simpa using hS k hk3)
      exact this
    refine (placed_spec ((hX k).1.keep (kp.mono hn)) (by omega) (hX k).2).mono ?_
    rintro v h5 ⟨kp5, hv⟩
    have kp' : Keep h.size h h5 := kp.trans kp5 (by omega)
    have bk' := bk.keepN kp5 (by omega)
    have ba' := ba.keepN kp5 (by omega)
    have bad : onceL (X k) = false → rowsL xb xl xr = false := by
      intro hf
      unfold rowsL
      match k, hk3 with
      | 0, _ => have : onceL xb = false := hf; simp [this]
      | 1, _ => have : onceL xl = false := hf; simp [this]
      | 2, _ => have : onceL xr = false := hf; simp [this]
    have fail : onceL (X k) = false → XRunU Try.prog (Instr.storeAt 35 (.pointer (some ⟨Array.size h, 0, none⟩)) (.agg #[.map none, .map none, .map none])) h5 (fun h_13 => ∃ r_14 : Option Nat, ∃ r_15 : Option Nat, ∃ r_16 : Option Nat, ldList h_13 ⟨Array.size h, 0, none⟩ 0 [.map r_14, .map r_15, .map r_16] ∧
        (Keep h.size h h_13 ∧ ∃ p q s, (Value.tuple #[.agg #[.map r_14, .map r_15, .map r_16], .bool false]) = .tuple #[.agg #[.map p, .map q, .map s], .bool (rowsL xb xl xr)] ∧ ((rowsL xb xl xr = true ∧ Ords h_13.size h_13 p q s xb xl xr) ∨ (rowsL xb xl xr = false ∧ p = none ∧ q = none ∧ s = none)))) := by
      intro hf
      refine storeAll (vs := [.map none, .map none, .map none]) (by kernel_rfl) bk' (by kernel_rfl) rfl (by simp [Value.oneCell']) fun h6 b6 hs6 ho6 => ?_
      refine ⟨none, none, none, b6.ld, kp'.trans (keep_of_other hs6 ho6 (Nat.le_refl _)) (Nat.le_refl _), none, none, none, by rw [bad hf], .inr ⟨bad hf, rfl, rfl, rfl⟩⟩
    rcases hv with ⟨hnd, m, rfl, hm, hmap⟩ | ⟨hnd, rfl⟩
    · refine ⟨_, _, rfl, fun h6 => ?_, fun h6 => ?_⟩
      · exact fail (by simp at h6; simp [onceL]; intro; omega)
      · have hle : (X k).length ≤ 256 := by simp at h6; exact h6
        refine ⟨⟨h.size + 1, 0, none⟩, ⟨rfl, by omega, by omega⟩, ?_⟩
        rw [add_none, show 0 + (k : Int).toNat * 1 = k by simp]
        refine store1 (by kernel_rfl) (by kernel_rfl) ba' (by omega) rfl fun h7 b7 hs7 ho7 => ?_
        rw [wrap_succ (by omega)]
        have hne : m ≠ h.size + 1 := by have := kp.size; omega
        refine ⟨⟨k + 1, rfl, by omega, kp'.trans (keep_of_other (n := h.size) hs7 ho7 (by omega)) (Nat.le_refl _), by have := kp5.size; omega, bk'.keep (ho7 _ (by omega)), _, by simp [hms], b7, ?_⟩, by simp; omega⟩
        intro j hj
        by_cases hjk : j = k
        · subst hjk
          refine ⟨m, by simp [hms, hk3], by omega, hmap.keep (ho7 m hne), by simp [onceL, hnd, hle]⟩
        · obtain ⟨m', g1, g2, g3, g4⟩ := hall j (by omega)
          refine ⟨m', ?_, g2, (g3.keep (kp5.get m' g3.lt)).keep (ho7 m' (by omega)), g4⟩
          rw [Array.getElem?_setIfInBounds_ne (by omega)]
          exact g1
    · exact ⟨_, _, rfl, fun _ => fail (by simp [onceL, hnd]), fun h6 => by cases h6⟩
  · have hk3 : k = 3 := by
      have h4' : decide ((k : Int) < ((3 : Nat) : Int)) = false := h4
      simp at h4'; omega
    subst hk3
    obtain ⟨m0, g0, l0, p0, o0⟩ := hall 0 (by omega)
    obtain ⟨m1, g1, l1, p1, o1⟩ := hall 1 (by omega)
    obtain ⟨m2, g2, l2, p2, o2⟩ := hall 2 (by omega)
    refine ⟨⟨h.size + 1, 0, none⟩, ⟨rfl, by omega, by omega⟩, some m0, ba.cellAdd (by simpa using g0), ⟨h.size + 1, 0, none⟩, ⟨rfl, by omega, by omega⟩, some m1, ba.cellAdd (by simpa using g1), ⟨h.size + 1, 0, none⟩, ⟨rfl, by omega, by omega⟩, some m2, ba.cellAdd (by simpa using g2), ?_⟩
    refine storeAll (vs := [.map (some m0), .map (some m1), .map (some m2)]) (by kernel_rfl) bk (by kernel_rfl) rfl (by simp [Value.oneCell']) fun h6 b6 hs6 ho6 => ?_
    have hrow : rowsL xb xl xr = true := by
      have e0 : onceL xb = true := o0
      have e1 : onceL xl = true := o1
      have e2 : onceL xr = true := o2
      simp [rowsL, e0, e1, e2]
    refine ⟨some m0, some m1, some m2, b6.ld, kp.trans (keep_of_other hs6 ho6 (Nat.le_refl _)) (Nat.le_refl _), some m0, some m1, some m2, by rw [hrow], .inl ⟨hrow, m0, m1, m2, rfl, rfl, rfl, ?_, ?_, ?_, p0.keep (ho6 _ (by omega)), p1.keep (ho6 _ (by omega)), p2.keep (ho6 _ (by omega))⟩⟩
    · have := p0.lt; omega
    · have := p1.lt; omega
    · have := p2.lt; omega
end Go.Proofs.Ytkjnneephcboaaa
