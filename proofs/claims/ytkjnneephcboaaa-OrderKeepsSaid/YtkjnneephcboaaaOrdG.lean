import Derived.Test.YtkjnneephcboaaaOrdF
namespace Go.Proofs.Ytkjnneephcboaaa
open Go Go.X Go.Proofs
set_option linter.unusedVariables false

/-! ### Plain: the pairs that are looked at -/
theorem countP_add {α : Type} {l : List α} {p q : α → Bool} {a : α} (hn : l.Nodup) (ha : a ∈ l) (h1 : p a = false) (h2 : q a = true) (h3 : ∀ s, s ≠ a → q s = p s) : l.countP q = l.countP p + 1 := by
  induction l with
  | nil => cases ha
  | cons x l ih =>
    rw [List.nodup_cons] at hn
    by_cases hx : x = a
    · subst hx
      have : l.countP q = l.countP p := List.countP_congr fun s hs => by rw [h3 s fun e => hn.1 (e ▸ hs)]
      rw [List.countP_cons, List.countP_cons, this, h1, h2]
      simp
    · have ha' : a ∈ l := by
        rcases List.mem_cons.1 ha with h | h
        · exact absurd h.symm hx
        · exact h
      rw [List.countP_cons, List.countP_cons, ih hn.2 ha', h3 x hx]
      omega

def Dn (xs : List ByteArray) (i j : Nat) (s t : ByteArray) : Prop :=
  ∃ a b : Nat, xs[a]? = some s ∧ xs[b]? = some t ∧ ((b < a ∧ (a < i ∨ (a = i ∧ b < j))) ∨ (a < b ∧ (b < i ∨ (b = i ∧ a < j))))
theorem Dn_symm {xs : List ByteArray} {i j : Nat} {s t : ByteArray} (h : Dn xs i j s t) : Dn xs i j t s := by
  obtain ⟨a, b, h1, h2, h3⟩ := h
  exact ⟨b, a, h2, h1, h3.symm⟩
theorem Dn_start (xs : List ByteArray) (s t : ByteArray) : ¬ Dn xs 0 0 s t := by
  rintro ⟨a, b, h1, h2, h3⟩; omega
theorem Dn_next {xs : List ByteArray} {i j : Nat} (hj : j < i) {x y : ByteArray} (hx : xs[i]? = some x) (hy : xs[j]? = some y) (s t : ByteArray) :
    Dn xs i (j + 1) s t ↔ Dn xs i j s t ∨ (s = x ∧ t = y) ∨ (s = y ∧ t = x) := by
  constructor
  · rintro ⟨a, b, h1, h2, h3⟩
    by_cases hab : a = i ∧ b = j
    · obtain ⟨rfl, rfl⟩ := hab
      rw [hx] at h1; rw [hy] at h2
      simp at h1 h2
      exact .inr (.inl ⟨h1.symm, h2.symm⟩)
    · by_cases hba : b = i ∧ a = j
      · obtain ⟨rfl, rfl⟩ := hba
        rw [hy] at h1; rw [hx] at h2
        simp at h1 h2
        exact .inr (.inr ⟨h1.symm, h2.symm⟩)
      · exact .inl ⟨a, b, h1, h2, by omega⟩
  · rintro (⟨a, b, h1, h2, h3⟩ | ⟨rfl, rfl⟩ | ⟨rfl, rfl⟩)
    · exact ⟨a, b, h1, h2, by omega⟩
    · exact ⟨i, j, hx, hy, by omega⟩
    · exact ⟨j, i, hy, hx, by omega⟩
theorem Dn_row {xs : List ByteArray} {i : Nat} (s t : ByteArray) : Dn xs i i s t ↔ Dn xs (i + 1) 0 s t := by
  constructor <;> rintro ⟨a, b, h1, h2, h3⟩ <;> exact ⟨a, b, h1, h2, by omega⟩
theorem Dn_not {xs : List ByteArray} (hn : xs.Nodup) {i j : Nat} (hj : j < i) {x y : ByteArray} (hx : xs[i]? = some x) (hy : xs[j]? = some y) : ¬ Dn xs i j x y := by
  rintro ⟨a, b, h1, h2, h3⟩
  have e1 : a = i := by have := posL_nodup hn h1; rw [posL_nodup hn hx] at this; simpa using this.symm
  have e2 : b = j := by have := posL_nodup hn h2; rw [posL_nodup hn hy] at this; simpa using this.symm
  omega
theorem Dn_end {xs : List ByteArray} {s t : ByteArray} : Dn xs xs.length 0 s t → s ∈ xs ∧ t ∈ xs := by
  rintro ⟨a, b, h1, h2, _⟩
  exact ⟨List.mem_of_getElem? h1, List.mem_of_getElem? h2⟩
theorem Dn_all {xs : List ByteArray} {s t : ByteArray} (hs : s ∈ xs) (ht : t ∈ xs) (hne : s ≠ t) : Dn xs xs.length 0 s t := by
  obtain ⟨a, h1⟩ := List.getElem?_of_mem hs
  obtain ⟨b, h2⟩ := List.getElem?_of_mem ht
  have ha := (List.getElem?_eq_some_iff.1 h1).1
  have hb := (List.getElem?_eq_some_iff.1 h2).1
  have hab : a ≠ b := fun e => hne (by rw [e, h2] at h1; simpa using h1.symm)
  exact ⟨a, b, h1, h2, by omega⟩

structure BInv (xb xl xr xs : List ByteArray) (i j : Nat) (f : ByteArray → List ByteArray) (g : ByteArray → Nat) : Prop where
  mem : ∀ s t, t ∈ f s ↔ Dn xs i j s t ∧ (aheadS xb xl xr s t).1 = -1
  nd : ∀ s, (f s).Nodup
  cnt : ∀ t, g t = xs.countP fun s => decide (t ∈ f s)
  ok : ∀ s t, Dn xs i j s t → (aheadS xb xl xr s t).2 = true

theorem BInv.start (xb xl xr xs : List ByteArray) : BInv xb xl xr xs 0 0 (fun _ => []) fun _ => 0 :=
  ⟨fun s t => ⟨fun h => (by cases h), fun h => absurd h.1 (Dn_start xs s t)⟩, fun _ => List.nodup_nil, fun t => by simp, fun s t h => absurd h (Dn_start xs s t)⟩
theorem BInv.row {xb xl xr xs : List ByteArray} {i : Nat} {f : ByteArray → List ByteArray} {g : ByteArray → Nat} (H : BInv xb xl xr xs i i f g) : BInv xb xl xr xs (i + 1) 0 f g :=
  ⟨fun s t => by rw [H.mem, Dn_row], H.nd, H.cnt, fun s t h => H.ok s t ((Dn_row s t).2 h)⟩
theorem BInv.skip {xb xl xr xs : List ByteArray} {i j : Nat} {f : ByteArray → List ByteArray} {g : ByteArray → Nat} (H : BInv xb xl xr xs i j f g) (hj : j < i) {x y : ByteArray} (hx : xs[i]? = some x) (hy : xs[j]? = some y)
    (hok : (aheadS xb xl xr x y).2 = true) (h0 : (aheadS xb xl xr x y).1 = 0) : BInv xb xl xr xs i (j + 1) f g := by
  have hf := aheadS_flip xb xl xr x y
  have okk : ∀ s t, Dn xs i (j + 1) s t → (aheadS xb xl xr s t).2 = true := by
    intro s t h
    rcases (Dn_next hj hx hy s t).1 h with h | ⟨rfl, rfl⟩ | ⟨rfl, rfl⟩
    · exact H.ok s t h
    · exact hok
    · rw [hf]; exact hok
  refine ⟨fun s t => ?_, H.nd, H.cnt, okk⟩
  rw [H.mem, Dn_next hj hx hy]
  constructor
  · rintro ⟨h1, h2⟩; exact ⟨.inl h1, h2⟩
  · rintro ⟨h1 | ⟨rfl, rfl⟩ | ⟨rfl, rfl⟩, h2⟩
    · exact ⟨h1, h2⟩
    · omega
    · rw [hf] at h2; simp only at h2; omega
theorem BInv.add {xb xl xr xs : List ByteArray} {i j : Nat} {f : ByteArray → List ByteArray} {g : ByteArray → Nat} (H : BInv xb xl xr xs i j f g) (hn : xs.Nodup) (hj : j < i) {x y : ByteArray} (hx : xs[i]? = some x) (hy : xs[j]? = some y)
    {u v : ByteArray} (huv : (u = x ∧ v = y) ∨ (u = y ∧ v = x)) (hok : (aheadS xb xl xr u v).2 = true) (h1 : (aheadS xb xl xr u v).1 = -1) :
    BInv xb xl xr xs i (j + 1) (fun k => if u = k then f u ++ [v] else f k) fun t => if v = t then g v + 1 else g t := by
  have hfl := aheadS_flip xb xl xr u v
  have hnot : v ∉ f u := by
    intro hm
    have hd := ((H.mem u v).1 hm).1
    rcases huv with ⟨rfl, rfl⟩ | ⟨rfl, rfl⟩
    · exact Dn_not hn hj hx hy hd
    · exact Dn_not hn hj hx hy (Dn_symm hd)
  have hu : u ∈ xs := by
    rcases huv with ⟨rfl, rfl⟩ | ⟨rfl, rfl⟩
    · exact List.mem_of_getElem? hx
    · exact List.mem_of_getElem? hy
  have key : ∀ s t, Dn xs i (j + 1) s t ↔ Dn xs i j s t ∨ (s = u ∧ t = v) ∨ (s = v ∧ t = u) := by
    intro s t
    rw [Dn_next hj hx hy]
    rcases huv with ⟨rfl, rfl⟩ | ⟨rfl, rfl⟩
    · exact Iff.rfl
    · constructor <;> rintro (h | h | h) <;> first | exact .inl h | exact .inr (.inr h) | exact .inr (.inl h)
  have okk : ∀ s t, Dn xs i (j + 1) s t → (aheadS xb xl xr s t).2 = true := by
    intro s t h
    rcases (key s t).1 h with h | ⟨rfl, rfl⟩ | ⟨rfl, rfl⟩
    · exact H.ok s t h
    · exact hok
    · rw [hfl]; exact hok
  refine ⟨fun s t => ?_, fun s => ?_, fun t => ?_, okk⟩
  · rw [key]
    by_cases hs : u = s
    · subst hs
      simp only [if_true, List.mem_append, List.mem_singleton, H.mem]
      constructor
      · rintro (⟨a, b⟩ | rfl)
        · exact ⟨.inl a, b⟩
        · exact ⟨.inr (.inl (by simp)), h1⟩
      · rintro ⟨a | ⟨_, rfl⟩ | ⟨rfl, rfl⟩, b⟩
        · exact .inl ⟨a, b⟩
        · exact .inr rfl
        · exact .inr rfl
    · simp only [if_neg hs, H.mem]
      constructor
      · rintro ⟨a, b⟩; exact ⟨.inl a, b⟩
      · rintro ⟨a | ⟨rfl, _⟩ | ⟨rfl, rfl⟩, b⟩
        · exact ⟨a, b⟩
        · exact absurd rfl hs
        · rw [hfl] at b; simp only at b; omega
  · by_cases hs : u = s
    · subst hs
      simp only [if_true]
      rw [List.nodup_append]
      refine ⟨H.nd u, by simp, fun a ha b hb => ?_⟩
      simp at hb; subst hb
      exact fun e => hnot (e ▸ ha)
    · simp only [if_neg hs]; exact H.nd s
  · by_cases ht : v = t
    · subst ht
      simp only [if_true]
      rw [H.cnt]
      refine (countP_add hn hu (by simpa using hnot) (by simp) fun s hs => ?_).symm
      rw [if_neg (Ne.symm hs)]
    · simp only [if_neg ht]
      rw [H.cnt]
      refine List.countP_congr fun s hs => ?_
      by_cases hs' : u = s
      · subst hs'; simp [Ne.symm ht]
      · simp [hs']

theorem BInv.len {xb xl xr xs : List ByteArray} {i j : Nat} {f : ByteArray → List ByteArray} {g : ByteArray → Nat} (H : BInv xb xl xr xs i j f g) (s : ByteArray) : (f s).length ≤ xs.length := by
  refine (H.nd s).length_le_of_subset fun t ht => ?_
  obtain ⟨a, b, h1, h2, _⟩ := ((H.mem s t).1 ht).1
  exact List.mem_of_getElem? h2
theorem BInv.cntle {xb xl xr xs : List ByteArray} {i j : Nat} {f : ByteArray → List ByteArray} {g : ByteArray → Nat} (H : BInv xb xl xr xs i j f g) (t : ByteArray) : g t ≤ xs.length := by
  rw [H.cnt]; exact List.countP_le_length

/-! ### The walk -/
def NoContra (xb xl xr xs : List ByteArray) : Prop := ∀ s ∈ xs, ∀ t ∈ xs, (aheadS xb xl xr s t).2 = true

theorem behind_spec {n : Nat} {h : Heap} {p q r : Option Nat} {xb xl xr : List ByteArray} (H : Ords n h p q r xb xl xr) (hn : n ≤ h.size) {s : Sl} {xs : List ByteArray} (hs : Strs n h s xs) (hcap : s.len ≤ s.cap) (hnd : xs.Nodup) (hlen : xs.length ≤ 256) :
    XC Try.prog 20 #[.agg #[.map p, .map q, .map r], .slice s.a s.len s.cap] h fun v h' => Keep h.size h h' ∧
      ((NoContra xb xl xr xs ∧ ∃ m1 m2 f g, v = .tuple #[.map (some m1), .map (some m2), .bool true] ∧ h.size < m1 ∧ m1 < m2 ∧ MapStrs h' (m2 + 1) m1 f ∧ MapCnt h' m2 g ∧ BInv xb xl xr xs xs.length 0 f g) ∨
       (¬ NoContra xb xl xr xs ∧ v = .tuple #[.map none, .map none, .bool false])) := by
  refine sh_order_orders_behind _ _ _ _ _ _ ?_
  intro h1 h2 h3
  have s1 : h1.size = h.size + 1 := Array.size_push _
  have s2 : h2.size = h.size + 2 := by show (Array.push _ _).size = _; rw [Array.size_push, s1]
  have s3 : h3.size = h.size + 3 := by show (Array.push _ _).size = _; rw [Array.size_push, s2]
  have k1 : Keep h.size h h1 := Keep.push _ _ (Nat.le_refl _)
  have k12 : Keep h1.size h1 h2 := Keep.push _ _ (Nat.le_refl _)
  have k23 : Keep h2.size h2 h3 := Keep.push _ _ (Nat.le_refl _)
  have b1 : Blk h1 h.size #[.map p, .map q, .map r] := Blk.new _ _ _
  have m2 : MapAt h2 h1.size [] := MapAt.new h1
  have m3 : MapAt h3 h2.size [] := MapAt.new h2
  have b3 : Blk h3 h.size #[.map p, .map q, .map r] := (b1.keepN k12 (by omega)).keepN k23 (by omega)
  have m2' : MapAt h3 h1.size [] := m2.keep (k23.get _ (by omega))
  rw [show Array.size h1 = h.size + 1 from s1] at *
  rw [show Array.size h2 = h.size + 2 from s2] at *
  have k3 : Keep h.size h h3 := (k1.trans k12 (by omega)).trans k23 (by omega)
  clear_value h1 h2 h3
  have e0 : (((s.len : Nat) : Int)) = (xs.length : Int) := by rw [hs.1]
  -- the outer loop
  refine ⟨fun i h' => ∃ (k : Nat) (f : ByteArray → List ByteArray) (g : ByteArray → Nat), i = k ∧ k ≤ xs.length ∧ Keep h.size h h' ∧ h.size + 3 ≤ h'.size ∧ Blk h' h.size #[.map p, .map q, .map r] ∧
      MapStrs h' (h.size + 3) (h.size + 1) f ∧ MapCnt h' (h.size + 2) g ∧ BInv xb xl xr xs k 0 f g, fun i _ => xs.length - i.toNat,
    ⟨0, _, _, rfl, by omega, k3, by omega, b3, MapStrs.new m2', MapCnt.new m3, BInv.start _ _ _ _⟩, ?_⟩
  rintro i h4 ⟨k, f, g, rfl, hk, k4, z4, b4, mf4, mg4, inv4⟩
  refine ⟨fun t1 => ?_, fun t1 => ?_⟩
  · have hlt : k < xs.length := by rw [e0] at t1; simpa using t1
    have hs4 : Strs n h4 s xs := hs.keep (k4.mono hn)
    refine strs_idx hs4 hlt rfl ⟨.inl rfl, ⟨by omega, by omega, by have := hs.1; omega, by omega⟩, ?_⟩
    have hx : xs[k]? = some xs[k] := List.getElem?_eq_getElem hlt
    rw [show (0 : Int).toNat = 0 from rfl, resl_zero, Nat.sub_zero, Int.toNat_natCast]
    -- the inner loop
    refine ⟨fun j h' => ∃ (l : Nat) (f : ByteArray → List ByteArray) (g : ByteArray → Nat), j = l ∧ l ≤ k ∧ Keep h.size h h' ∧ h.size + 3 ≤ h'.size ∧ Blk h' h.size #[.map p, .map q, .map r] ∧
      MapStrs h' (h.size + 3) (h.size + 1) f ∧ MapCnt h' (h.size + 2) g ∧ BInv xb xl xr xs k l f g, fun j _ => k - j.toNat,
      ⟨0, f, g, rfl, by omega, k4, z4, b4, mf4, mg4, inv4⟩, ?_⟩
    rintro j h5 ⟨l, f, g, rfl, hl, k5, z5, b5, mf5, mg5, inv5⟩
    refine ⟨fun t2 => ?_, fun t2 => ?_⟩
    · have hlk : l < k := by simp at t2; omega
      have hlx : l < xs.length := by omega
      have hs5 : Strs n h5 s xs := hs.keep (k5.mono hn)
      have hy : xs[l]? = some xs[l] := List.getElem?_eq_getElem hlx
      refine str_idx hs5.2 hlx rfl (by omega) ?_
      refine ⟨p, q, r, b5.ld, ?_⟩
      refine (ahead_spec (H.keep (k5.mono hn)) (by omega) _ _).mono ?_
      rintro v h6 ⟨rfl, k56⟩
      have k6 : Keep h.size h h6 := k5.trans k56 (by omega)
      have z6 : h.size + 3 ≤ h6.size := by have := k56.size; omega
      have b6 := b5.keepN k56 (by omega)
      have mf6 := mf5.keepN k56
      have mg6 := mg5.keepN k56
      refine ⟨_, _, rfl, ?_⟩
      intro K hK
      have hrange := aheadS_range xb xl xr xs[k] xs[l]
      have hflip := aheadS_flip xb xl xr xs[k] xs[l]
      have hKK : ∀ u v : ByteArray, (u = xs[k] ∧ v = xs[l]) ∨ (u = xs[l] ∧ v = xs[k]) → (aheadS xb xl xr u v).2 = true → (aheadS xb xl xr u v).1 = -1 → K u v h6 := by
        intro u v huv hok hm
        refine hK u v h6 ?_
        refine mf6.push (by omega) z6 u v (by have := inv5.len u; omega) fun s' h7 hst => ?_
        refine hst _ fun h8 mf8 z8 o8 => ?_
        have mg8 : MapCnt h8 (h.size + 2) g := by
          obtain ⟨lc, c1, c2⟩ := mg6
          exact ⟨lc, c1.keep (o8 _ (by omega) (by omega)), c2⟩
        refine ⟨_, mg8.look v, ?_⟩
        rw [wrap_succ (by have := inv5.cntle v; omega)]
        refine mg8.store v (g v + 1) fun h9 mg9 s9 o9 => ?_
        rw [wrap_succ (by omega)]
        refine ⟨⟨l + 1, _, _, rfl, by omega, ?_, by omega, (b6.keep (o8 _ (by omega) (by omega))).keep (o9 _ (by omega)), mf8.other (by omega) (by omega) o9, mg9, inv5.add hnd hlk hx hy huv hok hm⟩, by simp; omega⟩
        exact ⟨by have := k6.size; omega, fun i hi => ((o9 i (by omega)).trans (o8 i (by omega) (by omega))).trans (k6.get i hi)⟩
      refine ⟨fun t3 => ?_, fun t3 => ⟨fun t4 => ?_, fun t4 => ⟨fun t5 => ?_, fun t5 => ?_⟩⟩⟩
      · refine ⟨k6, .inr ⟨fun hno => ?_, rfl⟩⟩
        rw [hno _ (List.getElem_mem hlt) _ (List.getElem_mem hlx)] at t3
        simp at t3
      · simp at t3 t4
        rw [wrap_succ (by omega)]
        exact ⟨⟨l + 1, f, g, rfl, by omega, k6, z6, b6, mf6, mg6, inv5.skip hlk hx hy t3 t4⟩, by simp; omega⟩
      · simp at t3 t4 t5
        refine hKK _ _ (.inr ⟨rfl, rfl⟩) (by rw [hflip]; exact t3) (by rw [hflip]; simp only; omega)
      · simp at t3 t4 t5
        exact hKK _ _ (.inl ⟨rfl, rfl⟩) t3 (by omega)
    · have hlk : l = k := by simp at t2; omega
      subst hlk
      rw [wrap_succ (by omega)]
      exact ⟨⟨l + 1, f, g, rfl, by omega, k5, z5, b5, mf5, mg5, inv5.row⟩, by simp; omega⟩
  · have hk' : k = xs.length := by rw [e0] at t1; simp at t1; omega
    subst hk'
    refine ⟨k4, .inl ⟨fun a ha b hb => ?_, h.size + 1, h.size + 2, f, g, rfl, by omega, by omega, mf4, mg4, inv4⟩⟩
    by_cases hab : a = b
    · rw [hab, aheadS_self]
    · exact inv4.ok a b (Dn_all ha hb hab)
end Go.Proofs.Ytkjnneephcboaaa
