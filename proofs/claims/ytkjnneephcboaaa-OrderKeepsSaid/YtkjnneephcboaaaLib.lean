/-
  Words for heaps (what is kept, what reads as what) and the laws by which the formulas of 'W' are met. No function of the program is named here.
-/
import Derived.Test.YtkjnneephcboaaaCode
import Derived.Laws.AppendOwn
import Derived.Laws.OwnMore
namespace Go.X
open Go

/-! ### What is kept -/
theorem get_push (h : Heap) (o : Obj) : (h.push o)[h.size]? = some o := by simp

theorem cellH_keep {n : Nat} {h h' : Heap} (k : Keep n h h') {a : Addr} (ha : a.block < n) : cellH h' a = cellH h a := by
  unfold cellH; rw [k.get _ ha]
theorem cellH_block {h h' : Heap} {a : Addr} (e : h'[a.block]? = h[a.block]?) : cellH h' a = cellH h a := by unfold cellH; rw [e]

/-! ### Rows of cells -/
/-- These cells stand one behind the other, in a block below n. -/
def Arr (n : Nat) (h : Heap) (a : Option Addr) (cs : List Value) : Prop :=
  cs = [] ∨ ∃ b o, a = some ⟨b, o, none⟩ ∧ b < n ∧ ∀ i v, cs[i]? = some v → cellH h ⟨b, o + i, none⟩ = some v
theorem Arr.mono {n m : Nat} {h : Heap} {a : Option Addr} {cs : List Value} (H : Arr n h a cs) (hm : n ≤ m) : Arr m h a cs := by
  rcases H with e | ⟨b, o, e, hb, hc⟩
  · exact .inl e
  · exact .inr ⟨b, o, e, by omega, hc⟩
theorem Arr.keep {n : Nat} {h h' : Heap} {a : Option Addr} {cs : List Value} (H : Arr n h a cs) (k : Keep n h h') : Arr n h' a cs := by
  rcases H with e | ⟨b, o, e, hb, hc⟩
  · exact .inl e
  · exact .inr ⟨b, o, e, hb, fun i v hi => (cellH_keep k (a := ⟨b, o + i, none⟩) hb).trans (hc i v hi)⟩
theorem add_none (b o i : Nat) : (⟨b, o, none⟩ : Addr).add i = ⟨b, o + i, none⟩ := by
  unfold Addr.add
  split
  · rename_i h; rw [h]; rfl
  · rfl
theorem Arr.cell {n : Nat} {h : Heap} {a : Option Addr} {cs : List Value} (H : Arr n h a cs) {k : Nat} {v : Value} (hv : cs[k]? = some v) : ∃ p : Addr, a = some p ∧ cellH h (p.add k) = some v := by
  rcases H with e | ⟨b, o, e, hb, hc⟩
  · rw [e] at hv; simp at hv
  · exact ⟨⟨b, o, none⟩, e, by rw [add_none]; exact hc k v hv⟩

/-- A slice of strings. -/
def Strs (n : Nat) (h : Heap) (s : Sl) (xs : List ByteArray) : Prop := s.len = xs.length ∧ Arr n h s.a (xs.map Value.string)
theorem Strs.mono {n m : Nat} {h : Heap} {s : Sl} {xs : List ByteArray} (H : Strs n h s xs) (hm : n ≤ m) : Strs m h s xs := ⟨H.1, H.2.mono hm⟩
theorem Strs.keep {n : Nat} {h h' : Heap} {s : Sl} {xs : List ByteArray} (H : Strs n h s xs) (k : Keep n h h') : Strs n h' s xs := ⟨H.1, H.2.keep k⟩
theorem Strs.nil (n : Nat) (h : Heap) (a : Option Addr) (c : Nat) : Strs n h ⟨a, 0, c⟩ [] := ⟨rfl, .inl rfl⟩

/-- An index, and the load behind it. -/
theorem strs_idx {n : Nat} {h : Heap} {s : Sl} {xs : List ByteArray} (H : Strs n h s xs) {k : Nat} (hk : k < xs.length) {i : Int} (hi : i = (k : Int)) {Q : ByteArray → Prop} (hQ : Q xs[k]) :
    ∃ a : Addr, (s.a = some a ∧ 0 ≤ i ∧ i < ((s.len : Nat) : Int)) ∧ ∃ x : ByteArray, cellH h (a.add (i.toNat * 1)) = some (.string x) ∧ Q x := by
  obtain ⟨p, hp, hc⟩ := H.2.cell (k := k) (v := .string xs[k]) (by simp [hk])
  refine ⟨p, ⟨hp, by omega, by rw [H.1]; omega⟩, xs[k], ?_, hQ⟩
  rw [hi, Int.toNat_natCast, Nat.mul_one]; exact hc

theorem arr_idx {n : Nat} {h : Heap} {base : Option Addr} {cs : List Value} (H : Arr n h base cs) {k : Nat} {v : Value} (hv : cs[k]? = some v) {i : Int} (hi : i = (k : Int)) {L : Int} (hL : i < L) {Q : Addr → Prop}
    (hQ : ∀ a : Addr, cellH h (a.add (i.toNat * 1)) = some v → Q a) : ∃ a : Addr, (base = some a ∧ 0 ≤ i ∧ i < L) ∧ Q a := by
  obtain ⟨p, hp, hc⟩ := H.cell hv
  exact ⟨p, ⟨hp, by omega, hL⟩, hQ p (by rw [hi, Int.toNat_natCast, Nat.mul_one]; exact hc)⟩
theorem str_idx {n : Nat} {h : Heap} {base : Option Addr} {xs : List ByteArray} (H : Arr n h base (xs.map Value.string)) {k : Nat} (hk : k < xs.length) {i : Int} (hi : i = (k : Int)) {L : Int} (hL : i < L) {Q : ByteArray → Prop} (hQ : Q xs[k]) :
    ∃ a : Addr, (base = some a ∧ 0 ≤ i ∧ i < L) ∧ ∃ x : ByteArray, cellH h (a.add (i.toNat * 1)) = some (.string x) ∧ Q x :=
  arr_idx H (v := .string xs[k]) (by simp [hk]) hi hL fun _ hc => ⟨_, hc, hQ⟩
theorem resl_zero (a : Option Addr) (sz m : Nat) : resl a sz 0 m = a := by
  unfold resl
  split
  · rfl
  · cases a with
    | none => rfl
    | some p => simp [Addr.add]

/-! ### Numbers -/
theorem wrap64 {n : Int} (h1 : -9223372036854775808 ≤ n) (h2 : n ≤ 9223372036854775807) : IntKind.wrap .i64 n = n := by
  unfold IntKind.wrap
  have e : (2 : Int) ^ IntKind.bits .i64 = 18446744073709551616 := by decide
  have e' : (2 : Int) ^ (IntKind.bits .i64 - 1) = 9223372036854775808 := by decide
  simp only [e, e']
  have hs : IntKind.signed .i64 = true := rfl
  simp only [hs, Bool.true_and, decide_eq_true_eq]
  split <;> omega
theorem wrap_succ {k : Nat} (h : k < 9223372036854775807) : IntKind.wrap .i64 ((k : Int) + 1) = ((k + 1 : Nat) : Int) := by
  rw [wrap64 (by omega) (by omega)]; omega

/-! ### A slice that the call itself has made -/
def Owns (h : Heap) (base : Nat) (e : TypeId) (sz : Nat) (s : Sl) (xs : List Value) : Prop :=
  (mk default 0 h).ownsRow base e sz (.slice s.a s.len s.cap) s.len xs

theorem Owns.nil (h : Heap) (base : Nat) (e : TypeId) (sz : Nat) : Owns h base e sz ⟨none, 0, 0⟩ [] := World.ownsRow_nil _ _ _ _

theorem Owns.length {h : Heap} {base : Nat} {e : TypeId} {sz : Nat} {s : Sl} {xs : List Value} (H : Owns h base e sz s xs) : xs.length = s.len * sz := H.1

/-- What it reads as. -/
theorem Owns.arr {h : Heap} {base : Nat} {e : TypeId} {sz : Nat} {s : Sl} {xs : List Value} (H : Owns h base e sz s xs) : Arr h.size h s.a xs := by
  rcases H.2 with ⟨hv, h0⟩ | ⟨g, cap, cur, hv, hb, hg, hle, hm, hsz, ht⟩
  · have hl := H.1
    rw [h0] at hl
    exact .inl (by simpa using hl)
  · simp only [Value.slice.injEq] at hv
    have hlt : g < h.size := (Array.getElem?_eq_some_iff.1 hg).1
    refine .inr ⟨g, 0, hv.1, hlt, fun i v hi => ?_⟩
    have hg' : h[g]? = some (.cells cur e (0, 0)) := hg
    unfold cellH
    simp only [hg', Nat.zero_add, Option.isSome_none, Bool.false_eq_true, if_false]
    rw [← ht, List.getElem?_take] at hi
    split at hi
    · simpa using hi
    · cases hi

theorem Owns.base_le {h : Heap} {base : Nat} {e : TypeId} {sz : Nat} {s : Sl} {xs : List Value} (H : Owns h base e sz s xs) : ∀ p, s.a = some p → base ≤ p.block ∧ p.block < h.size := by
  intro p hp
  exact World.ownsRow.lt H p.block (by simp [Value.ownBlock, hp])

/-- It stays what it is where its own block is not written. -/
theorem Owns.keep {h h' : Heap} {base : Nat} {e : TypeId} {sz : Nat} {s : Sl} {xs : List Value} (H : Owns h base e sz s xs) (k : ∀ p, s.a = some p → h'[p.block]? = h[p.block]?) : Owns h' base e sz s xs := by
  refine ⟨H.1, ?_⟩
  rcases H.2 with hn | ⟨g, cap, cur, hv, hb, hg, rest⟩
  · exact .inl hn
  · simp only [Value.slice.injEq] at hv
    refine .inr ⟨g, cap, cur, by simp [hv], hb, ?_, rest⟩
    have := k _ hv.1
    exact this.trans hg
theorem Owns.keepN {h h' : Heap} {base : Nat} {e : TypeId} {sz : Nat} {s : Sl} {xs : List Value} (H : Owns h base e sz s xs) (k : Keep h.size h h') : Owns h' base e sz s xs :=
  H.keep fun p hp => k.get _ (H.base_le p hp).2

/-- What an append needs of the element's type. -/
structure ElemT (P : Program) (t e : TypeId) (z : Value) (sz bytes : Nat) : Prop where
  slice : P.underlying t = some (.slice e)
  info : ∃ i, P.info? e = some i ∧ i.zero = some z ∧ i.size = sz ∧ i.bytes = bytes
  zero : z.cells.size = sz
  pos : 0 < sz

/-- Where the result of an append lies: where the slice lay, or in a new block. -/
theorem append_where {P : Program} {w : World} {t e ty : TypeId} {i : TypeInfo} {z : Value} {sz bytes base : Nat} (ht : P.underlying t = some (.slice e)) (hi : P.info? e = some i) (hz : i.zero = some z) (hsz : i.size = sz) (hby : i.bytes = bytes)
    {v : Value} {n : Nat} {xs : List Value} (hown : w.ownsRow base e sz v n xs) {a : Addr} {m c : Nat} {news : List Value} (hl : news.length = m * sz) (hnews : ∀ j u, news[j]? = some u → w.cell? (a.add j) = some u) (h1 : ∀ u ∈ news, u.oneCell' = true)
    (h63 : n + m ≤ 4611686018427387904) (hbytes : (n + m) * bytes ≤ 140737488355328) {v' : Value} {w' : World} (r1 : (Builtin.append_ #[t, t] ty #[v, .slice (some a) m c]).run P w = .ok v' w') :
    ∀ p' l c', v' = .slice (some p') l c' → (∃ p l0 c0, v = .slice (some p) l0 c0 ∧ p'.block = p.block) ∨ p'.block = w.heap.size := by
  subst hsz hby
  intro p' l c' hv'
  rcases hown.2 with ⟨rfl, rfl⟩ | ⟨g, cap, cur, rfl, hbg, hg, hnc, hcm, hcs, htake⟩
  · by_cases hm : m = 0
    · subst hm
      have hn : news = [] := List.eq_nil_of_length_eq_zero (by simpa using hl)
      subst hn
      have hr : (Builtin.append_ #[t, t] ty #[.slice none 0 0, .slice (some a) 0 c]).run P w = .ok (.slice none 0 0) w := by
        simp [Builtin.append_, run_underlying ht, sizeOf, typeInfo, hi, Builtin.lenOf, Builtin.firstCells, loadCells, loadCellsFrom]
      rw [hr] at r1
      simp only [Result.ok.injEq] at r1
      rw [← r1.1] at hv'; cases hv'
    · have hr := run_append_nil (P := P) (ty := ty) w t e i z ht hi hz a m c news hl hnews (by omega) (by omega) (by have hb := hbytes; simp only [Nat.zero_add] at hb; omega)
      rw [hr] at r1
      simp only [Result.ok.injEq] at r1
      rw [← r1.1] at hv'
      simp only [Value.slice.injEq, Option.some.injEq] at hv'
      exact .inr (by rw [← hv'.1])
  · by_cases hroom : n + m ≤ cap
    · have hfit : n * i.size + news.length ≤ cur.size := by rw [hl, hcs, ← Nat.add_mul]; exact Nat.mul_le_mul_right _ hroom
      have hr := run_append_room (P := P) (ty := ty) w t e i ht hi g n cap cur hg a m c news hl hnews h1 hroom hfit
      rw [hr] at r1
      simp only [Result.ok.injEq] at r1
      rw [← r1.1] at hv'
      simp only [Value.slice.injEq, Option.some.injEq] at hv'
      exact .inl ⟨_, _, _, rfl, by rw [← hv'.1]⟩
    · have holds : ∀ j u, xs[j]? = some u → w.cell? ((⟨g, 0, none⟩ : Addr).add j) = some u := hown.cells (g := g) rfl
      have hr := run_append_grow (P := P) (ty := ty) w t e i z ht hi hz ⟨g, 0, none⟩ n cap xs hown.1 holds a m c news hl hnews (by omega) (by omega) (growslice_fits (by omega) hbytes)
      rw [hr] at r1
      simp only [Result.ok.injEq] at r1
      rw [← r1.1] at hv'
      simp only [Value.slice.injEq, Option.some.injEq] at hv'
      exact .inr (by rw [← hv'.1])

/-- 'append(out, src...)' onto a slice of the call's own; the source reads as 'news'. -/
theorem append_own {P : Program} {t e : TypeId} {z : Value} {sz bytes : Nat} (T : ElemT P t e z sz bytes) {ty : TypeId} {h : Heap} {base : Nat} {s : Sl} {xs : List Value} (H : Owns h base e sz s xs)
    {src : Sl} {news : List Value} {n : Nat} (hs : Arr n h src.a news) (hl : news.length = src.len * sz) (h1 : ∀ u ∈ news, u.oneCell' = true)
    (hbytes : (s.len + src.len) * bytes ≤ 140737488355328) (hmax : s.len + src.len ≤ 4611686018427387904) (hbase : base ≤ h.size) {K : Value → Heap → Prop}
    (hK : ∀ (s' : Sl) (h' : Heap), s'.len = s.len + src.len → Owns h' base e sz s' (xs ++ news) → (∀ i, i < h.size → (∀ p, s.a = some p → i ≠ p.block) → h'[i]? = h[i]?) → h.size ≤ h'.size → (∀ p', s'.a = some p' → (∃ p, s.a = some p ∧ p'.block = p.block) ∨ p'.block = h.size) → K (.slice s'.a s'.len s'.cap) h') :
    XRun P (Builtin.append_ #[t, t] ty #[.slice s.a s.len s.cap, .slice src.a src.len src.cap]) h K := by
  intro B d
  obtain ⟨i, hi, hz, hsz, hby⟩ := T.info
  have key : ∃ v' w', (Builtin.append_ #[t, t] ty #[.slice s.a s.len s.cap, .slice src.a src.len src.cap]).run P (mk B d h) = .ok v' w' ∧ w'.ownsRow base e sz v' (s.len + src.len) (xs ++ news) ∧ (mk B d h).grownBy w' (Value.ownBlock (.slice s.a s.len s.cap)) ∧
      ∀ p' l c', v' = .slice (some p') l c' → (∃ p, s.a = some p ∧ p'.block = p.block) ∨ p'.block = h.size := by
    have hown : (mk B d h).ownsRow base e sz (.slice s.a s.len s.cap) s.len xs := H
    rcases hs with e0 | ⟨b, o, e0, hb, hc⟩
    · subst e0
      have h0 : src.len = 0 := by
        rcases Nat.eq_zero_or_pos src.len with h0 | h0
        · exact h0
        · have := Nat.mul_pos h0 T.pos; simp at hl; omega
      rw [h0]
      have ha : ∃ q, q = src.a := ⟨_, rfl⟩
      obtain ⟨q, hq⟩ := ha
      rw [← hq]
      cases q with
      | none =>
        refine ⟨_, mk B d h, ?_, by simpa using hown, ⟨rfl, rfl, rfl, Nat.le_refl _, fun _ _ _ => rfl⟩, fun p' l c' hv' => .inl ⟨p', by simp only [Value.slice.injEq] at hv'; exact hv'.1, rfl⟩⟩
        have hT := T.slice
        have hle : s.len ≤ s.cap := by
          rcases hown.2 with ⟨e1, e2⟩ | ⟨g, cap, cur, e1, _, _, hnc, _⟩
          · omega
          · simp only [Value.slice.injEq] at e1; omega
        generalize s.a = sa at *
        cases sa <;> simp [Builtin.append_, run_underlying hT, sizeOf, typeInfo, hi, Builtin.lenOf, Builtin.firstCells, hle, storeCells]
      | some p =>
        obtain ⟨v', w', r1, r2, r3, _⟩ := run_append_own (P := P) (w := mk B d h) base t ty e i z sz bytes T.slice hi hz hsz hby T.zero T.pos (.slice s.a s.len s.cap) s.len xs hown p 0 src.cap [] (by simp) (by simp) (by simp) (by unfold maxLen; omega) (by rw [h0] at hbytes; exact hbytes) hbase
        refine ⟨v', w', r1, r2, r3, fun p' l c' hv' => ?_⟩
        rcases append_where T.slice hi hz hsz hby hown (news := []) (by simp) (by simp) (by simp) (by rw [h0] at hmax; exact hmax) (by rw [h0] at hbytes; exact hbytes) r1 p' l c' hv' with ⟨q, l0, c0, hq, hb⟩ | hb
        · simp only [Value.slice.injEq] at hq; exact .inl ⟨q, hq.1, hb⟩
        · exact .inr hb
    · rw [e0]
      obtain ⟨v', w', r1, r2, r3, _⟩ := run_append_own (P := P) (w := mk B d h) base t ty e i z sz bytes T.slice hi hz hsz hby T.zero T.pos (.slice s.a s.len s.cap) s.len xs hown ⟨b, o, none⟩ src.len src.cap news hl
        (fun j u hu => by rw [add_none]; exact hc j u hu) h1 (by unfold maxLen; omega) hbytes hbase
      refine ⟨v', w', r1, r2, r3, fun p' l c' hv' => ?_⟩
      rcases append_where T.slice hi hz hsz hby hown hl (fun j u hu => by rw [add_none]; exact hc j u hu) h1 hmax hbytes r1 p' l c' hv' with ⟨q, l0, c0, hq, hb'⟩ | hb'
      · simp only [Value.slice.injEq] at hq; exact .inl ⟨q, hq.1, hb'⟩
      · exact .inr hb'
  obtain ⟨v', w', r1, r2, r3, r4⟩ := key
  have hw : w' = mk B w'.drawn w'.heap := by
    have e1 := r3.os; have e2 := r3.tape; have e3 := r3.output
    cases w'; simp only [mk] at *; subst e1; subst e2; subst e3; rfl
  rw [hw] at r1
  have hv : ∃ s' : Sl, v' = .slice s'.a s'.len s'.cap ∧ s'.len = s.len + src.len := by
    rcases r2.2 with ⟨e1, e2⟩ | ⟨g, cap, cur, e1, _⟩
    · exact ⟨⟨none, 0, 0⟩, e1, e2.symm⟩
    · exact ⟨⟨some ⟨g, 0, none⟩, s.len + src.len, cap⟩, e1, rfl⟩
  obtain ⟨s', rfl, hlen⟩ := hv
  refine ⟨_, _, _, r1, hK s' w'.heap hlen ?_ ?_ r3.size fun p' hp' => r4 p' s'.len s'.cap (by rw [hp'])⟩
  · rw [← hlen] at r2; exact r2
  · intro j hj hne
    refine r3.block j hj fun he => ?_
    cases ha : s.a with
    | none => rw [ha] at he; cases he
    | some p =>
      rw [ha] at he
      simp only [Value.ownBlock, Option.some.injEq] at he
      exact hne p ha he
end Go.X
