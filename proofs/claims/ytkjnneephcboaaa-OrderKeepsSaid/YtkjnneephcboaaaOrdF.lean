import Derived.Test.YtkjnneephcboaaaOrdE
namespace Go.Proofs.Ytkjnneephcboaaa
open Go Go.X Go.Proofs
set_option linter.unusedVariables false

/-! ### Plain: ahead, turned round -/
theorem saysL_flip (l : List ByteArray) (x y : ByteArray) : saysL l y x = - saysL l x y := by
  unfold saysL
  cases posL l x <;> cases posL l y <;> simp only [Int.neg_zero]
  split <;> split <;> first | omega | rfl
theorem aheadI_flip {p q s : Int} : aheadI (-p) (-q) (-s) = (-(aheadI p q s).1, (aheadI p q s).2) := by
  unfold aheadI
  by_cases hp : p = 0
  · subst hp
    by_cases h1 : q ≠ 0 ∧ s ≠ 0 ∧ q ≠ s
    · have h2 : (-q ≠ 0 ∧ -s ≠ 0 ∧ -q ≠ -s) := by omega
      simp [h1, h2]
    · have h2 : ¬ (-q ≠ 0 ∧ -s ≠ 0 ∧ -q ≠ -s) := by omega
      by_cases h3 : q = 0
      · simp [h3]
      · simp only [ne_eq, Int.neg_zero, not_true_eq_false, if_false, if_neg h1, if_neg h2]
        have h4 : ¬ -q = 0 := by omega
        simp [h3, h4]
  · have hp' : -p ≠ 0 := by omega
    by_cases h1 : q = -p ∨ s = -p
    · have h2 : -q = - -p ∨ -s = - -p := by omega
      simp only [ne_eq, hp, hp', not_false_eq_true, if_true, if_pos h1, if_pos h2]
    · have h2 : ¬ (-q = - -p ∨ -s = - -p) := by omega
      simp only [ne_eq, hp, hp', not_false_eq_true, if_true, if_neg h1, if_neg h2]
theorem aheadS_flip (b l r : List ByteArray) (x y : ByteArray) : aheadS b l r y x = (-(aheadS b l r x y).1, (aheadS b l r x y).2) := by
  unfold aheadS
  rw [saysL_flip b, saysL_flip l, saysL_flip r, aheadI_flip]
theorem aheadS_self (b l r : List ByteArray) (x : ByteArray) : aheadS b l r x x = (0, true) := by
  have h : ∀ l, saysL l x x = 0 := fun l => by have := saysL_flip l x x; omega
  simp [aheadS, aheadI, h]
theorem aheadS_range (b l r : List ByteArray) (x y : ByteArray) : (aheadS b l r x y).1 = -1 ∨ (aheadS b l r x y).1 = 0 ∨ (aheadS b l r x y).1 = 1 := by
  unfold aheadS aheadI
  have hp := saysL_range b x y
  have hq := saysL_range l x y
  have hs := saysL_range r x y
  split
  · split <;> simp only <;> omega
  · split
    · simp
    · split <;> simp only <;> omega

/-! ### A map of texts' rows, a map of counts -/
theorem elemStr : ElemT Try.prog 22 9 (.string ⟨#[]⟩) 1 16 := ⟨by kernel_rfl, ⟨Try.t9, by kernel_rfl, by kernel_rfl, by kernel_rfl, by kernel_rfl⟩, rfl, by omega⟩
theorem mapRows : MapT Try.prog 40 9 22 (.slice none 0 0) := ⟨by kernel_rfl, by kernel_rfl, ⟨Try.t22, by kernel_rfl, by kernel_rfl⟩⟩
theorem mapCnts : MapT Try.prog 32 9 3 (.int .i64 0) := ⟨by kernel_rfl, by kernel_rfl, ⟨Try.t3, by kernel_rfl, by kernel_rfl⟩⟩

def MapStrs (h : Heap) (base m : Nat) (f : ByteArray → List ByteArray) : Prop :=
  ∃ (lo : List (ByteArray × Value)) (sl : ByteArray → Sl), MapAt h m lo ∧ (∀ k, getZ lo k (.slice none 0 0) = .slice (sl k).a (sl k).len (sl k).cap) ∧
    (∀ k, Owns h base 9 1 (sl k) ((f k).map Value.string)) ∧ ∀ k k' p p', k ≠ k' → (sl k).a = some p → (sl k').a = some p' → p.block ≠ p'.block
def MapCnt (h : Heap) (m : Nat) (g : ByteArray → Nat) : Prop :=
  ∃ lc : List (ByteArray × Value), MapAt h m lc ∧ ∀ k, getZ lc k (.int .i64 0) = .int .i64 ((g k : Nat) : Int)

theorem MapStrs.keepN {h h' : Heap} {base m : Nat} {f : ByteArray → List ByteArray} (H : MapStrs h base m f) (k : Keep h.size h h') : MapStrs h' base m f := by
  obtain ⟨lo, sl, h1, h2, h3, h4⟩ := H
  exact ⟨lo, sl, h1.keep (k.get m h1.lt), h2, fun x => (h3 x).keepN k, h4⟩
theorem MapCnt.keepN {h h' : Heap} {m : Nat} {g : ByteArray → Nat} (H : MapCnt h m g) (k : Keep h.size h h') : MapCnt h' m g := by
  obtain ⟨lc, h1, h2⟩ := H
  exact ⟨lc, h1.keep (k.get m h1.lt), h2⟩
theorem MapStrs.other {h h' : Heap} {base m b : Nat} {f : ByteArray → List ByteArray} (H : MapStrs h base m f) (hb : b < base) (hne : b ≠ m) (ho : ∀ i, i ≠ b → h'[i]? = h[i]?) : MapStrs h' base m f := by
  obtain ⟨lo, sl, h1, h2, h3, h4⟩ := H
  exact ⟨lo, sl, h1.keep (ho m (Ne.symm hne)), h2, fun x => (h3 x).keep fun p hp => ho _ (by have := ((h3 x).base_le p hp).1; omega), h4⟩
theorem MapStrs.lt {h : Heap} {base m : Nat} {f : ByteArray → List ByteArray} (H : MapStrs h base m f) : m < h.size := by
  obtain ⟨lo, sl, h1, _⟩ := H; exact h1.lt
theorem MapCnt.lt {h : Heap} {m : Nat} {g : ByteArray → Nat} (H : MapCnt h m g) : m < h.size := by
  obtain ⟨lo, h1, _⟩ := H; exact h1.lt
theorem MapCnt.other {h h' : Heap} {m b : Nat} {g : ByteArray → Nat} (H : MapCnt h m g) (hne : b ≠ m) (ho : ∀ i, i ≠ b → h'[i]? = h[i]?) : MapCnt h' m g := by
  obtain ⟨lc, h1, h2⟩ := H
  exact ⟨lc, h1.keep (ho m (Ne.symm hne)), h2⟩
theorem MapCnt.look {h : Heap} {m : Nat} {g : ByteArray → Nat} (H : MapCnt h m g) (k : ByteArray) : QExec Try.prog (Instr.lookup 32 (.map (some m)) (.string k) false) h (.int .i64 ((g k : Nat) : Int)) := by
  obtain ⟨lc, h1, h2⟩ := H
  have := lookup_core mapCnts h1 k false
  rw [h2 k] at this
  exact this
theorem MapCnt.store {h : Heap} {m : Nat} {g : ByteArray → Nat} (H : MapCnt h m g) (k : ByteArray) (c : Nat) {K : Heap → Prop}
    (hK : ∀ h' : Heap, MapCnt h' m (fun x => if k = x then c else g x) → h'.size = h.size → (∀ i, i ≠ m → h'[i]? = h[i]?) → K h') : XRunU Try.prog (Instr.mapUpdate 32 (.map (some m)) (.string k) (.int .i64 (c : Int))) h K := by
  obtain ⟨lc, h1, h2⟩ := H
  refine update_ok mapCnts h1 _ _ fun h' h3 h4 h5 => hK h' ⟨_, h3, fun x => ?_⟩ h4 h5
  unfold getZ
  rw [getL_setL]
  by_cases hx : k = x
  · simp [hx]
  · simp only [if_neg hx]; exact h2 x
theorem MapStrs.look {h : Heap} {base m : Nat} {f : ByteArray → List ByteArray} (H : MapStrs h base m f) (k : ByteArray) : ∃ s : Sl, QExec Try.prog (Instr.lookup 40 (.map (some m)) (.string k) false) h (.slice s.a s.len s.cap) ∧ Strs h.size h s (f k) := by
  obtain ⟨lo, sl, h1, h2, h3, h4⟩ := H
  have := lookup_core mapRows h1 k false
  rw [h2 k] at this
  exact ⟨sl k, this, by have := (h3 k).length; simp at this; omega, (h3 k).arr⟩

theorem MapStrs.new {h : Heap} {base m : Nat} (H : MapAt h m []) : MapStrs h base m fun _ => [] :=
  ⟨[], fun _ => ⟨none, 0, 0⟩, H, fun _ => rfl, fun _ => Owns.nil _ _ _ _, fun _ _ _ _ _ h => by cases h⟩
theorem MapCnt.new {h : Heap} {m : Nat} (H : MapAt h m []) : MapCnt h m fun _ => 0 := ⟨[], H, fun _ => rfl⟩

/-- 'm[k] = append(m[k], v)'. -/
theorem MapStrs.push {h : Heap} {base m : Nat} {f : ByteArray → List ByteArray} (H : MapStrs h base m f) (hm : m < base) (hbase : base ≤ h.size) (k v : ByteArray) (hf : (f k).length ≤ 1000) {K : Sl → Heap → Prop}
    (hK : ∀ (s' : Sl) (h3 : Heap), (∀ K' : Heap → Prop, (∀ h4 : Heap, MapStrs h4 base m (fun x => if k = x then f k ++ [v] else f x) → h.size ≤ h4.size → (∀ i, i < base → i ≠ m → h4[i]? = h[i]?) → K' h4) →
      XRunU Try.prog (Instr.mapUpdate 40 (.map (some m)) (.string k) (.slice s'.a s'.len s'.cap)) h3 K') → K s' h3) :
    ∃ s : Sl, QExec Try.prog (Instr.lookup 40 (.map (some m)) (.string k) false) h (.slice s.a s.len s.cap) ∧ let h1 : Heap := Array.push h (.cells #[.string v] 9)
      XRun Try.prog (Builtin.append_ #[22, 22] 22 #[.slice s.a s.len s.cap, .slice (some ⟨Array.size h, 0, none⟩) 1 1]) h1 (fun w h3 => ∃ s' : Sl, w = .slice s'.a s'.len s'.cap ∧ K s' h3) := by
  obtain ⟨lo, sl, h1, h2, h3, h4⟩ := H
  have hl := lookup_core mapRows h1 k false
  rw [h2 k] at hl
  refine ⟨sl k, hl, ?_⟩
  intro g
  have kg : Keep h.size h g := Keep.push _ _ (Nat.le_refl _)
  have sg : g.size = h.size + 1 := Array.size_push _
  have bg : Blk g h.size #[.string v] := Blk.new _ _ _
  clear_value g
  have hlen : (sl k).len = (f k).length := by have := (h3 k).length; simp at this; omega
  refine append_own elemStr ((h3 k).keepN kg) (src := ⟨some ⟨h.size, 0, none⟩, 1, 1⟩) (news := [.string v]) (n := g.size) (.inr ⟨h.size, 0, rfl, by omega, fun i u hi => ?_⟩) rfl (by simp [Value.oneCell']) (by simp only; omega) (by simp only; omega) (by omega) fun s' h5 e1 e2 e3 e4 e5 => ⟨s', rfl, hK s' h5 fun K' hK' => ?_⟩
  · cases i with
    | zero => simp at hi; subst hi; exact bg.cell rfl
    | succ i => simp at hi
  · have keepO : ∀ i, i < h.size → (∀ p, (sl k).a = some p → i ≠ p.block) → h5[i]? = h[i]? := fun i hi hne => (e3 i (by omega) hne).trans (kg.get i hi)
    have hm5 : MapAt h5 m lo := h1.keep (keepO m h1.lt fun p hp => by have := ((h3 k).base_le p hp).1; omega)
    refine update_ok mapRows hm5 _ _ fun h6 m6 s6 o6 => hK' h6 ⟨_, fun x => if k = x then s' else sl x, m6, fun x => ?_, fun x => ?_, ?_⟩ (by omega) fun i hi hne => (o6 i hne).trans (keepO i (by omega) fun p hp => by have := ((h3 k).base_le p hp).1; omega)
    · unfold getZ
      rw [getL_setL]
      by_cases hx : k = x
      · simp [hx]
      · simp only [if_neg hx]; exact h2 x
    · by_cases hx : k = x
      · simp only [if_pos hx]
        rw [List.map_append]
        exact e2.keep fun p hp => o6 _ (by have := (e2.base_le p hp).1; omega)
      · simp only [if_neg hx]
        exact (h3 x).keep fun p hp => (o6 _ (by have := ((h3 x).base_le p hp).1; omega)).trans (keepO _ ((h3 x).base_le p hp).2 fun q hq => (h4 x k p q (Ne.symm hx) hp hq))
    · intro x y p p' hxy hp hp'
      by_cases hx : k = x
      · have hy : ¬ k = y := fun e => hxy (hx.symm.trans e)
        simp only [if_pos hx] at hp
        simp only [if_neg hy] at hp'
        have hlt := ((h3 y).base_le p' hp').2
        rcases e5 p hp with ⟨q, hq, eb⟩ | eb
        · rw [eb]; exact h4 k y q p' (fun e => hy e) hq hp'
        · omega
      · simp only [if_neg hx] at hp
        have hlt := ((h3 x).base_le p hp).2
        by_cases hy : k = y
        · simp only [if_pos hy] at hp'
          rcases e5 p' hp' with ⟨q, hq, eb⟩ | eb
          · rw [eb]; exact h4 x k p q (Ne.symm hx) hp hq
          · omega
        · simp only [if_neg hy] at hp'
          exact h4 x y p p' hxy hp hp'
end Go.Proofs.Ytkjnneephcboaaa
