/-
  Stores into cells; blocks of cells that the call itself has laid.
-/
import Derived.Test.YtkjnneephcboaaaMaps
namespace Go.X
open Go

/-- Block b is a row of just these cells, none of them frozen. -/
def Blk (h : Heap) (b : Nat) (cs : Array Value) : Prop := ∃ T, h[b]? = some (.cells cs T (0, 0))
theorem Blk.keep {h h' : Heap} {b : Nat} {cs : Array Value} (H : Blk h b cs) (k : h'[b]? = h[b]?) : Blk h' b cs := by
  obtain ⟨T, e⟩ := H; exact ⟨T, k.trans e⟩
theorem Blk.keepN {n : Nat} {h h' : Heap} {b : Nat} {cs : Array Value} (H : Blk h b cs) (k : Keep n h h') (hb : b < n) : Blk h' b cs := H.keep (k.get b hb)
theorem Blk.new (h : Heap) (cs : Array Value) (T : TypeId) : Blk (h.push (.cells cs T)) h.size cs := ⟨T, get_push _ _⟩
theorem Blk.lt {h : Heap} {b : Nat} {cs : Array Value} (H : Blk h b cs) : b < h.size := by
  obtain ⟨T, e⟩ := H; exact (Array.getElem?_eq_some_iff.1 e).1
theorem Blk.cell {h : Heap} {b o : Nat} {cs : Array Value} {v : Value} (H : Blk h b cs) (hv : cs[o]? = some v) : cellH h ⟨b, o, none⟩ = some v := by
  obtain ⟨T, e⟩ := H
  unfold cellH
  simp [e, hv]
theorem Blk.cellAdd {h : Heap} {b o k : Nat} {cs : Array Value} {v : Value} (H : Blk h b cs) (hv : cs[o + k]? = some v) : cellH h ((⟨b, o, none⟩ : Addr).add k) = some v := by
  rw [add_none]; exact H.cell hv
theorem Blk.ld {h : Heap} {b : Nat} {cs : List Value} (H : Blk h b cs.toArray) : ldList h ⟨b, 0, none⟩ 0 cs := by
  have key : ∀ (l : List Value) (i : Nat), (∀ j v, l[j]? = some v → cs[i + j]? = some v) → ldList h ⟨b, 0, none⟩ i l := by
    intro l
    induction l with
    | nil => intro i _; trivial
    | cons v l ih =>
      intro i hi
      refine ⟨?_, ih (i + 1) fun j u hu => ?_⟩
      · rw [add_none, Nat.zero_add]
        exact H.cell (by have := hi 0 v rfl; simpa using this)
      · have := hi (j + 1) u (by simpa using hu)
        rwa [show i + (j + 1) = i + 1 + j by omega] at this
  exact key cs 0 fun j v hv => by simpa using hv

theorem Keep.setBlk {n : Nat} {h : Heap} {b : Nat} (o : Obj) (hb : n ≤ b) : Keep n h (h.setIfInBounds b o) :=
  ⟨by simp, fun i hi => by rw [Array.getElem?_setIfInBounds_ne (by omega)]⟩

theorem frozen_blk {h : Heap} {b o : Nat} {cs : Array Value} (H : Blk h b cs) (B : World) (d : Nat) : (mk B d h).frozen? ⟨b, o, none⟩ = false := by
  obtain ⟨T, e⟩ := H
  have : (mk B d h).heap[b]? = some (.cells cs T (0, 0)) := e
  simp [World.frozen?, this]

theorem storeCell_run {P : Program} {h : Heap} {b o : Nat} {cs : Array Value} {T : TypeId} (e : h[b]? = some (.cells cs T (0, 0))) (ho : o < cs.size) {v : Value} (hv : v.oneCell' = true) (B : World) (d : Nat) :
    (store ⟨b, o, none⟩ v).run P (mk B d h) = .ok () (mk B d (h.setIfInBounds b (.cells (cs.setIfInBounds o v) T (0, 0)))) := by
  have hc : (mk B d h).cell? ⟨b, o, none⟩ = some cs[o] := Blk.cell (h := h) ⟨T, e⟩ (by simp [ho])
  have hf := frozen_blk (o := o) (⟨T, e⟩ : Blk h b cs) B d
  have hset : (mk B d h).setCell ⟨b, o, none⟩ v = mk B d (h.setIfInBounds b (.cells (cs.setIfInBounds o v) T (0, 0))) := by
    unfold World.setCell mk
    simp only
    congr 1
    have hb : b < h.size := (Array.getElem?_eq_some_iff.1 e).1
    apply Array.ext_getElem?
    intro i
    rw [Array.getElem?_modify]
    by_cases hi : i = b
    · subst hi
      have e' : h[i] = .cells cs T (0, 0) := by
        have := Array.getElem?_eq_getElem hb
        rw [e] at this
        exact (Option.some.inj this).symm
      simp [hb, e']
    · rw [if_neg (Ne.symm hi), Array.getElem?_setIfInBounds_ne (Ne.symm hi)]
  cases v with
  | agg x => simp [Value.oneCell'] at hv
  | tuple x => simp [Value.oneCell'] at hv
  | _ => simp only [store, Sem.run, hc, hf, Bool.false_eq_true, if_false, hset]

theorem cells_one {v : Value} (hv : v.oneCell' = true) : v.cells = #[v] := by
  cases v <;> first | rfl | simp [Value.oneCell'] at hv

/-- A store of one cell. -/
theorem store1 {P : Program} {t : TypeId} (hi : okInfo P t = true) (hs : szOf P t = 1) {h : Heap} {b o : Nat} {cs : Array Value} (H : Blk h b cs) (ho : o < cs.size) {v : Value} (hv : v.oneCell' = true) {K : Heap → Prop}
    (hK : ∀ h' : Heap, Blk h' b (cs.setIfInBounds o v) → h'.size = h.size → (∀ i, i ≠ b → h'[i]? = h[i]?) → K h') : XRunU P (Instr.storeAt t (.pointer (some ⟨b, o, none⟩)) v) h K := by
  obtain ⟨T, e⟩ := H
  have hb : b < h.size := (Array.getElem?_eq_some_iff.1 e).1
  intro B d
  refine ⟨d, _, ?_, hK (h.setIfInBounds b (.cells (cs.setIfInBounds o v) T (0, 0))) ⟨T, by simp [hb]⟩ (by simp) fun i hi => by rw [Array.getElem?_setIfInBounds_ne (Ne.symm hi)]⟩
  have hz := QExec.sizeOf (P := P) (h := h) (okInfo_some hi).choose_spec B d
  unfold Instr.storeAt Instr.sureAddr
  simp only [Sem.run_bind, Sem.run_pure, Result.andThen_ok]
  unfold storeVar
  rw [Sem.run_bind, hz]
  simp only [Result.andThen_ok]
  rw [hs, cells_one hv]
  simp only [List.size_toArray, List.length_cons, List.length_nil, Nat.zero_add, ne_eq, not_true_eq_false, if_false]
  show Sem.run P (storeCells ⟨b, o, none⟩ [v]) _ = _
  unfold storeCells
  rw [Sem.run_bind]
  have ha : (⟨b, o, none⟩ : Addr).add 0 = ⟨b, o, none⟩ := by rw [add_none]; rfl
  rw [ha, storeCell_run e ho hv B d]
  rfl

theorem storeCells_run {P : Program} {b : Nat} {T : TypeId} (B : World) (d : Nat) : ∀ (vs : List Value) (i : Nat) (h : Heap) (cs : Array Value), h[b]? = some (.cells cs T (0, 0)) → i + vs.length ≤ cs.size → (∀ v ∈ vs, v.oneCell' = true) →
    ∃ h', (storeCells ⟨b, 0, none⟩ vs i).run P (mk B d h) = .ok () (mk B d h') ∧ h'[b]? = some (.cells (cs.toList.take i ++ vs ++ cs.toList.drop (i + vs.length)).toArray T (0, 0)) ∧ h'.size = h.size ∧ ∀ j, j ≠ b → h'[j]? = h[j]?
  | [], i, h, cs, e, _, _ => ⟨h, rfl, by simpa using e, rfl, fun _ _ => rfl⟩
  | v :: vs, i, h, cs, e, hl, hv => by
    have hb : b < h.size := (Array.getElem?_eq_some_iff.1 e).1
    simp only [List.length_cons] at hl
    have h1 := storeCell_run (P := P) e (o := i) (by omega) (hv v List.mem_cons_self) B d
    have e' : (h.setIfInBounds b (.cells (cs.setIfInBounds i v) T (0, 0)))[b]? = some (.cells (cs.setIfInBounds i v) T (0, 0)) := by simp [hb]
    have hl' : i + 1 + vs.length ≤ (cs.setIfInBounds i v).size := by rw [Array.size_setIfInBounds]; omega
    obtain ⟨h', r1, r2, r3, r4⟩ := storeCells_run (P := P) B d vs (i + 1) (h.setIfInBounds b (.cells (cs.setIfInBounds i v) T (0, 0))) (cs.setIfInBounds i v) e' hl' fun u hu => hv u (List.mem_cons_of_mem _ hu)
    refine ⟨h', ?_, ?_, by rw [r3]; simp, fun j hj => by rw [r4 j hj, Array.getElem?_setIfInBounds_ne (Ne.symm hj)]⟩
    · unfold storeCells
      rw [Sem.run_bind, add_none, Nat.zero_add, h1]
      simp only [Result.andThen_ok]
      exact r1
    · rw [r2]
      congr 3
      have hi : i < cs.toList.length := by simp; omega
      simp only [Array.toList_setIfInBounds, List.length_cons]
      rw [List.take_set, List.drop_set_of_lt (by omega)]
      have e2 : (cs.toList.take (i + 1)).set i v = cs.toList.take i ++ [v] := by
        rw [List.take_succ_eq_append_getElem hi, List.set_append_right _ _ (by simp; omega)]
        have : i - (cs.toList.take i).length = 0 := by simp; omega
        rw [this]; rfl
      rw [e2, show i + (vs.length + 1) = i + 1 + vs.length by omega]
      simp

/-- A store of a whole struct. -/
theorem storeAll {P : Program} {t : TypeId} (hi : okInfo P t = true) {h : Heap} {b : Nat} {cs : Array Value} (H : Blk h b cs) {vs : List Value} (hs : szOf P t = vs.length) (hl : cs.size = vs.length) (hv : ∀ v ∈ vs, v.oneCell' = true) {K : Heap → Prop}
    (hK : ∀ h' : Heap, Blk h' b vs.toArray → h'.size = h.size → (∀ i, i ≠ b → h'[i]? = h[i]?) → K h') : XRunU P (Instr.storeAt t (.pointer (some ⟨b, 0, none⟩)) (.agg vs.toArray)) h K := by
  obtain ⟨T, e⟩ := H
  intro B d
  obtain ⟨h', r1, r2, r3, r4⟩ := storeCells_run (P := P) B d vs 0 h cs e (by omega) hv
  refine ⟨d, h', ?_, hK h' ⟨T, by rw [r2]; congr 2; simp; omega⟩ r3 r4⟩
  have hz := QExec.sizeOf (P := P) (h := h) (okInfo_some hi).choose_spec B d
  unfold Instr.storeAt Instr.sureAddr
  simp only [Sem.run_bind, Sem.run_pure, Result.andThen_ok]
  unfold storeVar
  rw [Sem.run_bind, hz]
  simp only [Result.andThen_ok]
  rw [hs]
  simp only [Value.cells, List.size_toArray, ne_eq, not_true_eq_false, if_false]
  exact r1

/-- 'append(s[:i], s[j:]...)' in place, and the last cells cleared: what slices.Delete does. -/
theorem clear_run {P : Program} {t e : TypeId} {z : Value} {sz bytes : Nat} (T : ElemT P t e z sz bytes) {g o n c : Nat} {h : Heap} {cs : Array Value} {X : TypeId} (hg : h[g]? = some (.cells cs X (0, 0))) (hn : o + n * sz ≤ cs.size) (hz : ∀ v ∈ (Builtin.zeroCells z.cells n).toList, v.oneCell' = true)
    (hlen : (Builtin.zeroCells z.cells n).toList.length = n * sz) {ty : TypeId} {K : Value → Heap → Prop}
    (hK : ∀ h' : Heap, h'[g]? = some (.cells (cs.toList.take o ++ (Builtin.zeroCells z.cells n).toList ++ cs.toList.drop (o + n * sz)).toArray X (0, 0)) → h'.size = h.size → (∀ i, i ≠ g → h'[i]? = h[i]?) → K (.tuple #[]) h') (hn0 : 0 < n) :
    XRun P (Builtin.clear_ #[t] ty #[.slice (some ⟨g, o, none⟩) n c]) h K := by
  intro B d
  have shift : ∀ (vs : List Value) (i : Nat) (w : World), (storeCells ⟨g, o, none⟩ vs i).run P w = (storeCells ⟨g, 0, none⟩ vs (o + i)).run P w := by
    intro vs
    induction vs with
    | nil => intro i w; rfl
    | cons v vs ih =>
      intro i w
      unfold storeCells
      rw [Sem.run_bind, Sem.run_bind, add_none, add_none, Nat.zero_add]
      congr 1
      funext a w'
      exact ih (i + 1) w'
  obtain ⟨h', r1, r2, r3, r4⟩ := storeCells_run (P := P) B d (Builtin.zeroCells z.cells n).toList (o + 0) h cs hg (by rw [hlen]; omega) hz
  refine ⟨_, d, h', ?_, hK h' (by rw [r2, hlen]; simp) r3 r4⟩
  obtain ⟨i, hi, hz', _, _⟩ := T.info
  have hu := QExec.underlying (h := h) T.slice B d
  have hzr := zero_run (P := P) (h := h) ⟨i, hi, hz'⟩ B d
  have hs := shift (Builtin.zeroCells z.cells n).toList 0 (mk B d h)
  rw [r1] at hs
  unfold Builtin.clear_
  simp only [List.getElem?_toArray, List.getElem?_cons_zero]
  cases n with
  | zero => omega
  | succ n =>
    rw [Sem.run_bind, hu]
    simp only [Result.andThen_ok]
    rw [Sem.run_bind, hzr]
    simp only [Result.andThen_ok]
    rw [Sem.run_bind, hs]
    rfl

theorem Owns.base {h : Heap} {base base' : Nat} {e : TypeId} {sz : Nat} {s : Sl} {xs : List Value} (H : Owns h base e sz s xs) (hb : base' ≤ base) : Owns h base' e sz s xs := by
  refine ⟨H.1, ?_⟩
  rcases H.2 with hn | ⟨g, cap, cur, hv, hbg, rest⟩
  · exact .inl hn
  · exact .inr ⟨g, cap, cur, hv, by omega, rest⟩

theorem keep_of_other {n : Nat} {h h' : Heap} {b : Nat} (hs : h'.size = h.size) (ho : ∀ i, i ≠ b → h'[i]? = h[i]?) (hb : n ≤ b) : Keep n h h' := ⟨by omega, fun i hi => ho i (by omega)⟩
end Go.X
