import Derived.Test.YtkjnneephcboaaaOrdM
import Derived.Sort.KeysCollected
namespace Go.Proofs.Ytkjnneephcboaaa
open Go Go.X Go.Proofs Go.Sort
set_option linter.unusedVariables false

/-! ### Plain: sorted rows -/
def leS (x y : ByteArray) : Prop := x.toList ≤ y.toList
theorem leS_antisymm {x y : ByteArray} (h : leS x y) (k : leS y x) : x = y := toList_inj (List.le_antisymm h k)
theorem leS_refl (x : ByteArray) : leS x x := List.le_refl _
theorem sortL_of_perm {xs ys : List ByteArray} (h : xs.Perm ys) : sortL xs = sortL ys := by
  unfold sortL
  have := mergeSort_of_perm (h.map ByteArray.toList)
  unfold leB at this
  rw [this]
theorem sortL_sorted (xs : List ByteArray) : (sortL xs).Pairwise leS := by
  unfold sortL
  rw [List.pairwise_map]
  have tr : ∀ a b c : List UInt8, leB a b = true → leB b c = true → leB a c = true := fun a b c h1 h2 => by simp only [leB, decide_eq_true_eq] at *; exact List.le_trans h1 h2
  have to : ∀ a b : List UInt8, (leB a b || leB b a) = true := fun a b => by simp only [leB, Bool.or_eq_true, decide_eq_true_eq]; exact List.le_total a b
  refine (List.pairwise_mergeSort tr to _).imp fun {a b} h => ?_
  unfold leS
  rw [toList_mk, toList_mk]
  simpa [leB] using h
theorem sortL_unique {xs ys : List ByteArray} (hp : ys.Perm xs) (hs : ys.Pairwise leS) : sortL xs = ys :=
  List.Perm.eq_of_pairwise (le := leS) (fun a b _ _ h1 h2 => leS_antisymm h1 h2) (sortL_sorted xs) hs ((sortL_perm xs).trans hp.symm)
theorem sortL_erase (xs : List ByteArray) (x : ByteArray) : sortL (xs.erase x) = (sortL xs).erase x :=
  sortL_unique ((sortL_perm xs).erase x) ((sortL_sorted xs).sublist List.erase_sublist)
theorem eraseIdx_nodup {ys : List ByteArray} (hn : ys.Nodup) {k : Nat} (hk : k < ys.length) : ys.eraseIdx k = ys.erase ys[k] := by
  have : ys.idxOf ys[k] = k := hn.idxOf_getElem k hk
  rw [List.erase_eq_eraseIdx_of_idxOf this]
theorem freeB_perm {ah : ByteArray → ByteArray → Bool} {xs ys : List ByteArray} (h : xs.Perm ys) (x : ByteArray) : freeB ah xs x = freeB ah ys x := by
  rw [Bool.eq_iff_iff]
  simp only [freeB, List.all_eq_true]
  exact ⟨fun g s hs => g s (h.mem_iff.2 hs), fun g s hs => g s (h.mem_iff.1 hs)⟩

/-- The least free one is the first free one of the sorted row. -/
theorem sel_least {ah : ByteArray → ByteArray → Bool} {ys : List ByteArray} (hn : ys.Nodup) {b : Nat} (hb : b < ys.length) (hf : freeB ah ys ys[b] = true) (hl : ∀ (j : Nat) (hj : j < ys.length), freeB ah ys ys[j] = true → leS ys[b] ys[j]) :
    selL ah ys.length (sortL ys) = (selL ah (ys.eraseIdx b).length (sortL (ys.eraseIdx b))).map (ys[b] :: ·) := by
  have hp := sortL_perm ys
  have hm : ys[b] ∈ sortL ys := hp.mem_iff.2 (List.getElem_mem hb)
  have hfe : ∀ x, freeB ah (sortL ys) x = freeB ah ys x := fun x => freeB_perm hp x
  have hfind : (sortL ys).find? (freeB ah (sortL ys)) = some ys[b] := by
    rw [List.find?_eq_some_iff_append]
    obtain ⟨us, bs, he⟩ := List.append_of_mem hm
    refine ⟨by rw [hfe]; exact hf, us, bs, he, fun a ha => ?_⟩
    have hsorted := sortL_sorted ys
    have hnd : (sortL ys).Nodup := hp.nodup_iff.2 hn
    rw [he] at hsorted hnd
    have hle : leS a ys[b] := (List.pairwise_append.1 hsorted).2.2 a ha _ List.mem_cons_self
    have hne : a ≠ ys[b] := (List.nodup_append.1 hnd).2.2 a ha _ List.mem_cons_self
    rw [hfe]
    cases hfa : freeB ah ys a with
    | false => rfl
    | true =>
      have hay : a ∈ ys := hp.mem_iff.1 (by rw [he]; exact List.mem_append_left _ ha)
      obtain ⟨j, hj, rfl⟩ := List.getElem_of_mem hay
      exact absurd (leS_antisymm hle (hl j hj hfa)) hne
  obtain ⟨n, hnn⟩ : ∃ n, ys.length = n + 1 := ⟨ys.length - 1, by omega⟩
  have hlE : (ys.eraseIdx b).length = ys.length - 1 := List.length_eraseIdx_of_lt hb
  rw [hlE, hnn]
  simp only [selL, hfind, Nat.add_sub_cancel]
  rw [eraseIdx_nodup hn hb, sortL_erase]
theorem sel_stuck {ah : ByteArray → ByteArray → Bool} {ys : List ByteArray} (h0 : 0 < ys.length) (hf : ∀ (j : Nat) (hj : j < ys.length), freeB ah ys ys[j] = false) : selL ah ys.length (sortL ys) = none := by
  have hp := sortL_perm ys
  obtain ⟨n, hnn⟩ : ∃ n, ys.length = n + 1 := ⟨ys.length - 1, by omega⟩
  have hfind : (sortL ys).find? (freeB ah (sortL ys)) = none := by
    rw [List.find?_eq_none]
    intro x hx
    rw [freeB_perm hp]
    obtain ⟨j, hj, rfl⟩ := List.getElem_of_mem (hp.mem_iff.1 hx)
    rw [hf j hj]; simp
  rw [hnn]
  simp only [selL, hfind]

/-! ### An append to a slice that has no room -/
theorem append_fresh {P : Program} {t e : TypeId} {z : Value} {sz bytes : Nat} (T : ElemT P t e z sz bytes) {ty : TypeId} {h : Heap} {p : Addr} {n N : Nat} {olds : List Value} (ho : olds.length = n * sz) (hold : ∀ j v, olds[j]? = some v → cellH h (p.add j) = some v)
    {src : Sl} {news : List Value} (hs : Arr N h src.a news) (hl : news.length = src.len * sz) (hbytes : (n + src.len) * bytes ≤ 140737488355328) (hmax : n + src.len ≤ 4611686018427387904) {K : Value → Heap → Prop}
    (h0 : src.len = 0 → K (.slice (some p) n n) h)
    (hK : ∀ (c : Nat) (h' : Heap), 0 < src.len → n + src.len ≤ c → Arr h'.size h' (some ⟨h.size, 0, none⟩) (olds ++ news) → (∀ i, i < h.size → h'[i]? = h[i]?) → h'.size = h.size + 1 → K (.slice (some ⟨h.size, 0, none⟩) (n + src.len) c) h') :
    XRun P (Builtin.append_ #[t, t] ty #[.slice (some p) n n, .slice src.a src.len src.cap]) h K := by
  intro B d
  obtain ⟨i, hi, hz, hsz, hby⟩ := T.info
  have hT := T.slice
  subst hsz hby
  by_cases hm : src.len = 0
  · refine ⟨_, d, h, ?_, h0 hm⟩
    rw [hm]
    generalize src.a = q
    cases q <;> simp [Builtin.append_, run_underlying hT, sizeOf, typeInfo, hi, Builtin.lenOf, Builtin.firstCells, loadCells, loadCellsFrom, storeCells]
  · rcases hs with e0 | ⟨b, o, e0, hb, hc⟩
    · subst e0
      have := Nat.mul_pos (Nat.pos_of_ne_zero hm) T.pos
      simp at hl; omega
    · rw [e0]
      have hr := run_append_grow (P := P) (ty := ty) (w := mk B d h) t e i z hT hi hz p n n olds ho (fun j v hj => hold j v hj) ⟨b, o, none⟩ src.len src.cap news hl (fun j u hu => by rw [add_none]; exact hc j u hu) (by omega) (by omega) (growslice_fits (by omega) hbytes)
      refine ⟨_, _, _, hr, hK _ _ (by omega) (grownCap_ge _ _ _ _) ?_ (fun j hj => ?_) (Array.size_push _)⟩
      · refine .inr ⟨h.size, 0, rfl, ?_, fun j v hj => ?_⟩
        · show h.size < (Array.push h _).size
          simp
        have hlt : j < (olds ++ news).length := (List.getElem?_eq_some_iff.1 hj).1
        have hb := Blk.new h (olds.toArray ++ news.toArray ++ Builtin.zeroCells z.cells (grownCap (mk B d h) (n + src.len) n e - (n + src.len))) e
        refine hb.cell ?_
        rw [Nat.zero_add, Array.getElem?_append_left (by simpa using hlt)]
        simpa using hj
      · show (Array.push h _)[j]? = _
        rw [Array.getElem?_push, if_neg (by omega)]
end Go.Proofs.Ytkjnneephcboaaa
