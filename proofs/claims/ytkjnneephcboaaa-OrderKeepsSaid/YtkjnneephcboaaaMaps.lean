/-
  Maps with strings as keys: what they hold as a list of pairs; look-up and store.
-/
import Derived.Test.YtkjnneephcboaaaLib
namespace Go.X
open Go

/-- The first value at a key. -/
def getL (l : List (ByteArray × Value)) (k : ByteArray) : Option Value := match l with
  | [] => none
  | p :: l => if p.1 = k then some p.2 else getL l k
/-- A value put at a key. -/
def setL (l : List (ByteArray × Value)) (k : ByteArray) (v : Value) : List (ByteArray × Value) := match l with
  | [] => [(k, v)]
  | p :: l => if p.1 = k then (k, v) :: l else p :: setL l k v

theorem getL_setL (l : List (ByteArray × Value)) (k k' : ByteArray) (v : Value) : getL (setL l k v) k' = if k = k' then some v else getL l k' := by
  induction l with
  | nil => simp [setL, getL]
  | cons p l ih =>
    simp only [setL]
    split
    · rename_i h
      simp only [getL]
      split <;> rename_i h2
      · rfl
      · rw [h]; simp [h2]
    · rename_i h
      simp only [getL, ih]
      split <;> rename_i h2
      · rw [if_neg (fun e => h (h2.trans e.symm))]
      · rfl

/-- Block m is a map that holds these. -/
def MapAt (h : Heap) (m : Nat) (l : List (ByteArray × Value)) : Prop := ∃ es clock, h[m]? = some (.map es clock) ∧ es.toList.map (fun e => (e.key, e.val)) = l.map fun p => (Value.string p.1, p.2)
theorem MapAt.keep {h h' : Heap} {m : Nat} {l : List (ByteArray × Value)} (H : MapAt h m l) (k : h'[m]? = h[m]?) : MapAt h' m l := by
  obtain ⟨es, c, h1, h2⟩ := H; exact ⟨es, c, k.trans h1, h2⟩
theorem MapAt.lt {h : Heap} {m : Nat} {l : List (ByteArray × Value)} (H : MapAt h m l) : m < h.size := by
  obtain ⟨es, c, h1, h2⟩ := H; exact (Array.getElem?_eq_some_iff.1 h1).1
theorem MapAt.new (h : Heap) : MapAt (h.push (.map #[] 0)) h.size [] := ⟨#[], 0, get_push _ _, rfl⟩

structure MapT (P : Program) (t kt et : TypeId) (z : Value) : Prop where
  map : P.underlying t = some (.map kt et)
  key : P.underlying kt = some .string
  zero : ∃ i, P.info? et = some i ∧ i.zero = some z

theorem ba_beq (a b : ByteArray) : (a == b) = decide (a = b) := by
  show ByteArray.beq a b = _
  cases a; cases b
  rw [Bool.eq_iff_iff]
  simp [ByteArray.beq]

instance lawfulBA : LawfulBEq ByteArray where
  eq_of_beq := fun {a b} h => by rw [ba_beq] at h; simpa using h
  rfl := fun {a} => by rw [ba_beq]; simp

theorem findNow_str (k : ByteArray) : ∀ (es : List MapEntry) (l : List (ByteArray × Value)) (i : Nat), es.map (fun e => (e.key, e.val)) = l.map (fun p => (Value.string p.1, p.2)) →
    (getL l k = none ∧ Instr.findNow .string (.string k) es i = some none) ∨ (∃ j v e, getL l k = some v ∧ es[j]? = some e ∧ e.key = .string k ∧ e.val = v ∧ Instr.findNow .string (.string k) es i = some (some (i + j, v)) ∧
      ∀ w, (es.modify j fun e => { e with key := .string k, val := w }).map (fun e => (e.key, e.val)) = (setL l k w).map fun p => (Value.string p.1, p.2))
  | [], l, i, h => by
    have : l = [] := by cases l <;> simp_all
    subst this
    exact .inl ⟨rfl, rfl⟩
  | e :: es, l, i, h => by
    cases l with
    | nil => simp at h
    | cons p l =>
      simp only [List.map_cons, List.cons.injEq, Prod.mk.injEq] at h
      obtain ⟨⟨h1, h2⟩, h3⟩ := h
      by_cases hk : p.1 = k
      · refine .inr ⟨0, p.2, e, by simp [getL, hk], rfl, by rw [h1, hk], h2, ?_, fun w => ?_⟩
        · have hk' : (k == p.1) = true := by rw [ba_beq]; simpa using hk.symm
          simp [Instr.findNow, Instr.sameNow, h1, h2, hk']
        · simp [setL, hk, h3]
      · have hk' : (k == p.1) = false := by rw [ba_beq]; simpa using fun e => hk e.symm
        rcases findNow_str k es l (i + 1) h3 with ⟨g1, g2⟩ | ⟨j, v, e', g1, g2, g3, g4, g5, g6⟩
        · refine .inl ⟨by simp [getL, hk, g1], ?_⟩
          simp [Instr.findNow, Instr.sameNow, h1, hk', g2]
        · refine .inr ⟨j + 1, v, e', by simp [getL, hk, g1], by simpa using g2, g3, g4, ?_, fun w => ?_⟩
          · simp [Instr.findNow, Instr.sameNow, h1, hk', g5]; omega
          · simp [setL, hk, h1, h2, g6 w]

theorem checkKey_str {P : Program} {kt : TypeId} (hk : P.underlying kt = some .string) (b : Bool) (k : ByteArray) (h : Heap) : QExec P (Instr.checkKey b 10000 kt (.string k)) h () := by
  intro B d
  have hq := QExec.underlying (h := h) hk B d
  unfold Instr.checkKey
  rw [Sem.run_bind, hq]
  rfl

theorem findKey_str {P : Program} {kt : TypeId} (hk : P.underlying kt = some .string) (k : ByteArray) (es : List MapEntry) (r : Option (Nat × Value)) (h : Heap) (hf : Instr.findNow .string (.string k) es 0 = some r) :
    QExec P (Instr.findKey kt (.string k) es) h r := by
  intro B d
  have hq := QExec.underlying (h := h) hk B d
  unfold Instr.findKey
  rw [Sem.run_bind, hq]
  simp only [Result.andThen_ok, hf]
  rfl

theorem getMap_run {P : Program} {h : Heap} {m : Nat} {es : Array MapEntry} {c : Nat} (hm : h[m]? = some (.map es c)) : QExec P (getObj m) h (.map es c) := by
  intro B d
  have : (mk B d h).heap[m]? = some (.map es c) := hm
  simp [getObj, Sem.run, this]

theorem zero_run {P : Program} {t : TypeId} {z : Value} {h : Heap} (hz : ∃ i, P.info? t = some i ∧ i.zero = some z) : QExec P (zeroValue t) h z := by
  obtain ⟨i, h1, h2⟩ := hz
  intro B d
  simp [zeroValue, typeInfo, program, h1, h2, Sem.run]

/-- The value at a key, or the zero value. -/
def getZ (l : List (ByteArray × Value)) (k : ByteArray) (z : Value) : Value := (getL l k).getD z

theorem lookup_core {P : Program} {t kt et : TypeId} {z : Value} (T : MapT P t kt et z) {h : Heap} {m : Nat} {l : List (ByteArray × Value)} (H : MapAt h m l) (k : ByteArray) (ok : Bool) :
    QExec P (Instr.lookup t (.map (some m)) (.string k) ok) h (if ok then .tuple #[getZ l k z, .bool (getL l k).isSome] else getZ l k z) := by
  obtain ⟨es, c, h1, h2⟩ := H
  intro B d
  have hu := QExec.underlying (h := h) T.map B d
  have hg := getMap_run (P := P) h1 B d
  have hc := checkKey_str T.key es.isEmpty k h B d
  unfold Instr.lookup
  rw [Sem.run_bind, hu]
  simp only [Result.andThen_ok, Sem.run_bind, hg, Sem.run_pure, hc]
  rcases findNow_str k es.toList l 0 h2 with ⟨g1, g2⟩ | ⟨j, v, e, g1, g2, g3, g4, g5, _⟩
  · rw [findKey_str T.key k es.toList none h g2 B d]
    have hz := zero_run (h := h) T.zero B d
    simp only [Result.andThen_ok, Sem.run_bind, hz, Sem.run_pure, getZ, g1]
    cases ok <;> rfl
  · rw [findKey_str T.key k es.toList _ h g5 B d]
    simp only [Result.andThen_ok, getZ, g1]
    cases ok <;> rfl

theorem lookup_nil {P : Program} {t kt et : TypeId} {z : Value} (T : MapT P t kt et z) {h : Heap} (k : ByteArray) (ok : Bool) :
    QExec P (Instr.lookup t (.map none) (.string k) ok) h (if ok then .tuple #[z, .bool false] else z) := by
  intro B d
  have hu := QExec.underlying (h := h) T.map B d
  have hc := checkKey_str T.key true k h B d
  unfold Instr.lookup
  rw [Sem.run_bind, hu]
  simp only [Result.andThen_ok, Sem.run_bind, Sem.run_pure]
  have he : (#[] : Array MapEntry).isEmpty = true := rfl
  simp only [he, hc, Result.andThen_ok]
  rw [findKey_str T.key k [] none h rfl B d]
  have hz := zero_run (h := h) T.zero B d
  cases ok <;> simp [hz]

theorem setL_append {l : List (ByteArray × Value)} {k : ByteArray} {v : Value} (g : getL l k = none) : setL l k v = l ++ [(k, v)] := by
  induction l with
  | nil => rfl
  | cons p l ih =>
    simp only [getL] at g
    split at g
    · cases g
    · rename_i hp
      simp [setL, hp, ih g]

/-- A store. -/
theorem update_ok {P : Program} {t kt et : TypeId} {z : Value} (T : MapT P t kt et z) {h : Heap} {m : Nat} {l : List (ByteArray × Value)} (H : MapAt h m l) (k : ByteArray) (v : Value) {K : Heap → Prop}
    (hK : ∀ h' : Heap, MapAt h' m (setL l k v) → h'.size = h.size → (∀ i, i ≠ m → h'[i]? = h[i]?) → K h') : XRunU P (Instr.mapUpdate t (.map (some m)) (.string k) v) h K := by
  have hlt := H.lt
  obtain ⟨es, c, h1, h2⟩ := H
  intro B d
  have hu := QExec.underlying (h := h) T.map B d
  have hg := getMap_run (P := P) h1 B d
  have hc := checkKey_str T.key false k h B d
  have set_run : ∀ o : Obj, (setObj m o).run P (mk B d h) = .ok () (mk B d (h.setIfInBounds m o)) := by
    intro o
    have : (mk B d h).heap[m]? = some (.map es c) := h1
    simp [setObj, Sem.run, this]
    rfl
  unfold Instr.mapUpdate
  rcases findNow_str k es.toList l 0 h2 with ⟨g1, g2⟩ | ⟨j, v0, e, g1, g2, g3, g4, g5, g6⟩
  · refine ⟨d, h.setIfInBounds m (.map (es.push { key := .string k, val := v, born := c }) (c + 1)), ?_, hK _ ⟨es.push { key := .string k, val := v, born := c }, c + 1, by simp [hlt], ?_⟩ (by simp) (fun i hi => by rw [Array.getElem?_setIfInBounds_ne (Ne.symm hi)])⟩
    · rw [Sem.run_bind, hu]
      simp only [Result.andThen_ok, Sem.run_bind, hg, hc]
      rw [findKey_str T.key k es.toList none h g2 B d]
      simp only [Result.andThen_ok]
      exact set_run _
    · rw [setL_append g1]
      simp [h2]
  · have hlen : j < es.size := by
      have := (List.getElem?_eq_some_iff.1 g2).1
      simpa using this
    refine ⟨d, _, ?_, hK (h.setIfInBounds m (.map (es.modify j fun e => { e with key := .string k, val := v }) c)) ⟨es.modify j fun e => { e with key := .string k, val := v }, c, by simp [hlt], ?_⟩ (by simp) (fun i hi => by rw [Array.getElem?_setIfInBounds_ne (Ne.symm hi)])⟩
    · rw [Sem.run_bind, hu]
      simp only [Result.andThen_ok, Sem.run_bind, hg, hc]
      rw [findKey_str T.key k es.toList _ h g5 B d]
      simp only [Result.andThen_ok, Nat.zero_add]
      have hkey : ((es[j]?).map (·.key)).getD (.string k) = .string k := by
        have : es[j]? = some e := by simpa using g2
        rw [this]; exact g3
      rw [hkey]
      have hs : Instr.keyThatStays (.string k) (.string k) = pure (.string k) := by
        unfold Instr.keyThatStays
        rw [if_pos (by show (k == k) = true; rw [ba_beq]; simp)]
      rw [hs]
      exact set_run _
    · have := g6 v
      simpa using this
end Go.X
