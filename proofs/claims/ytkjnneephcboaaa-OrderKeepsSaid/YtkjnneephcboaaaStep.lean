/-
  One operation as a formula: 'stepQ' (it leaves the heap alone), 'stepW' (any).
-/
import Derived.Test.YtkjnneephcboaaaCore
import Derived.Laws.Strings
namespace Go.X
open Go

/-! ### The heap's cells -/
def cellH (h : Heap) (a : Addr) : Option Value :=
  match h[a.block]? with
  | some (.cells c _ _) => if a.spot.isSome then none else c[a.off]?
  | _ => none
theorem cell_mk (B : World) (d : Nat) (h : Heap) (a : Addr) : (mk B d h).cell? a = cellH h a := rfl

/-! ### What runs without memory -/
def evalPure (P : Program) {α : Type} : Sem α → Option α
  | .pure a => some a
  | .program k => evalPure P (k P)
  | .mark _ k => evalPure P k
  | _ => none

def QExec (P : Program) {α : Type} (s : Sem α) (h : Heap) (x : α) : Prop := ∀ B d, s.run P (mk B d h) = .ok x (mk B d h)

theorem evalPure_run {P : Program} {α : Type} {s : Sem α} {x : α} (h : evalPure P s = some x) (w : World) : s.run P w = .ok x w := by
  induction s with
  | pure a => simp only [evalPure, Option.some.injEq] at h; subst h; rfl
  | program k ih => exact ih P h
  | mark m k ih => exact ih h
  | _ => simp [evalPure] at h
theorem evalPure_sound {P : Program} {α : Type} {s : Sem α} {x : α} (h : evalPure P s = some x) (hp : Heap) : QExec P s hp x := fun _ _ => evalPure_run h _

theorem QExec.bind {P : Program} {α β : Type} {s : Sem α} {f : α → Sem β} {h : Heap} {x : α} {y : β} (h1 : QExec P s h x) (h2 : QExec P (f x) h y) : QExec P (s >>= f) h y := by
  intro B d
  rw [Sem.run_bind, h1 B d]
  exact h2 B d
theorem QExec.pure {P : Program} {α : Type} {h : Heap} (x : α) : QExec P (Pure.pure x) h x := fun _ _ => rfl
theorem QExec.val {P : Program} {s : Sem Value} {h : Heap} {v : Value} (h1 : QExec P s h v) : QExec P (s >>= fun x => Pure.pure (Next.value x)) h (Next.value v) := h1.bind (QExec.pure _)

theorem QExec.underlying {P : Program} {h : Heap} {t : TypeId} {d : TypeDesc} (hd : P.underlying t = some d) : QExec P (Go.underlying t) h d := by
  intro B e
  simp [Go.underlying, program, hd, Sem.run]

def szOf (P : Program) (t : TypeId) : Nat := match P.info? t with
  | some i => i.size
  | none => 0

theorem QExec.sizeOf {P : Program} {h : Heap} {t : TypeId} {i : TypeInfo} (hi : P.info? t = some i) : QExec P (Go.sizeOf t) h (szOf P t) := by
  intro B d
  simp [Go.sizeOf, typeInfo, program, hi, Sem.run, szOf]

theorem info_of_underlying {P : Program} {t : TypeId} {d : TypeDesc} (hd : P.underlying t = some d) : ∃ i, P.info? t = some i := by
  unfold Program.underlying at hd
  cases h : P.info? t with
  | none => rw [h] at hd; cases hd
  | some i => exact ⟨i, rfl⟩

/-! ### Types of what a slot holds -/
inductive Atom where
  | int (k : IntKind) | bool | str | sl | mp | ptr | raw

structure Sl where
  a : Option Addr
  len : Nat
  cap : Nat

@[reducible] def Atom.den : Atom → Type
  | .int _ => Int | .bool => Bool | .str => ByteArray | .sl => Sl | .mp => Option Nat | .ptr => Option Addr | .raw => Value
def Atom.enc : (t : Atom) → t.den → Value
  | .int k, n => .int k n
  | .bool, b => .bool b
  | .str, s => .string s
  | .sl, s => .slice s.a s.len s.cap
  | .mp, m => .map m
  | .ptr, p => .pointer p
  | .raw, v => v
def Atom.dec : (t : Atom) → Value → Option t.den
  | .int k, .int k' n => if k = k' then some n else none
  | .bool, .bool b => some b
  | .str, .string s => some s
  | .sl, .slice a l c => some ⟨a, l, c⟩
  | .mp, .map m => some m
  | .ptr, .pointer p => some p
  | .raw, v => some v
  | _, _ => none
theorem Atom.dec_enc (t : Atom) (x : t.den) : t.dec (t.enc x) = some x := by
  cases t <;> simp [Atom.dec, Atom.enc]
theorem Atom.enc_of_dec {t : Atom} {v : Value} {x : t.den} (h : t.dec v = some x) : t.enc x = v := by
  cases t <;> cases v <;> simp_all [Atom.dec, Atom.enc] <;> (subst h; first | rfl | exact ⟨rfl, rfl, rfl⟩)

inductive VT where
  | one (t : Atom)
  | agg (l : List Atom)
inductive RT where
  | one (v : VT)
  | tup (l : List VT)

def exAtoms : List Atom → (List Value → Prop) → Prop
  | [], F => F []
  | t :: l, F => ∃ x : t.den, exAtoms l fun vs => F (t.enc x :: vs)
def exVT : VT → (Value → Prop) → Prop
  | .one t, F => ∃ x : t.den, F (t.enc x)
  | .agg l, F => exAtoms l fun vs => F (.agg vs.toArray)
def exVTs : List VT → (List Value → Prop) → Prop
  | [], F => F []
  | t :: l, F => exVT t fun v => exVTs l fun vs => F (v :: vs)
def exRT : RT → (Value → Prop) → Prop
  | .one v, F => exVT v F
  | .tup l, F => exVTs l fun vs => F (.tuple vs.toArray)
def allAtoms : List Atom → (List Value → Prop) → Prop
  | [], F => F []
  | t :: l, F => ∀ x : t.den, allAtoms l fun vs => F (t.enc x :: vs)
def allVT : VT → (Value → Prop) → Prop
  | .one t, F => ∀ x : t.den, F (t.enc x)
  | .agg l, F => allAtoms l fun vs => F (.agg vs.toArray)
def allVTs : List VT → (List Value → Prop) → Prop
  | [], F => F []
  | t :: l, F => allVT t fun v => allVTs l fun vs => F (v :: vs)
def allRT : RT → (Value → Prop) → Prop
  | .one v, F => allVT v F
  | .tup l, F => allVTs l fun vs => F (.tuple vs.toArray)

theorem both_atoms : ∀ {l : List Atom} {F G : List Value → Prop}, exAtoms l F → allAtoms l G → ∃ vs, vs.length = l.length ∧ F vs ∧ G vs
  | [], _, _, h, g => ⟨[], rfl, h, g⟩
  | _ :: _, _, _, ⟨x, h⟩, g => let ⟨vs, h0, h1, h2⟩ := both_atoms h (g x); ⟨_, by simp [h0], h1, h2⟩
theorem all_atoms_true : ∀ (l : List Atom), allAtoms l fun _ => True
  | [] => trivial
  | _ :: l => fun _ => all_atoms_true l
theorem both_VT {v : VT} {F G : Value → Prop} (h : exVT v F) (g : allVT v G) : ∃ u, F u ∧ G u := by
  cases v with
  | one t => obtain ⟨x, h⟩ := h; exact ⟨_, h, g x⟩
  | agg l => obtain ⟨vs, _, h1, h2⟩ := both_atoms h g; exact ⟨_, h1, h2⟩
theorem all_VT_true (v : VT) : allVT v fun _ => True := by
  cases v with
  | one t => exact fun _ => trivial
  | agg l => exact all_atoms_true l
theorem both_VTs : ∀ {l : List VT} {F G : List Value → Prop}, exVTs l F → allVTs l G → ∃ vs, F vs ∧ G vs
  | [], _, _, h, g => ⟨[], h, g⟩
  | _ :: _, _, _, h, g => let ⟨_, h1, h2⟩ := both_VT h g; let ⟨_, h3, h4⟩ := both_VTs h1 h2; ⟨_, h3, h4⟩
theorem all_VTs_true : ∀ (l : List VT), allVTs l fun _ => True
  | [] => trivial
  | v :: l => by
    have h := all_VTs_true l
    simp only [allVTs]
    cases v with
    | one t => exact fun _ => h
    | agg l' =>
      simp only [allVT]
      have key : ∀ (l' : List Atom) (f : List Value → List Value), allAtoms l' fun _ => allVTs l fun _ => True := fun l' _ => by
        induction l' with
        | nil => exact h
        | cons t l' ih => exact fun _ => ih
      exact key l' id
theorem both_RT {r : RT} {F G : Value → Prop} (h : exRT r F) (g : allRT r G) : ∃ v, F v ∧ G v := by
  cases r with
  | one v => exact both_VT h g
  | tup l => obtain ⟨vs, h1, h2⟩ := both_VTs h g; exact ⟨_, h1, h2⟩
theorem some_RT {r : RT} {F : Value → Prop} (h : exRT r F) : ∃ v, F v := by
  cases r with
  | one v => obtain ⟨u, h1, _⟩ := both_VT h (all_VT_true v); exact ⟨u, h1⟩
  | tup l => obtain ⟨vs, h1, _⟩ := both_VTs h (all_VTs_true l); exact ⟨_, h1⟩

def atomOf : TypeDesc → Atom
  | .int k => .int k
  | .bool => .bool
  | .string => .str
  | .slice _ => .sl
  | .map _ _ => .mp
  | .pointer _ => .ptr
  | _ => .raw

def atomsOf (P : Program) : Nat → TypeId → Option (List Atom)
  | 0, _ => none
  | n + 1, t => match P.underlying t with
    | some (.struct fs) => fs.toList.foldr (fun f l => match atomsOf P n f.type, l with
        | some x, some y => some (x ++ y)
        | _, _ => none) (some [])
    | some (.array m e) => match atomsOf P n e with
        | some x => some (List.replicate m x).flatten
        | none => none
    | some d => some [atomOf d]
    | none => none

def vtOf (P : Program) (t : TypeId) : Option VT := match P.underlying t with
  | some (.struct _) | some (.array _ _) => match atomsOf P 8 t with
    | some l => bif Nat.beq l.length (szOf P t) then some (.agg l) else none
    | none => none
  | some d => some (.one (atomOf d))
  | none => none

def vtsOf (P : Program) : List TypeId → Option (List VT)
  | [] => some []
  | t :: l => match vtOf P t, vtsOf P l with
    | some x, some y => some (x :: y)
    | _, _ => none

def rtOf (P : Program) (t : TypeId) : Option RT := match P.underlying t with
  | some (.tuple ts) => match vtsOf P ts.toList with
    | some l => some (.tup l)
    | none => none
  | _ => match vtOf P t with
    | some v => some (.one v)
    | none => none

/-! ### Operations that leave the heap alone -/
def req : Option Bool → Prop → Prop
  | none, p => p
  | some b, p => b = true → p
def gok : Option Bool → Prop
  | none => True
  | some b => b = true
theorem req.out {g : Option Bool} {p : Prop} (h : req g p) (hg : gok g) : p := by
  cases g with
  | none => exact h
  | some b => exact h hg

/-- Cells that stand one behind the other. -/
def ldList (h : Heap) (p : Addr) : Nat → List Value → Prop
  | _, [] => True
  | i, v :: vs => cellH h (p.add i) = some v ∧ ldList h p (i + 1) vs

def ld (h : Heap) (p : Addr) : Value → Prop
  | .agg vs => ldList h p 0 vs.toList
  | v => cellH h p = some v

def loadF (P : Program) (h : Heap) (t : TypeId) (p : Value) (g : Option Bool) (K : Value → Prop) : Prop :=
  match p, vtOf P t with
  | .pointer (some p), some (.one a) => ∃ x : a.den, req g (cellH h p = some (a.enc x)) ∧ K (a.enc x)
  | .pointer (some p), some (.agg l) => exAtoms l fun vs => req g (ldList h p 0 vs) ∧ K (.agg vs.toArray)
  | _, _ => False

theorem loadCellsFrom_q {P : Program} {h : Heap} {p : Addr} : ∀ (vs : List Value) (i : Nat) (acc : Array Value), ldList h p i vs → QExec P (loadCellsFrom p i vs.length acc) h (acc ++ vs.toArray)
  | [], i, acc, _ => by intro B d; simp [loadCellsFrom]
  | v :: vs, i, acc, ⟨h1, h2⟩ => by
    have ih := loadCellsFrom_q (P := P) vs (i + 1) (acc.push v) h2
    intro B d
    simp only [List.length_cons, loadCellsFrom, Sem.run_bind, run_load]
    rw [cell_mk, h1]
    simp only [Result.andThen_ok]
    rw [ih B d]
    simp

theorem load_one {P : Program} {h : Heap} {t : TypeId} {a : Atom} {p : Addr} {v : Value} (ht : vtOf P t = some (.one a)) (hc : cellH h p = some v) : QExec P (loadVar t p) h v := by
  unfold vtOf at ht
  cases hu : P.underlying t with
  | none => rw [hu] at ht; cases ht
  | some d =>
    rw [hu] at ht
    intro B e
    have hq := QExec.underlying (h := h) hu B e
    have hagg : (isAgg t).run P (mk B e h) = .ok false (mk B e h) := by
      unfold isAgg
      rw [Sem.run_bind, hq]
      cases d <;> first | rfl | (exfalso; revert ht; dsimp only; split <;> first | (intro h; cases h; done) | (cases hb : Nat.beq _ _ <;> intro h <;> cases h))
    unfold loadVar
    rw [Sem.run_bind, hagg]
    simp only [Result.andThen_ok, Bool.false_eq_true, if_false, run_load]
    rw [cell_mk, hc]

theorem load_agg {P : Program} {h : Heap} {t : TypeId} {l : List Atom} {p : Addr} {vs : List Value} (ht : vtOf P t = some (.agg l)) (hl : vs.length = l.length) (hc : ldList h p 0 vs) : QExec P (loadVar t p) h (.agg vs.toArray) := by
  unfold vtOf at ht
  cases hu : P.underlying t with
  | none => rw [hu] at ht; cases ht
  | some d =>
    rw [hu] at ht
    obtain ⟨i, hi⟩ := info_of_underlying hu
    have hagg : (∃ fs, d = .struct fs) ∨ (∃ n e, d = .array n e) := by
      cases d <;> first | exact Or.inl ⟨_, rfl⟩ | exact Or.inr ⟨_, _, rfl⟩ | (simp at ht)
    have hsz : szOf P t = l.length := by
      have hm : (match atomsOf P 8 t with
          | some l => bif Nat.beq l.length (szOf P t) then some (VT.agg l) else none
          | none => none) = some (.agg l) := by
        rcases hagg with ⟨fs, rfl⟩ | ⟨n, e, rfl⟩ <;> exact ht
      split at hm
      · rename_i l' _
        cases hb : Nat.beq l'.length (szOf P t) with
        | false => rw [hb] at hm; cases hm
        | true =>
          rw [hb] at hm
          simp only [cond_true, Option.some.injEq, VT.agg.injEq] at hm
          rw [← hm]; exact (Nat.eq_of_beq_eq_true hb).symm
      · cases hm
    intro B e
    have hq := QExec.underlying (h := h) hu B e
    have hA : (isAgg t).run P (mk B e h) = .ok true (mk B e h) := by
      unfold isAgg
      rw [Sem.run_bind, hq]
      rcases hagg with ⟨fs, rfl⟩ | ⟨n, e', rfl⟩ <;> rfl
    have hS := QExec.sizeOf (h := h) hi B e
    unfold loadVar
    rw [Sem.run_bind, hA]
    simp only [Result.andThen_ok, if_true]
    rw [Sem.run_bind, hS]
    simp only [Result.andThen_ok]
    have hL := loadCellsFrom_q (P := P) vs 0 #[] hc B e
    unfold loadCells
    rw [Sem.run_bind, hsz, ← hl, hL]
    simp

theorem loadF_sound {P : Program} {h : Heap} {t : TypeId} {p : Value} {g : Option Bool} {K : Value → Prop} (H : loadF P h t p g K) :
    ∃ v, K v ∧ (gok g → QExec P (Instr.loadAt t p) h v) := by
  unfold loadF at H
  split at H
  · rename_i q a hv
    obtain ⟨x, h1, h2⟩ := H
    exact ⟨_, h2, fun hg => load_one hv (h1.out hg)⟩
  · rename_i q l hv
    obtain ⟨vs, h0, ⟨h1, h2⟩, _⟩ := both_atoms H (all_atoms_true l)
    exact ⟨_, h2, fun hg => load_agg hv h0 (h1.out hg)⟩
  · exact H.elim

def indexF (P : Program) (t : TypeId) (x i : Value) (g : Option Bool) (K : Value → Prop) : Prop :=
  match P.underlying t with
  | some (.slice el) => match x, i with
    | .slice base len _, .int _ n => ∃ a : Addr, req g (base = some a ∧ 0 ≤ n ∧ n < (len : Int)) ∧ K (.pointer (some (a.add (n.toNat * szOf P el))))
    | _, _ => False
  | some (.array len el) => match x, i with
    | .pointer base, .int _ n => ∃ a : Addr, req g (base = some a ∧ 0 ≤ n ∧ n < (len : Int)) ∧ K (.pointer (some (a.add (n.toNat * szOf P el))))
    | _, _ => False
  | _ => False

def okInfo (P : Program) (t : TypeId) : Bool := match P.info? t with
  | some _ => true
  | none => false
theorem okInfo_some {P : Program} {t : TypeId} (h : okInfo P t = true) : ∃ i, P.info? t = some i := by
  unfold okInfo at h
  split at h
  · exact ⟨_, by assumption⟩
  · cases h

theorem run_sizeOf_cases {P : Program} {h : Heap} (t : TypeId) (B : World) (d : Nat) : (∃ i, P.info? t = some i) → (Go.sizeOf t).run P (mk B d h) = .ok (szOf P t) (mk B d h) := fun ⟨_, hi⟩ => QExec.sizeOf hi B d

theorem indexF_sound {P : Program} {t : TypeId} {x i : Value} {g : Option Bool} {K : Value → Prop}
    (hok : ∀ el, (P.underlying t = some (.slice el) ∨ ∃ n, P.underlying t = some (.array n el)) → ∃ i, P.info? el = some i) (H : indexF P t x i g K) :
    ∃ v, K v ∧ (gok g → ∀ h : Heap, QExec P (Instr.indexAt t x i) h v) := by
  unfold indexF at H
  split at H
  · rename_i el hu
    split at H
    · rename_i base len cap k n
      obtain ⟨a, h1, h2⟩ := H
      refine ⟨_, h2, fun hg => ?_⟩
      obtain ⟨rfl, h3, h4⟩ := h1.out hg
      intro h B d
      have hq := QExec.underlying (h := h) hu B d
      have hs := run_sizeOf_cases (h := h) el B d (hok el (Or.inl hu))
      unfold Instr.indexAt
      simp [asIntOf, Sem.run_bind, hq, hs, h3, h4]
    · exact H.elim
  · rename_i len el hu
    split at H
    · rename_i base k n
      obtain ⟨a, h1, h2⟩ := H
      refine ⟨_, h2, fun hg => ?_⟩
      obtain ⟨rfl, h3, h4⟩ := h1.out hg
      intro h B d
      have hq := QExec.underlying (h := h) hu B d
      have hs := run_sizeOf_cases (h := h) el B d (hok el (Or.inr ⟨_, hu⟩))
      unfold Instr.indexAt
      simp [asIntOf, Sem.run_bind, hq, hs, h3, h4, Instr.sureAddr]
    · exact H.elim
  · exact H.elim

/-- The byte at a place, as a number. -/
def byteAt (s : ByteArray) (i : Nat) : Int := ((s.data[i]?.getD 0).toNat : Int)

def strIndexF (x i : Value) (g : Option Bool) (K : Value → Prop) : Prop :=
  match x, i with
  | .string s, .int _ n => req g (0 ≤ n ∧ n < (s.size : Int)) ∧ K (.int .u8 (byteAt s n.toNat))
  | _, _ => False

theorem ba_get (s : ByteArray) (i : Nat) (h : i < s.size) : s[i]? = some (s.data[i]?.getD 0) := by
  have h' : i < s.data.size := h
  rw [getElem?_pos s i h]
  simp [Array.getElem?_eq_getElem h']
  rfl

theorem strIndexF_sound {P : Program} {t : TypeId} {x i : Value} {g : Option Bool} {K : Value → Prop} (hu : P.underlying t = some .string) (H : strIndexF x i g K) :
    ∃ v, K v ∧ (gok g → ∀ h : Heap, QExec P (Instr.index t x i) h v) := by
  unfold strIndexF at H
  split at H
  · rename_i s k n
    obtain ⟨h1, h2⟩ := H
    refine ⟨_, h2, fun hg => ?_⟩
    obtain ⟨h3, h4⟩ := h1.out hg
    intro h B d
    have hq := QExec.underlying (h := h) hu B d
    unfold Instr.index
    have hb := ba_get s n.toNat (by omega)
    simp only [asIntOf, Sem.run_bind, hq, Sem.run_pure, Result.andThen_ok, h3, if_true, hb, byteAt]
  · exact H.elim

def resl (a : Option Addr) (sz l m : Nat) : Option Addr := if m = l then a else a.map (·.add (l * sz))

def boundOf : Option Value → Int → Option Int
  | none, d => some d
  | some (.int _ n), _ => some n
  | some _, _ => none

def sliceF (P : Program) (t : TypeId) (x : Value) (lo hi mx : Option Value) (g : Option Bool) (K : Value → Prop) : Prop :=
  match P.underlying t with
  | some .string => match x, mx with
    | .string s, none => match boundOf lo 0, boundOf hi (s.size : Int) with
      | some l, some r => req g (0 ≤ l ∧ l ≤ r ∧ r ≤ (s.size : Int)) ∧ K (.string (s.extract l.toNat r.toNat))
      | _, _ => False
    | _, _ => False
  | some (.slice el) => match x with
    | .slice a len cap => match boundOf lo 0, boundOf hi (len : Int), boundOf mx (cap : Int) with
      | some l, some r, some m => (mx = none ∨ ∃ v, hi = some v) ∧ req g (0 ≤ l ∧ l ≤ r ∧ r ≤ m ∧ m ≤ (cap : Int)) ∧ K (.slice (resl a (szOf P el) l.toNat m.toNat) (r.toNat - l.toNat) (m.toNat - l.toNat))
      | _, _, _ => False
    | _ => False
  | _ => False

theorem boundOf_cases {v : Option Value} {d n : Int} (h : boundOf v d = some n) : (v = none ∧ n = d) ∨ ∃ k, v = some (.int k n) := by
  unfold boundOf at h
  split at h
  · exact Or.inl ⟨rfl, by simpa using h.symm⟩
  · simp only [Option.some.injEq] at h
    exact Or.inr ⟨_, by rw [h]⟩
  · cases h

theorem run_bound {P : Program} {h : Heap} {k : IntKind} {n : Int} {y : Nat} {c : BoundsCode} (h0 : 0 ≤ n) (h1 : n ≤ (y : Int)) : QExec P (Instr.sliceBound (.int k n) y c) h n.toNat := by
  intro B d
  simp [Instr.sliceBound, asIntOf, h0, h1]

theorem bounds_str {P : Program} {h : Heap} {n : Nat} {lo hi : Option Value} {l r : Int} (hl : boundOf lo 0 = some l) (hr : boundOf hi (n : Int) = some r) (h3 : 0 ≤ l) (h4 : l ≤ r) (h5 : r ≤ (n : Int)) :
    QExec P (Instr.sliceBounds false n n lo hi none) h (l.toNat, r.toNat, n) := by
  have e : (r.toNat : Int) = r := Int.toNat_of_nonneg (by omega)
  rcases boundOf_cases hl with ⟨rfl, rfl⟩ | ⟨k, rfl⟩ <;> rcases boundOf_cases hr with ⟨rfl, rfl⟩ | ⟨k', rfl⟩
  · exact QExec.pure _
  · exact QExec.bind (QExec.pure n) (QExec.bind (run_bound (by omega) h5) (QExec.pure _))
  · exact QExec.bind (QExec.pure n) (QExec.bind (QExec.pure n) (QExec.bind (run_bound h3 h4) (QExec.pure _)))
  · exact QExec.bind (QExec.pure n) (QExec.bind (run_bound (by omega) h5) (QExec.bind (run_bound h3 (by omega)) (QExec.pure _)))

theorem bounds_slice {P : Program} {h : Heap} {len cap : Nat} {lo hi mx : Option Value} {l r m : Int} (hl : boundOf lo 0 = some l) (hr : boundOf hi (len : Int) = some r) (hm : boundOf mx (cap : Int) = some m)
    (h0 : mx = none ∨ ∃ v, hi = some v) (h3 : 0 ≤ l) (h4 : l ≤ r) (h5 : r ≤ m) (h6 : m ≤ (cap : Int)) :
    QExec P (Instr.sliceBounds true len cap lo hi mx) h (l.toNat, r.toNat, m.toNat) := by
  have e : (r.toNat : Int) = r := Int.toNat_of_nonneg (by omega)
  have e2 : (m.toNat : Int) = m := Int.toNat_of_nonneg (by omega)
  rcases boundOf_cases hm with ⟨rfl, rfl⟩ | ⟨km, rfl⟩
  · rcases boundOf_cases hl with ⟨rfl, rfl⟩ | ⟨k, rfl⟩ <;> rcases boundOf_cases hr with ⟨rfl, rfl⟩ | ⟨k', rfl⟩
    · exact QExec.pure _
    · exact QExec.bind (QExec.pure cap) (QExec.bind (run_bound (by omega) h5) (QExec.pure _))
    · exact QExec.bind (QExec.pure cap) (QExec.bind (QExec.pure len) (QExec.bind (run_bound h3 h4) (QExec.pure _)))
    · exact QExec.bind (QExec.pure cap) (QExec.bind (run_bound (by omega) h5) (QExec.bind (run_bound h3 (by omega)) (QExec.pure _)))
  · rcases h0 with h0 | ⟨v, rfl⟩
    · cases h0
    · rcases boundOf_cases hr with ⟨h9, _⟩ | ⟨k', h9⟩
      · cases h9
      · cases h9
        rcases boundOf_cases hl with ⟨rfl, rfl⟩ | ⟨k, rfl⟩
        · exact QExec.bind (x := m.toNat) (run_bound (by omega) h6) (QExec.bind (run_bound (by omega) (by omega)) (QExec.pure _))
        · exact QExec.bind (x := m.toNat) (run_bound (by omega) h6) (QExec.bind (run_bound (by omega) (by omega)) (QExec.bind (run_bound h3 (by omega)) (QExec.pure _)))

theorem sliceF_sound {P : Program} {t : TypeId} {x : Value} {lo hi mx : Option Value} {g : Option Bool} {K : Value → Prop}
    (hok : ∀ el, P.underlying t = some (.slice el) → ∃ i, P.info? el = some i) (H : sliceF P t x lo hi mx g K) :
    ∃ v, K v ∧ (gok g → ∀ h : Heap, QExec P (Instr.sliceAt t x lo hi mx) h v) := by
  unfold sliceF at H
  split at H
  · rename_i hu
    split at H
    · rename_i s
      split at H
      · rename_i l r hl hr
        obtain ⟨h1, h2⟩ := H
        refine ⟨_, h2, fun hg => ?_⟩
        obtain ⟨h3, h4, h5⟩ := h1.out hg
        intro h B d
        have hq := QExec.underlying (h := h) hu B d
        have bb := bounds_str (P := P) (h := h) hl hr h3 h4 h5 B d
        unfold Instr.sliceAt
        rw [Sem.run_bind, hq]
        simp only [Result.andThen_ok]
        unfold Instr.slice
        rw [Sem.run_bind, hq]
        simp [bb]
      · exact H.elim
    · exact H.elim
  · rename_i el hu
    split at H
    · rename_i a len cap
      split at H
      · rename_i l r m hl hr hm
        obtain ⟨h0, h1, h2⟩ := H
        refine ⟨_, h2, fun hg => ?_⟩
        obtain ⟨h3, h4, h5, h6⟩ := h1.out hg
        intro h B d
        have hq := QExec.underlying (h := h) hu B d
        have hs := run_sizeOf_cases (h := h) el B d (hok el hu)
        have bb := bounds_slice (P := P) (h := h) hl hr hm h0 h3 h4 h5 h6 B d
        unfold Instr.sliceAt
        rw [Sem.run_bind, hq]
        simp only [Result.andThen_ok]
        unfold Instr.slice
        rw [Sem.run_bind, hq]
        simp [bb, hs, resl]
      · exact H.elim
    · exact H.elim
  · exact H.elim
end Go.X
