/-
  A walk by reflection: 'W' turns a function's code into a plain formula over the heap (draws forgotten); 'W_sound' says that the formula implies the call's contract.
  No function of the program is named here.
-/
import Derived.Calls
import Derived.Orders
import Derived.Deep.Quiet
import Derived.StillTail
import Derived.KernelRfl
import Derived.Laws.Sem
namespace Go.X
open Go

abbrev Heap := Array Obj
abbrev Chain := List (Nat × Bool)
abbrev Env := List (Nat × Chain × Value)

/-- The world 'B' with another heap and another count of draws. -/
def mk (B : World) (d : Nat) (h : Heap) : World := { B with heap := h, drawn := d }
theorem mk_self (w : World) : mk w w.drawn w.heap = w := rfl
theorem mk_mk (B : World) (d d' : Nat) (h h' : Heap) : mk (mk B d h) d' h' = mk B d' h' := rfl

/-! ### Environments -/
def look : Env → Nat → Option (Chain × Value)
  | [], _ => none
  | (j, c, v) :: e, i => bif Nat.beq i j then some (c, v) else look e i

def valid (σ : Nat → Value) : Chain → Prop
  | [] => True
  | (g, p) :: c => σ g = .bool p ∧ valid σ c

def vals (a : Act) (i : Nat) : Value := a.tmps.getD i undef

def fact (σ : Nat → Value) (x : Nat × Chain × Value) : Prop := (valid σ x.2.1 → σ x.1 = x.2.2) ∧ (¬ valid σ x.2.1 → σ x.1 = undef)

structure Sat (n : Nat) (e : Env) (a : Act) : Prop where
  defers : a.defers = []
  size : a.tmps.size = n
  all : ∀ x ∈ e, fact (vals a) x

def mentions : Chain → Nat → Bool
  | [], _ => false
  | (g, _) :: c, i => bif Nat.beq i g then true else mentions c i

def del : Env → Nat → Env
  | [], _ => []
  | (j, c, v) :: e, i => bif (bif Nat.beq i j then true else mentions c i) then del e i else (j, c, v) :: del e i

def put (e : Env) (i : Nat) (c : Chain) (v : Value) : Env := (i, c, v) :: del e i
def putO (e : Env) : Option Nat → Chain → Value → Env
  | none, _, _ => e
  | some d, c, v => put e d c v

/-- Only what holds without a guard. -/
def clean : Env → Env
  | [] => []
  | (j, [], v) :: e => (j, [], v) :: clean e
  | (_, _ :: _, _) :: e => clean e

theorem look_mem {e : Env} {i : Nat} {c : Chain} {v : Value} (h : look e i = some (c, v)) : (i, c, v) ∈ e := by
  induction e with
  | nil => cases h
  | cons x e ih =>
    obtain ⟨j, cj, vj⟩ := x
    simp only [look] at h
    by_cases hb : Nat.beq i j = true
    · simp only [hb, cond_true, Option.some.injEq, Prod.mk.injEq] at h
      obtain ⟨rfl, rfl⟩ := h
      rw [Nat.eq_of_beq_eq_true hb]
      exact List.mem_cons_self
    · simp only [hb, cond_false] at h
      exact List.mem_cons_of_mem _ (ih h)

theorem mem_del {e : Env} {i : Nat} {x : Nat × Chain × Value} (h : x ∈ del e i) : x ∈ e ∧ x.1 ≠ i ∧ mentions x.2.1 i = false := by
  induction e with
  | nil => cases h
  | cons y e ih =>
    obtain ⟨j, cj, vj⟩ := y
    simp only [del] at h
    by_cases hb : Nat.beq i j = true
    · simp only [hb, cond_true] at h
      exact ⟨List.mem_cons_of_mem _ (ih h).1, (ih h).2⟩
    · have hb' : Nat.beq i j = false := Bool.eq_false_iff.2 hb
      simp only [hb', cond_false] at h
      by_cases hm : mentions cj i = true
      · simp only [hm, cond_true] at h
        exact ⟨List.mem_cons_of_mem _ (ih h).1, (ih h).2⟩
      · have hm' : mentions cj i = false := by simpa using hm
        simp only [hm', cond_false] at h
        rcases List.mem_cons.1 h with rfl | h
        · refine ⟨List.mem_cons_self, fun hji => ?_, hm'⟩
          simp only at hji
          rw [hji] at hb
          exact hb (by simp)
        · exact ⟨List.mem_cons_of_mem _ (ih h).1, (ih h).2⟩

theorem mem_clean {e : Env} {x : Nat × Chain × Value} (h : x ∈ clean e) : x ∈ e ∧ x.2.1 = [] := by
  induction e with
  | nil => cases h
  | cons y e ih =>
    obtain ⟨j, cj, vj⟩ := y
    cases cj with
    | nil =>
      simp only [clean] at h
      rcases List.mem_cons.1 h with rfl | h
      · exact ⟨List.mem_cons_self, rfl⟩
      · exact ⟨List.mem_cons_of_mem _ (ih h).1, (ih h).2⟩
    | cons c cs =>
      simp only [clean] at h
      exact ⟨List.mem_cons_of_mem _ (ih h).1, (ih h).2⟩

theorem Sat.sub {n : Nat} {e e' : Env} {a : Act} (h : Sat n e a) (hs : ∀ x ∈ e', x ∈ e) : Sat n e' a := ⟨h.defers, h.size, fun x hx => h.all x (hs x hx)⟩
theorem Sat.clean {n : Nat} {e : Env} {a : Act} (h : Sat n e a) : Sat n (clean e) a := h.sub fun _ hx => (mem_clean hx).1

theorem valid_congr {σ τ : Nat → Value} {c : Chain} {i : Nat} (hm : mentions c i = false) (h : ∀ j, j ≠ i → σ j = τ j) : valid σ c ↔ valid τ c := by
  induction c with
  | nil => exact Iff.rfl
  | cons x c ih =>
    obtain ⟨g, p⟩ := x
    simp only [mentions] at hm
    by_cases hb : Nat.beq i g = true
    · simp [hb] at hm
    · simp only [hb, cond_false] at hm
      have hg : g ≠ i := fun e => hb (by rw [e]; simp)
      simp only [valid, h g hg, ih hm]

theorem vals_put {a : Act} {i : Nat} {u : Value} (hi : i < a.tmps.size) : vals (a.put (some i) u) i = u := by
  simp [vals, Act.put, hi]
theorem vals_put_ne {a : Act} {i j : Nat} {u : Value} (h : j ≠ i) : vals (a.put (some i) u) j = vals a j := by
  simp [vals, Act.put, Array.getElem?_setIfInBounds_ne (Ne.symm h)]
theorem size_put (a : Act) (d : Option Nat) (u : Value) : (a.put d u).tmps.size = a.tmps.size := by
  cases d <;> simp [Act.put]
theorem defers_put (a : Act) (d : Option Nat) (u : Value) : (a.put d u).defers = a.defers := by
  cases d <;> simp [Act.put]

theorem Sat.put {n : Nat} {e : Env} {a : Act} (h : Sat n e a) {i : Nat} {c : Chain} {v u : Value} (hi : i < n) (hm : mentions c i = false)
    (hy : valid (vals a) c → u = v) (hn : ¬ valid (vals a) c → u = undef) : Sat n (put e i c v) (a.put (some i) u) := by
  refine ⟨by rw [defers_put]; exact h.defers, by rw [size_put]; exact h.size, fun x hx => ?_⟩
  have hi' : i < a.tmps.size := by rw [h.size]; exact hi
  rcases List.mem_cons.1 hx with rfl | hx
  · have hv := valid_congr (σ := vals (a.put (some i) u)) (τ := vals a) hm (fun j hj => vals_put_ne hj)
    refine ⟨fun hc => ?_, fun hc => ?_⟩
    · exact (vals_put hi').trans (hy (hv.1 hc))
    · exact (vals_put hi').trans (hn (fun hc' => hc (hv.2 hc')))
  · obtain ⟨h1, h2, h3⟩ := mem_del hx
    have hv := valid_congr (σ := vals (a.put (some i) u)) (τ := vals a) h3 (fun j hj => vals_put_ne hj)
    have hf := h.all x h1
    refine ⟨fun hc => ?_, fun hc => ?_⟩
    · exact (vals_put_ne h2).trans (hf.1 (hv.1 hc))
    · exact (vals_put_ne h2).trans (hf.2 (fun hc' => hc (hv.2 hc')))

def okDst (n : Nat) (c : Chain) : Option Nat → Bool
  | none => true
  | some d => bif mentions c d then false else Nat.blt d n

theorem Sat.putO {n : Nat} {e : Env} {a : Act} (h : Sat n e a) {d : Option Nat} {c : Chain} {v u : Value} (hd : okDst n c d = true)
    (hy : valid (vals a) c → u = v) (hn : ¬ valid (vals a) c → u = undef) : Sat n (putO e d c v) (a.put d u) := by
  cases d with
  | none => exact h
  | some i =>
    simp only [okDst] at hd
    by_cases hm : mentions c i = true
    · simp [hm] at hd
    · have hm' : mentions c i = false := by simpa using hm
      simp only [hm', cond_false] at hd
      exact h.put (by simpa [Nat.blt_eq] using hd) hm' hy hn

/-! ### Operands, guards -/
def chainEq : Chain → Chain → Bool
  | [], [] => true
  | (g, p) :: c, (g', p') :: c' => bif Nat.beq g g' then (bif p then (bif p' then chainEq c c' else false) else (bif p' then false else chainEq c c')) else false
  | _, _ => false
theorem chainEq_eq : ∀ {c c' : Chain}, chainEq c c' = true → c = c'
  | [], [], _ => rfl
  | [], _ :: _, h => by simp [chainEq] at h
  | _ :: _, [], h => by simp [chainEq] at h
  | (g, p) :: c, (g', p') :: c', h => by
    simp only [chainEq] at h
    by_cases hb : Nat.beq g g' = true
    · simp only [hb, cond_true] at h
      have e1 := Nat.eq_of_beq_eq_true hb
      cases p <;> cases p' <;> simp at h <;> rw [e1, chainEq_eq h]
    · simp [hb] at h

/-- 'cs' is an end of 'c'. -/
def suf (cs : Chain) : Chain → Bool
  | [] => chainEq cs []
  | x :: c => bif chainEq cs (x :: c) then true else suf cs c
theorem suf_valid {σ : Nat → Value} {cs : Chain} : ∀ {c : Chain}, suf cs c = true → valid σ c → valid σ cs
  | [], h, _ => by rw [chainEq_eq h]; trivial
  | x :: c, h, hv => by
    simp only [suf] at h
    by_cases hb : chainEq cs (x :: c) = true
    · rw [chainEq_eq hb]; exact hv
    · simp only [hb, cond_false] at h
      exact suf_valid h hv.2

def opdAt (e : Env) (c : Chain) : Operand → Option Value
  | .tmp t => match look e t with
    | some (cs, v) => bif suf cs c then some v else none
    | none => none
  | .const v => some v
  | .global g => some (.pointer (some ⟨g, 0, none⟩))
  | .func f => some (.func (.func f) #[] #[])

theorem opdAt_sound {n : Nat} {e : Env} {a : Act} (h : Sat n e a) {c : Chain} (hc : valid (vals a) c) {x : Operand} {v : Value} (hx : opdAt e c x = some v) : a.eval x = v := by
  cases x with
  | tmp t =>
    simp only [opdAt] at hx
    split at hx
    · rename_i cs u hl
      by_cases hs : suf cs c = true
      · simp only [hs, cond_true, Option.some.injEq] at hx
        subst hx
        exact (h.all _ (look_mem hl)).1 (suf_valid hs hc)
      · simp [hs] at hx
    · cases hx
  | const u => simp only [opdAt, Option.some.injEq] at hx; exact hx
  | global g => simp only [opdAt, Option.some.injEq] at hx; exact hx
  | func f => simp only [opdAt, Option.some.injEq] at hx; exact hx

def rho (e : Env) (c : Chain) (x : Operand) : Value := match opdAt e c x with
  | some v => v
  | none => undef

def known (e : Env) (c : Chain) : List Operand → Bool
  | [] => true
  | x :: l => match opdAt e c x with
    | some _ => known e c l
    | none => false

theorem known_sound {n : Nat} {e : Env} {a : Act} (h : Sat n e a) {c : Chain} (hc : valid (vals a) c) {l : List Operand} (hk : known e c l = true) : ∀ x ∈ l, a.eval x = rho e c x := by
  induction l with
  | nil => intro x hx; cases hx
  | cons y l ih =>
    intro x hx
    simp only [known] at hk
    split at hk
    · rename_i v hv
      rcases List.mem_cons.1 hx with rfl | hx
      · rw [opdAt_sound h hc hv]; simp [rho, hv]
      · exact ih hk x hx
    · cases hk

def noSel : Op → Bool
  | .select _ _ => false
  | _ => true

theorem exec_rho {n : Nat} {e : Env} {a : Act} (h : Sat n e a) {c : Chain} (hc : valid (vals a) c) {o : Oper} (hs : noSel o.op = true) (hk : known e c o.op.operands.toList = true) :
    execOp a.eval o = execOp (rho e c) o :=
  execOp_congr o (fun cs b hb => by rw [hb] at hs; cases hs) fun x hx => known_sound h hc hk x (by simpa using hx)

def dstOf (ops : Array Oper) (j : Nat) : Option Nat := match ops[j]? with
  | some o => o.dst
  | none => none

def chainOf (ops : Array Oper) (e : Env) : Option (Nat × Bool) → Option Chain
  | none => some []
  | some (j, p) => match dstOf ops j with
    | some g => match look e g with
      | some (cg, .bool _) => some ((g, p) :: cg)
      | _ => none
    | none => none

def condE (e : Env) : Chain → Option Bool
  | [] => some true
  | (g, p) :: c => match look e g with
    | some (cg, .bool b) => bif chainEq cg c then (match condE e c with
        | some cb => some (cb && (bif p then b else !b))
        | none => none) else none
    | _ => none

theorem undef_ne_bool {b : Bool} : undef ≠ .bool b := by simp [undef]

theorem condE_sound {n : Nat} {e : Env} {a : Act} (h : Sat n e a) : ∀ {c : Chain} {b : Bool}, condE e c = some b → (b = true ↔ valid (vals a) c)
  | [], b, hb => by simp only [condE, Option.some.injEq] at hb; simp [← hb, valid]
  | (g, p) :: c, b, hb => by
    simp only [condE] at hb
    split at hb
    · rename_i cg bg hl
      by_cases hq : chainEq cg c = true
      · simp only [hq, cond_true] at hb
        split at hb
        · rename_i cb hcb
          simp only [Option.some.injEq] at hb
          have ih := condE_sound h hcb
          have hf := h.all _ (look_mem hl)
          rw [chainEq_eq hq] at hf
          by_cases hv : valid (vals a) c
          · have h1 : vals a g = .bool bg := hf.1 hv
            have h2 := ih.2 hv
            subst hb
            simp only [valid, h1, hv, h2, Bool.true_and, and_true, Value.bool.injEq]
            cases p <;> cases bg <;> simp
          · have h1 : cb = false := by cases cb with | false => rfl | true => exact absurd (ih.1 rfl) hv
            subst hb
            simp [valid, hv, h1]
        · cases hb
      · simp [hq] at hb
    · cases hb

theorem wanted_sound {n : Nat} {ops : Array Oper} {e : Env} {a : Act} (h : Sat n e a) {o : Oper} {c : Chain} (hc : chainOf ops e o.guard = some c) :
    Region.wanted o (yielded ops a.tmps) = true ↔ valid (vals a) c := by
  unfold Region.wanted
  cases hg : o.guard with
  | none => rw [hg] at hc; simp only [chainOf, Option.some.injEq] at hc; simp [← hc, valid]
  | some jp =>
    obtain ⟨j, p⟩ := jp
    rw [hg] at hc
    simp only [chainOf] at hc
    split at hc
    · rename_i g hd
      split at hc
      · rename_i cg b hl
        simp only [Option.some.injEq] at hc
        subst hc
        have hd' : ((ops[j]?).bind (·.dst)) = some g := by
          simp only [dstOf] at hd
          split at hd
          · rename_i o' ho'; simp [ho', hd]
          · cases hd
        have hf := h.all _ (look_mem hl)
        have hy : yielded ops a.tmps j = some p ↔ vals a g = .bool p := by
          unfold yielded vals
          rw [hd']
          simp only [Option.bind_some]
          cases ht : a.tmps[g]? with
          | none => simp [Array.getD_eq_getD_getElem?, ht, undef]
          | some v => cases v <;> simp [Array.getD_eq_getD_getElem?, ht]
        simp only [beq_iff_eq, hy, valid]
        constructor
        · intro h1
          refine ⟨h1, ?_⟩
          by_cases hv : valid (vals a) cg
          · exact hv
          · have := hf.2 hv
            simp only at this
            rw [h1] at this
            exact absurd this.symm undef_ne_bool
        · exact fun h1 => h1.1
      · cases hc
    · cases hc
/-! ### What is kept -/
/-- Below block n the heap is as it was, and no block has gone. -/
structure Keep (n : Nat) (h h' : Heap) : Prop where
  size : h.size ≤ h'.size
  get : ∀ i, i < n → h'[i]? = h[i]?
theorem Keep.refl (n : Nat) (h : Heap) : Keep n h h := ⟨Nat.le_refl _, fun _ _ => rfl⟩
theorem Keep.trans {n m : Nat} {a b c : Heap} (h : Keep n a b) (k : Keep m b c) (hm : n ≤ m) : Keep n a c :=
  ⟨Nat.le_trans h.size k.size, fun i hi => (k.get i (Nat.lt_of_lt_of_le hi hm)).trans (h.get i hi)⟩
theorem Keep.mono {n m : Nat} {a b : Heap} (h : Keep n a b) (hm : m ≤ n) : Keep m a b := ⟨h.size, fun i hi => h.get i (Nat.lt_of_lt_of_le hi hm)⟩
theorem Keep.push {n : Nat} (h : Heap) (o : Obj) (hn : n ≤ h.size) : Keep n h (h.push o) :=
  ⟨by simp, fun i hi => by rw [Array.getElem?_push, if_neg (by omega)]⟩
end Go.X
