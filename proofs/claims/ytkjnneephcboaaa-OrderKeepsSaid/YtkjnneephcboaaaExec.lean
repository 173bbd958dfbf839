/-
  One operation, whatever it is; a row of operations; a region.
-/
import Derived.Test.YtkjnneephcboaaaStep
namespace Go.X
open Go

/-- A call: from every world with this heap it returns, and leaves a world with another heap (the streams as they were). -/
def XC (P : Program) (f : FuncId) (args : Array Value) (h : Heap) (R : Value → Heap → Prop) : Prop :=
  ∀ B d, Calls P f args (mk B d h) fun e w' => ∃ v d' h', e = .returned v ∧ w' = mk B d' h' ∧ R v h'

theorem XC.mono {P : Program} {f : FuncId} {args : Array Value} {h : Heap} {R R' : Value → Heap → Prop} (H : XC P f args h R) (hR : ∀ v h', R v h' → R' v h') : XC P f args h R' :=
  fun B d => (H B d).mono fun _ _ ⟨v, d', h', e1, e2, r⟩ => ⟨v, d', h', e1, e2, hR _ _ r⟩

def XRun (P : Program) (s : Sem Value) (h : Heap) (K : Value → Heap → Prop) : Prop := ∀ B d, ∃ v d' h', s.run P (mk B d h) = .ok v (mk B d' h') ∧ K v h'
def XRunU (P : Program) (s : Sem Unit) (h : Heap) (K : Heap → Prop) : Prop := ∀ B d, ∃ d' h', s.run P (mk B d h) = .ok () (mk B d' h') ∧ K h'

theorem XRun.mono {P : Program} {s : Sem Value} {h : Heap} {K K' : Value → Heap → Prop} (H : XRun P s h K) (hK : ∀ v h', K v h' → K' v h') : XRun P s h K' :=
  fun B d => let ⟨v, d', h', e, k⟩ := H B d; ⟨v, d', h', e, hK _ _ k⟩
theorem XRunU.mono {P : Program} {s : Sem Unit} {h : Heap} {K K' : Heap → Prop} (H : XRunU P s h K) (hK : ∀ h', K h' → K' h') : XRunU P s h K' :=
  fun B d => let ⟨d', h', e, k⟩ := H B d; ⟨d', h', e, hK _ k⟩
theorem XRun.of_q {P : Program} {s : Sem Value} {h : Heap} {v : Value} {K : Value → Heap → Prop} (H : QExec P s h v) (hK : K v h) : XRun P s h K := fun B d => ⟨v, d, h, H B d, hK⟩

def fits63 (n : Nat) : Prop := n ≤ 9223372036854775807

def pureF (P : Program) (s : Sem Next) (K : Value → Prop) : Prop := match evalPure P s with
  | some (.value v) => K v
  | _ => False

def qrunF (P : Program) (ty : TypeId) (s : Sem Value) (g : Option Bool) (h : Heap) (K : Value → Prop) : Prop := match rtOf P ty with
  | some rt => exRT rt fun v => req g (QExec P s h v) ∧ K v
  | none => False

def binF (P : Program) (s : Sem Next) (op : BinOp) (x y : Value) (g : Option Bool) (K : Value → Prop) : Prop :=
  match op, x, y with
  | .quo, .int k a, .int k' b => k = k' ∧ req g (b ≠ 0) ∧ K (.int k (k.wrap (a.tdiv b)))
  | .rem, .int k a, .int k' b => k = k' ∧ req g (b ≠ 0) ∧ K (.int k (a.tmod b))
  | .add, .string a, .string b => req g (fits63 (a.size + b.size)) ∧ K (.string (a ++ b))
  | _, _, _ => pureF P s K

def isLen : Builtin → Bool
  | .len => true
  | _ => false
def isMapV : Value → Bool
  | .map _ => true
  | _ => false

/-- The builtin's own run. -/
def builtinSem (b : Builtin) (argTypes : Array TypeId) (type : TypeId) (args : Array Value) : Option (Sem Value) :=
  match b with
  | .append => some (Builtin.append_ argTypes type args)
  | .copy => some (Builtin.copy_ argTypes type args)
  | .clear => some (Builtin.clear_ argTypes type args)
  | .delete => some (Builtin.delete_ argTypes type args)
  | .len => some (Builtin.len_ argTypes type args)
  | _ => none

def lenF (P : Program) (s : Sem Next) (ty : TypeId) (argTypes : Array TypeId) (args : Array Value) (g : Option Bool) (h : Heap) (K : Value → Prop) : Prop :=
  match (args[0]? : Option Value) with
  | some (Value.map _) => qrunF P ty (Builtin.len_ argTypes ty args) g h K
  | _ => pureF P s K

def elemOk (P : Program) (t : TypeId) : Bool := match P.underlying t with
  | some (.slice el) => okInfo P el
  | some (.array _ el) => okInfo P el
  | _ => true
theorem elemOk_some {P : Program} {t : TypeId} (h : elemOk P t = true) : ∀ el, (P.underlying t = some (.slice el) ∨ ∃ n, P.underlying t = some (.array n el)) → ∃ i, P.info? el = some i := by
  intro el hel
  unfold elemOk at h
  rcases hel with hel | ⟨n, hel⟩ <;> rw [hel] at h <;> exact okInfo_some h

def isStrT (P : Program) (t : TypeId) : Bool := match P.underlying t with
  | some .string => true
  | _ => false
theorem isStrT_eq {P : Program} {t : TypeId} (h : isStrT P t = true) : P.underlying t = some .string := by
  unfold isStrT at h
  split at h
  · assumption
  · cases h

def nilF (P : Program) (s : Sem Next) (x : Value) (g : Option Bool) (K : Value → Prop) : Prop := match x with
  | .pointer p => ∃ a : Addr, req g (p = some a) ∧ K (.pointer (some a))
  | _ => pureF P s K

/-- An operation that leaves the heap alone. -/
def stepQ (P : Program) (o : Oper) (ρ : Operand → Value) (g : Option Bool) (h : Heap) (K : Value → Prop) : Prop :=
  match o.op with
  | .load t a => loadF P h t (ρ a) g K
  | .indexAddr t x i => bif elemOk P t then indexF P t (ρ x) (ρ i) g K else False
  | .index t x i => bif isStrT P t then strIndexF (ρ x) (ρ i) g K else pureF P (execOp ρ o) K
  | .slice t x lo hi mx => bif elemOk P t then sliceF P t (ρ x) (lo.map ρ) (hi.map ρ) (mx.map ρ) g K else False
  | .binOp op _ x y _ => binF P (execOp ρ o) op (ρ x) (ρ y) g K
  | .lookup t m k ok => qrunF P o.type (Instr.lookup t (ρ m) (ρ k) ok) g h K
  | .nilCheck x => nilF P (execOp ρ o) (ρ x) g K
  | .call c => match c.callee with
    | .builtin .len => lenF P (execOp ρ o) o.type c.argTypes (c.args.map ρ) g h K
    | _ => pureF P (execOp ρ o) K
  | _ => pureF P (execOp ρ o) K

theorem pureF_sound {P : Program} {s : Sem Next} {K : Value → Prop} (H : pureF P s K) (g : Option Bool) : ∃ v, K v ∧ (gok g → ∀ h : Heap, QExec P s h (.value v)) := by
  unfold pureF at H
  split at H
  · rename_i v hv
    exact ⟨v, H, fun _ h => evalPure_sound hv h⟩
  · exact H.elim

theorem qrunF_sound {P : Program} {ty : TypeId} {s : Sem Value} {g : Option Bool} {h : Heap} {K : Value → Prop} (H : qrunF P ty s g h K) : ∃ v, K v ∧ (gok g → QExec P s h v) := by
  unfold qrunF at H
  split at H
  · obtain ⟨v, h1, h2⟩ := some_RT H
    exact ⟨v, h2, fun hg => h1.out hg⟩
  · exact H.elim

theorem eqGuard_other {op : BinOp} (t : TypeId) (x y : Operand) (a b : Value) (h1 : (op matches .eql | .neq) = false) : eqGuard op t x y a b = pure () := by
  unfold eqGuard
  cases op <;> simp at h1 <;> rfl

theorem atHeap {P : Program} {s : Sem Next} {K : Value → Prop} {g : Option Bool} (h : Heap) (H : ∃ v, K v ∧ (gok g → ∀ h : Heap, QExec P s h (.value v))) : ∃ v, K v ∧ (gok g → QExec P s h (.value v)) :=
  let ⟨v, h1, h2⟩ := H; ⟨v, h1, fun hg => h2 hg h⟩
theorem binF_all {P : Program} {o : Oper} {ρ : Operand → Value} {op : BinOp} {t t' : TypeId} {x y : Operand} (ho : o.op = .binOp op t x y t') {g : Option Bool} {K : Value → Prop}
    (H : binF P (execOp ρ o) op (ρ x) (ρ y) g K) : ∃ v, K v ∧ (gok g → ∀ h : Heap, QExec P (execOp ρ o) h (.value v)) := by
  unfold binF at H
  split at H
  · rename_i k a k' b hx hy
    obtain ⟨rfl, h1, h2⟩ := H
    refine ⟨_, h2, fun hg => ?_⟩
    have hb := h1.out hg
    intro h B d
    simp only [execOp, ho, hx, hy]
    rw [eqGuard_other _ _ _ _ _ rfl]
    simp [binOp, Op.intDiv, hb]
  · rename_i k a k' b hx hy
    obtain ⟨rfl, h1, h2⟩ := H
    refine ⟨_, h2, fun hg => ?_⟩
    have hb := h1.out hg
    intro h B d
    simp only [execOp, ho, hx, hy]
    rw [eqGuard_other _ _ _ _ _ rfl]
    simp [binOp, Op.intDiv, hb]
  · rename_i a b hx hy
    obtain ⟨h1, h2⟩ := H
    refine ⟨_, h2, fun hg => ?_⟩
    have hb := h1.out hg
    intro h B d
    simp only [execOp, ho, hx, hy]
    rw [eqGuard_other _ _ _ _ _ rfl]
    have hm : ¬ ((a.size + b.size : Nat) : Int) > IntKind.i64.max := by
      unfold fits63 at hb
      have : IntKind.i64.max = 9223372036854775807 := by decide
      omega
    simp only [binOp, Op.stringOp, if_neg hm]
    rfl
  · exact pureF_sound H g

theorem lenF_sound {P : Program} {o : Oper} {ρ : Operand → Value} {c : Call} (ho : o.op = .call c) (hc : c.callee = .builtin .len) {g : Option Bool} {h : Heap} {K : Value → Prop}
    (H : lenF P (execOp ρ o) o.type c.argTypes (c.args.map ρ) g h K) : ∃ v, K v ∧ (gok g → QExec P (execOp ρ o) h (.value v)) := by
  unfold lenF at H
  split at H
  · obtain ⟨v, h1, h2⟩ := qrunF_sound H
    refine ⟨v, h1, fun hg => ?_⟩
    have := h2 hg
    intro B d
    simp only [execOp, ho, resolve, hc, Sem.run_bind, Sem.run_pure, Result.andThen_ok, invoke, builtin]
    rw [this B d]
    rfl
  · exact atHeap h (pureF_sound H g)

theorem stepQ_sound {P : Program} {o : Oper} {ρ : Operand → Value} {g : Option Bool} {h : Heap} {K : Value → Prop} (H : stepQ P o ρ g h K) : ∃ v, K v ∧ (gok g → QExec P (execOp ρ o) h (.value v)) := by
  unfold stepQ at H
  split at H
  · rename_i t a ho
    obtain ⟨v, h1, h2⟩ := loadF_sound H
    refine ⟨v, h1, fun hg => ?_⟩
    simp only [execOp, ho]
    exact (h2 hg).val
  · rename_i t x i ho
    cases he : elemOk P t with
    | false => rw [he] at H; exact H.elim
    | true =>
      rw [he] at H
      obtain ⟨v, h1, h2⟩ := indexF_sound (elemOk_some he) H
      refine ⟨v, h1, fun hg => ?_⟩
      simp only [execOp, ho]
      exact (h2 hg h).val
  · rename_i t x i ho
    cases he : isStrT P t with
    | false => rw [he] at H; exact atHeap h (pureF_sound H g)
    | true =>
      rw [he] at H
      obtain ⟨v, h1, h2⟩ := strIndexF_sound (isStrT_eq he) H
      refine ⟨v, h1, fun hg => ?_⟩
      simp only [execOp, ho]
      exact (h2 hg h).val
  · rename_i t x lo hi mx ho
    cases he : elemOk P t with
    | false => rw [he] at H; exact H.elim
    | true =>
      rw [he] at H
      obtain ⟨v, h1, h2⟩ := sliceF_sound (fun el hel => elemOk_some he el (Or.inl hel)) H
      refine ⟨v, h1, fun hg => ?_⟩
      simp only [execOp, ho]
      exact (h2 hg h).val
  · rename_i op t x y t' ho
    exact atHeap h (binF_all ho H)
  · rename_i t m k ok ho
    obtain ⟨v, h1, h2⟩ := qrunF_sound H
    refine ⟨v, h1, fun hg => ?_⟩
    simp only [execOp, ho]
    exact (h2 hg).val
  · rename_i x ho
    unfold nilF at H
    split at H
    · rename_i p hx
      obtain ⟨a, h1, h2⟩ := H
      refine ⟨_, h2, fun hg => ?_⟩
      have hp := h1.out hg
      subst hp
      intro B d
      simp only [execOp, ho, hx]
      rfl
    · exact atHeap h (pureF_sound H g)
  · rename_i c ho
    split at H
    · rename_i hc
      exact lenF_sound ho hc H
    · exact atHeap h (pureF_sound H g)
  · exact atHeap h (pureF_sound H g)

/-- The operations that tell the same at every heap that keeps this one. -/
def famOk (o : Oper) : Bool := match o.op with
  | .lookup .. => false
  | .call c => match c.callee with
    | .builtin .len => false
    | _ => true
  | _ => true

theorem cellH_lt {h : Heap} {p : Addr} {v : Value} (H : cellH h p = some v) : p.block < h.size := by
  unfold cellH at H
  cases e : h[p.block]? with
  | none => simp [e] at H
  | some o => exact (Array.getElem?_eq_some_iff.1 e).1
theorem cellH_keep' {h h' : Heap} (k : Keep h.size h h') {p : Addr} {v : Value} (H : cellH h p = some v) : cellH h' p = some v := by
  have := cellH_lt H
  unfold cellH at H ⊢
  rw [k.get _ this]; exact H
theorem ldList_keep {h h' : Heap} (k : Keep h.size h h') {p : Addr} : ∀ {vs : List Value} {i : Nat}, ldList h p i vs → ldList h' p i vs
  | [], _, _ => trivial
  | _ :: _, _, ⟨h1, h2⟩ => ⟨cellH_keep' k h1, ldList_keep k h2⟩

theorem stepQ_keep {P : Program} {o : Oper} {ρ : Operand → Value} {g : Option Bool} {h : Heap} {K : Value → Prop} (hf : famOk o = true) (H : stepQ P o ρ g h K) : ∃ v, K v ∧ (gok g → ∀ h', Keep h.size h h' → QExec P (execOp ρ o) h' (.value v)) := by
  unfold stepQ at H
  split at H
  · rename_i t a ho
    unfold loadF at H
    split at H
    · rename_i q b hp hv
      obtain ⟨x, h1, h2⟩ := H
      refine ⟨_, h2, fun hg h' hk => ?_⟩
      simp only [execOp, ho, hp]
      exact (load_one hv (cellH_keep' hk (h1.out hg))).val
    · rename_i q l hp hv
      obtain ⟨vs, h0, ⟨h1, h2⟩, _⟩ := both_atoms H (all_atoms_true l)
      refine ⟨_, h2, fun hg h' hk => ?_⟩
      simp only [execOp, ho, hp]
      exact (load_agg hv h0 (ldList_keep hk (h1.out hg))).val
    · exact H.elim
  · rename_i t x i ho
    cases he : elemOk P t with
    | false => rw [he] at H; exact H.elim
    | true =>
      rw [he] at H
      obtain ⟨v, h1, h2⟩ := indexF_sound (elemOk_some he) H
      refine ⟨v, h1, fun hg h' _ => ?_⟩
      simp only [execOp, ho]
      exact (h2 hg h').val
  · rename_i t x i ho
    cases he : isStrT P t with
    | false =>
      rw [he] at H
      obtain ⟨v, h1, h2⟩ := pureF_sound H g
      exact ⟨v, h1, fun hg h' _ => h2 hg h'⟩
    | true =>
      rw [he] at H
      obtain ⟨v, h1, h2⟩ := strIndexF_sound (isStrT_eq he) H
      refine ⟨v, h1, fun hg h' _ => ?_⟩
      simp only [execOp, ho]
      exact (h2 hg h').val
  · rename_i t x lo hi mx ho
    cases he : elemOk P t with
    | false => rw [he] at H; exact H.elim
    | true =>
      rw [he] at H
      obtain ⟨v, h1, h2⟩ := sliceF_sound (fun el hel => elemOk_some he el (Or.inl hel)) H
      refine ⟨v, h1, fun hg h' _ => ?_⟩
      simp only [execOp, ho]
      exact (h2 hg h').val
  · rename_i op t x y t' ho
    obtain ⟨v, h1, h2⟩ := binF_all ho H
    exact ⟨v, h1, fun hg h' _ => h2 hg h'⟩
  · rename_i t m k ok ho
    simp [famOk, ho] at hf
  · rename_i x ho
    unfold nilF at H
    split at H
    · rename_i p hx
      obtain ⟨a, h1, h2⟩ := H
      refine ⟨_, h2, fun hg h' _ => ?_⟩
      have hp := h1.out hg
      subst hp
      intro B d
      simp only [execOp, ho, hx]
      rfl
    · obtain ⟨v, h1, h2⟩ := pureF_sound H g
      exact ⟨v, h1, fun hg h' _ => h2 hg h'⟩
  · rename_i c ho
    split at H
    · rename_i hc
      simp [famOk, ho, hc] at hf
    · obtain ⟨v, h1, h2⟩ := pureF_sound H g
      exact ⟨v, h1, fun hg h' _ => h2 hg h'⟩
  · obtain ⟨v, h1, h2⟩ := pureF_sound H g
    exact ⟨v, h1, fun hg h' _ => h2 hg h'⟩

/-! ### Operations that may turn the heap -/
def wpN (P : Program) {α : Type} : Sem α → Heap → (α → Heap → Prop) → Prop
  | .pure a, h, K => K a h
  | .program k, h, K => wpN P (k P) h K
  | .mark _ k, h, K => wpN P k h K
  | .new o k, h, K => wpN P (k h.size) (h.push o) K
  | _, _, _ => False

theorem wpN_sound {P : Program} {α : Type} {s : Sem α} {h : Heap} {K : α → Heap → Prop} (H : wpN P s h K) (B : World) (d : Nat) : ∃ x h', s.run P (mk B d h) = .ok x (mk B d h') ∧ K x h' := by
  induction s generalizing h with
  | pure a => exact ⟨a, h, rfl, H⟩
  | program k ih => exact ih P H
  | mark m k ih => exact ih H
  | new o k ih =>
    obtain ⟨x, h', h1, h2⟩ := ih h.size H
    exact ⟨x, h', h1, h2⟩
  | _ => exact H.elim

/-- A result of this type, of which so much is known. -/
def typed (P : Program) (ty : TypeId) (v : Value) (K : Value → Prop) : Prop := match rtOf P ty with
  | some rt => exRT rt fun v' => v = v' ∧ K v'
  | none => False
theorem typed_out {P : Program} {ty : TypeId} {v : Value} {K : Value → Prop} (H : typed P ty v K) : K v := by
  unfold typed at H
  split at H
  · obtain ⟨v', h1, h2⟩ := some_RT H; rw [h1]; exact h2
  · exact H.elim

/-- A function that a call enters as any other. -/
def callable (P : Program) (f : FuncId) : Bool := match P.funcs[f]? with
  | some fn => (match fn.body with
    | some _ => true
    | none => false) && !(fn.name == "runtime.NumGoroutine")
  | none => false

theorem callFunc_run {P : Program} {f : FuncId} (h : callable P f = true) (args : Array Value) (w : World) : (callFunc f args).run P w = .ok (.enter f args) w := by
  unfold callable at h
  split at h
  · rename_i fn hf
    simp only [Bool.and_eq_true, Bool.not_eq_true'] at h
    obtain ⟨h1, h2⟩ := h
    unfold callFunc
    simp only [program, Sem.run_bind, Sem.run, Result.andThen_ok, hf]
    split at h1
    · rename_i b hb
      simp [h2, hb]
    · cases h1
  · cases h

/-- A call of a function value. -/
def dynF (P : Program) (v : Value) (args : Array Value) (K : FuncId → Array Value → Prop) : Prop := match v with
  | .func (.func f) first cap => callable P f = true ∧ K f (first ++ args ++ cap)
  | _ => False

theorem dynF_sound {P : Program} {o : Oper} {ρ : Operand → Value} {c : Call} {x : Operand} (ho : o.op = .call c) (hc : c.callee = .value x) {K : FuncId → Array Value → Prop} (H : dynF P (ρ x) (c.args.map ρ) K) :
    ∃ f args, K f args ∧ ∀ w, (execOp ρ o).run P w = .ok (.enter f args) w := by
  unfold dynF at H
  split at H
  · rename_i f first cap hv
    obtain ⟨h1, h2⟩ := H
    refine ⟨_, _, h2, fun w => ?_⟩
    simp only [execOp, ho, resolve, hc, hv, Deferred.ofValue, Sem.run_bind, Sem.run_pure, Result.andThen_ok, invoke]
    exact callFunc_run h1 _ w
  · exact H.elim

/-- The callee is a function of the program, named in the text. -/
def isStatic : Operand → Bool
  | .func _ => true
  | _ => false

/-- What may turn the heap, without a guard. -/
def heavyF (P : Program) (o : Oper) (ρ : Operand → Value) (h : Heap) (K : Value → Heap → Prop) : Prop :=
  match o.op with
  | .store t a x => XRunU P (Instr.storeAt t (ρ a) (ρ x)) h fun h' => K undef h'
  | .mapUpdate t m k x => XRunU P (Instr.mapUpdate t (ρ m) (ρ k) (ρ x)) h fun h' => K undef h'
  | .insert t m k x => XRunU P (Instr.mapUpdate t (ρ m) (ρ k) (ρ x)) h fun h' => K undef h'
  | .entryStore t m s x => XRunU P (Instr.entryStore t (ρ m) (ρ s) (ρ x)) h fun h' => K undef h'
  | .mapEntry t m k => XRun P (Instr.mapEntry t (ρ m) (ρ k)) h fun v h' => typed P o.type v fun v' => K v' h'
  | .makeSlice t l c => XRun P (Instr.makeSlice t (ρ l) (ρ c)) h fun v h' => typed P o.type v fun v' => K v' h'
  | .convert s t x => XRun P (convert s t (ρ x)) h fun v h' => typed P o.type v fun v' => K v' h'
  | .typeAssert x t t' ok => XRun P (Instr.typeAssert (ρ x) t t' ok) h fun v h' => typed P o.type v fun v' => K v' h'
  | .call c => match c.callee with
    | .builtin b => match builtinSem b c.argTypes o.type (c.args.map ρ) with
      | some s => XRun P s h fun v h' => typed P o.type v fun v' => K v' h'
      | none => False
    | .value x => bif isStatic x then (wpN P (execOp ρ o) h fun nx h' => match nx with
      | .enter f args => XC P f args h' fun v h'' => typed P o.type v fun v' => K v' h''
      | .value v => K v h'
      | _ => False) else dynF P (ρ x) (c.args.map ρ) fun f args => XC P f args h fun v h'' => typed P o.type v fun v' => K v' h''
    | _ => False
  | _ => wpN P (execOp ρ o) h fun nx h' => match nx with
      | .value v => K v h'
      | .skip => K undef h'
      | _ => False

def heavyB : Builtin → Bool
  | .append | .copy | .clear | .delete => true
  | _ => false
def plainConv (P : Program) (s t : TypeId) : Bool := match P.underlying s, P.underlying t with
  | some (.int _), some (.int _) => true
  | some .string, some .string => true
  | _, _ => false

def isQ (P : Program) (o : Oper) : Bool :=
  match o.op with
  | .load _ _ | .indexAddr _ _ _ | .index _ _ _ | .slice _ _ _ _ _ | .binOp _ _ _ _ _ | .lookup _ _ _ _ | .nilCheck _ => true
  | .move _ | .assign _ | .unOp _ _ _ | .build _ _ | .makeFunc _ _ _ | .makeInterface _ _ | .extract _ _ | .field _ _ _ | .fieldAddr _ _ _ => true
  | .convert s t _ => plainConv P s t
  | .call c => match c.callee with
    | .builtin b => !heavyB b
    | _ => false
  | _ => false

/-- Under a guard: what holds behind it either way. -/
def heavyG (P : Program) (o : Oper) (ρ : Operand → Value) (b : Bool) (h : Heap) (K : Value → Heap → Prop) : Prop :=
  match rtOf P o.type with
  | some rt => ∃ J : Value → Heap → Prop, (b = true → heavyF P o ρ h J) ∧ (b = false → exRT rt fun v => J v h) ∧ (b = true → ∀ v h', J v h' → exRT rt fun v' => v = v') ∧ allRT rt fun v => ∀ h', J v h' → K v h'
  | none => False

def stepW (P : Program) (o : Oper) (ρ : Operand → Value) (g : Option Bool) (h : Heap) (K : Value → Heap → Prop) : Prop :=
  bif isQ P o then stepQ P o ρ g h (fun v => K v h) else match g with
    | none => heavyF P o ρ h K
    | some b => heavyG P o ρ b h K

/-- What 'Oper.upon' asks, where the operation goes on. -/
theorem upon_value {P : Program} {o : Oper} {a : Act} {next : Act → World → Prop} {Q : Exit → Act → World → Prop} {s : Sem Next} {w w' : World} {v : Value} (h : s.run P w = .ok (.value v) w') (hn : next (a.put o.dst v) w') :
    o.upon P a next Q (s.run P w) := by rw [h]; exact hn
theorem upon_skip {P : Program} {o : Oper} {a : Act} {next : Act → World → Prop} {Q : Exit → Act → World → Prop} {s : Sem Next} {w w' : World} (h : s.run P w = .ok .skip w') (hn : next (a.put o.dst undef) w') :
    o.upon P a next Q (s.run P w) := by rw [h]; exact hn

theorem run_v {P : Program} {s : Sem Value} {w w' : World} {v : Value} (h : s.run P w = .ok v w') : (s >>= fun x => (Pure.pure (Next.value x) : Sem Next)).run P w = .ok (.value v) w' := by
  rw [Sem.run_bind, h]; rfl
theorem run_u {P : Program} {s : Sem Unit} {w w' : World} (h : s.run P w = .ok () w') : (s >>= fun _ => (Pure.pure Next.skip : Sem Next)).run P w = .ok .skip w' := by
  rw [Sem.run_bind, h]; rfl

theorem heavyF_sound {P : Program} {o : Oper} {ρ : Operand → Value} {h : Heap} {K : Value → Heap → Prop} (H : heavyF P o ρ h K) (B : World) (d : Nat) {a : Act} {next : Act → World → Prop} {Q : Exit → Act → World → Prop}
    (hn : ∀ v d' h', K v h' → next (a.put o.dst v) (mk B d' h')) : o.upon P a next Q ((execOp ρ o).run P (mk B d h)) := by
  unfold heavyF at H
  split at H
  case h_1 t x y ho =>
    obtain ⟨d', h', h1, h2⟩ := H B d
    exact upon_skip (by simp only [execOp, ho]; exact run_u h1) (hn _ _ _ h2)
  case h_2 t m k x ho =>
    obtain ⟨d', h', h1, h2⟩ := H B d
    exact upon_skip (by simp only [execOp, ho]; exact run_u h1) (hn _ _ _ h2)
  case h_3 t m k x ho =>
    obtain ⟨d', h', h1, h2⟩ := H B d
    exact upon_skip (by simp only [execOp, ho]; exact run_u h1) (hn _ _ _ h2)
  case h_4 t m s x ho =>
    obtain ⟨d', h', h1, h2⟩ := H B d
    exact upon_skip (by simp only [execOp, ho]; exact run_u h1) (hn _ _ _ h2)
  case h_5 t m k ho =>
    obtain ⟨v, d', h', h1, h2⟩ := H B d
    exact upon_value (by simp only [execOp, ho]; exact run_v h1) (hn _ _ _ (typed_out h2))
  case h_6 t l c ho =>
    obtain ⟨v, d', h', h1, h2⟩ := H B d
    exact upon_value (by simp only [execOp, ho]; exact run_v h1) (hn _ _ _ (typed_out h2))
  case h_7 s t x ho =>
    obtain ⟨v, d', h', h1, h2⟩ := H B d
    exact upon_value (by simp only [execOp, ho]; exact run_v h1) (hn _ _ _ (typed_out h2))
  case h_8 x t t' ok ho =>
    obtain ⟨v, d', h', h1, h2⟩ := H B d
    exact upon_value (by simp only [execOp, ho]; exact run_v h1) (hn _ _ _ (typed_out h2))
  case h_9 c ho =>
    split at H
    · rename_i b hb
      split at H
      · rename_i s hs
        obtain ⟨v, d', h', h1, h2⟩ := H B d
        refine upon_value (w' := mk B d' h') ?_ (hn _ _ _ (typed_out h2))
        have key : execOp ρ o = s >>= fun x => (Pure.pure (Next.value x) : Sem Next) := by
          simp only [execOp, ho, resolve, hb]
          unfold builtinSem at hs
          split at hs <;> first
            | (simp only [Option.some.injEq] at hs; subst hs; rfl)
            | cases hs
        rw [key]
        exact run_v h1
      · exact H.elim
    · rename_i x hx
      cases hst : isStatic x with
      | true =>
        rw [hst] at H
        obtain ⟨nx, h', h1, h2⟩ := wpN_sound H B d
        cases nx with
        | enter f args =>
          rw [h1]
          refine (h2 B d).mono ?_
          rintro e w' ⟨v, d', h'', rfl, rfl, h3⟩
          exact hn _ _ _ (typed_out h3)
        | value v => exact upon_value h1 (hn _ _ _ h2)
        | _ => exact h2.elim
      | false =>
        rw [hst] at H
        simp only [cond_false] at H
        obtain ⟨f, args, h1, h2⟩ := dynF_sound ho hx H
        rw [h2]
        refine (h1 B d).mono ?_
        rintro e w' ⟨v, d', h'', rfl, rfl, h3⟩
        exact hn _ _ _ (typed_out h3)
    · exact H.elim
  case h_10 =>
    obtain ⟨nx, h', h1, h2⟩ := wpN_sound H B d
    cases nx with
    | value v => exact upon_value h1 (hn _ _ _ h2)
    | skip => exact upon_skip h1 (hn _ _ _ h2)
    | _ => exact h2.elim

theorem stepW_sound {P : Program} {o : Oper} {ρ : Operand → Value} {g : Option Bool} {h : Heap} {K : Value → Heap → Prop} (H : stepW P o ρ g h K) (hg : gok g) (B : World) (d : Nat) {a : Act} {next : Act → World → Prop} {Q : Exit → Act → World → Prop}
    (hn : ∀ v d' h', K v h' → next (a.put o.dst v) (mk B d' h')) : o.upon P a next Q ((execOp ρ o).run P (mk B d h)) := by
  unfold stepW at H
  cases hq : isQ P o with
  | true =>
    rw [hq] at H
    obtain ⟨v, h1, h2⟩ := stepQ_sound H
    exact upon_value (h2 hg B d) (hn _ _ _ h1)
  | false =>
    rw [hq] at H
    cases g with
    | none => exact heavyF_sound H B d hn
    | some b =>
      have hb : b = true := hg
      subst hb
      simp only [cond_false] at H
      unfold heavyG at H
      split at H
      · rename_i rt hrt
        obtain ⟨J, h1, _, h3, h4⟩ := H
        refine heavyF_sound (h1 rfl) B d fun v d' h' hJ => ?_
        obtain ⟨v', e1, e2⟩ := both_RT (h3 rfl v h' hJ) h4
        subst e1
        exact hn _ _ _ (e2 _ hJ)
      · exact H.elim

theorem stepW_false {P : Program} {o : Oper} {ρ : Operand → Value} {h : Heap} {K : Value → Heap → Prop} (H : stepW P o ρ (some false) h K) : ∃ v, K v h := by
  unfold stepW at H
  cases hq : isQ P o with
  | true =>
    rw [hq] at H
    obtain ⟨v, h1, _⟩ := stepQ_sound H
    exact ⟨v, h1⟩
  | false =>
    rw [hq] at H
    simp only [cond_false] at H
    unfold heavyG at H
    split at H
    · obtain ⟨J, _, h2, _, h4⟩ := H
      obtain ⟨v, e1, e2⟩ := both_RT (h2 rfl) h4
      exact ⟨v, e2 _ e1⟩
    · exact H.elim
end Go.X
