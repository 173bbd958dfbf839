/-
  Regions, code, a whole function: 'W', and what it is good for: 'XC_of_W'.
-/
import Derived.Test.YtkjnneephcboaaaExec
namespace Go.X
open Go

def condOpt (e : Env) : Chain → Option (Option Bool)
  | [] => some none
  | c => match condE e c with
    | some b => some (some b)
    | none => none

theorem condOpt_yes {n : Nat} {e : Env} {a : Act} (hs : Sat n e a) {c : Chain} {g : Option Bool} (h : condOpt e c = some g) (hv : valid (vals a) c) : gok g := by
  unfold condOpt at h
  split at h
  · simp only [Option.some.injEq] at h; subst h; trivial
  · split at h
    · rename_i b hb
      simp only [Option.some.injEq] at h
      subst h
      exact (condE_sound hs hb).2 hv
    · cases h
theorem condOpt_no {n : Nat} {e : Env} {a : Act} (hs : Sat n e a) {c : Chain} {g : Option Bool} (h : condOpt e c = some g) (hv : ¬ valid (vals a) c) : g = some false := by
  unfold condOpt at h
  split at h
  · exact absurd trivial hv
  · split at h
    · rename_i b hb
      simp only [Option.some.injEq] at h
      subst h
      cases b with
      | false => rfl
      | true => exact absurd ((condE_sound hs hb).1 rfl) hv
    · cases h

def pickV (b : Bool) : Value → Value → Value
  | .bool x, .bool y => .bool (bif b then x else y)
  | x, y => bif b then x else y
theorem pickV_eq (b : Bool) (x y : Value) : pickV b x y = if b = true then x else y := by
  unfold pickV
  split <;> cases b <;> rfl

def orV : Option Value → Option Value → Option Value
  | some v, _ => some v
  | none, w => w

/-- 'pick c a b': the arms are known under the test. -/
def pickF (e : Env) (c : Chain) (x a b : Operand) (K : Value → Prop) : Prop :=
  match x with
  | .tmp s => match look e s with
    | some (cs, .bool t) => bif suf cs c then (match orV (opdAt e c a) (opdAt e ((s, true) :: cs) a), orV (opdAt e c b) (opdAt e ((s, false) :: cs) b) with
        | some va, some vb => K (pickV t va vb)
        | _, _ => False) else False
    | _ => False
  | _ => False

theorem pickF_sound {n : Nat} {e : Env} {act : Act} (hs : Sat n e act) {c : Chain} {x a b : Operand} {K : Value → Prop} (H : pickF e c x a b K) :
    ∃ v, K v ∧ (valid (vals act) c → ∃ t, act.eval x = .bool t ∧ (if t = true then act.eval a else act.eval b) = v) := by
  unfold pickF at H
  split at H
  · rename_i s
    split at H
    · rename_i cs t hl
      cases hsf : suf cs c with
      | false => rw [hsf] at H; exact H.elim
      | true =>
        rw [hsf] at H
        simp only [cond_true] at H
        split at H
        · rename_i va vb ha hb
          refine ⟨_, H, fun hv => ⟨t, ?_, ?_⟩⟩
          · exact (hs.all _ (look_mem hl)).1 (suf_valid hsf hv)
          · have hcs := suf_valid hsf hv
            have hx : vals act s = .bool t := (hs.all _ (look_mem hl)).1 hcs
            rw [pickV_eq]
            cases t with
            | true =>
              simp only [if_true]
              unfold orV at ha
              split at ha
              · rename_i v _ h1
                simp only [Option.some.injEq] at ha
                subst ha
                exact opdAt_sound hs hv h1
              · exact opdAt_sound hs (c := (s, true) :: cs) ⟨hx, hcs⟩ ha
            | false =>
              simp only [Bool.false_eq_true, if_false]
              unfold orV at hb
              split at hb
              · rename_i v _ h1
                simp only [Option.some.injEq] at hb
                subst hb
                exact opdAt_sound hs hv h1
              · exact opdAt_sound hs (c := (s, false) :: cs) ⟨hx, hcs⟩ hb
        · exact H.elim
    · exact H.elim
  · exact H.elim

/-! ### A row of operations, one behind the other -/
def opW (P : Program) (o : Oper) (e : Env) (c : Chain) (h : Heap) (K : Value → Heap → Prop) : Prop :=
  match o.op with
  | .pick x a b => pickF e c x a b fun v => K v h
  | _ => bif noSel o.op then (bif known e c o.op.operands.toList then (match condOpt e c with
      | some g => stepW P o (rho e c) g h K
      | none => False) else False) else False

def wR (P : Program) (n : Nat) (ops : Array Oper) (K : Env → Heap → Prop) : List Oper → Env → Heap → Prop
  | [], e, h => K (clean e) h
  | o :: rest, e, h => match chainOf ops e o.guard with
    | some c => bif okDst n c o.dst then opW P o e c h fun v h' => wR P n ops K rest (putO e o.dst c v) h' else False
    | none => False

theorem opW_yes {P : Program} {n : Nat} {o : Oper} {e : Env} {a : Act} {c : Chain} {h : Heap} {K : Value → Heap → Prop} (H : opW P o e c h K) (hs : Sat n e a) (hv : valid (vals a) c) (B : World) (d : Nat)
    {next : Act → World → Prop} {Q : Exit → Act → World → Prop} (hn : ∀ v d' h', K v h' → next (a.put o.dst v) (mk B d' h')) : o.wp P a (mk B d h) next Q := by
  unfold opW at H
  unfold Oper.wp
  split at H
  · rename_i x y z ho
    obtain ⟨v, h1, h2⟩ := pickF_sound hs H
    obtain ⟨t, h3, h4⟩ := h2 hv
    refine upon_value (w' := mk B d h) (v := v) ?_ (hn _ _ _ h1)
    simp only [execOp, ho, h3, asBool, Sem.run_bind, Sem.run_pure, Result.andThen_ok]
    rw [h4]
  · cases hns : noSel o.op with
    | false => rw [hns] at H; exact H.elim
    | true =>
      rw [hns] at H
      cases hk : known e c o.op.operands.toList with
      | false => rw [hk] at H; exact H.elim
      | true =>
        rw [hk] at H
        simp only [cond_true] at H
        split at H
        · rename_i g hg
          rw [exec_rho hs hv hns hk]
          exact stepW_sound H (condOpt_yes hs hg hv) B d hn
        · exact H.elim

theorem opW_no {P : Program} {n : Nat} {o : Oper} {e : Env} {a : Act} {c : Chain} {h : Heap} {K : Value → Heap → Prop} (H : opW P o e c h K) (hs : Sat n e a) (hv : ¬ valid (vals a) c) : ∃ v, K v h := by
  unfold opW at H
  split at H
  · obtain ⟨v, h1, _⟩ := pickF_sound hs H
    exact ⟨v, h1⟩
  · cases hns : noSel o.op with
    | false => rw [hns] at H; exact H.elim
    | true =>
      rw [hns] at H
      cases hk : known e c o.op.operands.toList with
      | false => rw [hk] at H; exact H.elim
      | true =>
        rw [hk] at H
        simp only [cond_true] at H
        split at H
        · rename_i g hg
          rw [condOpt_no hs hg hv] at H
          exact stepW_false H
        · exact H.elim

def dsts : List Oper → List Nat
  | [] => []
  | o :: l => match o.dst with
    | some d => d :: dsts l
    | none => dsts l

/-- Two frames that agree but for these slots. -/
def Same (ms : List Nat) (a b : Act) : Prop := ∀ i, i ∉ ms → vals b i = vals a i
theorem Same.refl (ms : List Nat) (a : Act) : Same ms a a := fun _ _ => rfl
theorem Same.trans {ms : List Nat} {a b c : Act} (h : Same ms a b) (k : Same ms b c) : Same ms a c := fun i hi => (k i hi).trans (h i hi)
theorem Same.mono {ms ms' : List Nat} {a b : Act} (h : Same ms a b) (hs : ∀ x ∈ ms, x ∈ ms') : Same ms' a b := fun i hi => h i fun hm => hi (hs i hm)
theorem Same.put (a : Act) (d : Option Nat) (v : Value) {ms : List Nat} (h : ∀ i, d = some i → i ∈ ms) : Same ms a (a.put d v) := by
  intro i hi
  cases d with
  | none => rfl
  | some j => exact vals_put_ne fun e => hi (e ▸ h j rfl)

theorem wR_sound {P : Program} {n : Nat} {ops : Array Oper} {K : Env → Heap → Prop} {Q : Exit → Act → World → Prop} (B : World) :
    ∀ (l : List Oper) (e : Env) (h : Heap) (a : Act) (d : Nat), wR P n ops K l e h → Sat n e a → (∀ e' a' d' h', Sat n e' a' → Same (dsts l) a a' → K e' h' → Q .normal a' (mk B d' h')) → wpList P ops Q l a (mk B d h)
  | [], e, h, a, d, H, hs, hQ => hQ _ _ _ _ hs.clean (Same.refl _ _) H
  | o :: rest, e, h, a, d, H, hs, hQ => by
    unfold wR at H
    split at H
    · rename_i c hc
      cases hd : okDst n c o.dst with
      | false => rw [hd] at H; exact H.elim
      | true =>
        rw [hd] at H
        simp only [cond_true] at H
        have hw := wanted_sound hs hc
        have hsub : ∀ i, o.dst = some i → i ∈ dsts (o :: rest) := fun i hi => by simp [dsts, hi]
        have hmore : ∀ x ∈ dsts rest, x ∈ dsts (o :: rest) := fun x hx => by
          unfold dsts
          split
          · exact List.mem_cons_of_mem _ hx
          · exact hx
        have goOn : ∀ v u d' h', (valid (vals a) c → u = v) → (¬ valid (vals a) c → u = undef) → wR P n ops K rest (putO e o.dst c v) h' → wpList P ops Q rest (a.put o.dst u) (mk B d' h') := fun v u d' h' h1 h2 h3 =>
          wR_sound B rest _ _ _ _ h3 (hs.putO hd h1 h2) fun e' a' d'' h'' q1 q2 q3 => hQ e' a' d'' h'' q1 ((Same.put a o.dst u hsub).trans (q2.mono hmore)) q3
        unfold wpList
        by_cases hv : valid (vals a) c
        · rw [if_pos (hw.2 hv)]
          exact .inl (opW_yes H hs hv B d fun v d' h' hK => goOn v v d' h' (fun _ => rfl) (fun hv' => absurd hv hv') hK)
        · rw [if_neg (fun hx => hv (hw.1 hx))]
          obtain ⟨v, hK⟩ := opW_no H hs hv
          exact goOn v undef d h (fun hv' => absurd hv' hv) (fun _ => rfl) hK
    · exact H.elim

/-! ### A region that draws its order, all of whose operations leave the heap alone -/
def callQ (P : Program) (o : Oper) (ρ : Operand → Value) (g : Option Bool) (h : Heap) (K : Value → Prop) : Prop :=
  match o.op with
  | .call c => match c.callee with
    | .value x => bif isStatic x then (match evalPure P (execOp ρ o) with
        | some (.enter f args) => match rtOf P o.type with
          | some rt => exRT rt fun v => req g (XC P f args h fun v' h' => v' = v ∧ h' = h) ∧ K v
          | none => False
        | _ => False) else (match rtOf P o.type with
          | some rt => exRT rt fun v => req g (dynF P (ρ x) (c.args.map ρ) fun f args => XC P f args h fun v' h' => v' = v ∧ h' = h) ∧ K v
          | none => False)
    | _ => False
  | _ => False

theorem callQ_sound {P : Program} {o : Oper} {ρ : Operand → Value} {g : Option Bool} {h : Heap} {K : Value → Prop} (H : callQ P o ρ g h K) :
    ∃ v, K v ∧ (gok g → ∃ f args, (∀ w, (execOp ρ o).run P w = .ok (.enter f args) w) ∧ XC P f args h fun v' h' => v' = v ∧ h' = h) := by
  unfold callQ at H
  split at H
  · rename_i c ho
    split at H
    · rename_i x hx
      cases hst : isStatic x with
      | true =>
        rw [hst] at H
        simp only [cond_true] at H
        split at H
        · rename_i f args he
          split at H
          · obtain ⟨v, h1, h2⟩ := some_RT H
            exact ⟨v, h2, fun hg => ⟨f, args, fun w => evalPure_run he w, h1.out hg⟩⟩
          · exact H.elim
        · exact H.elim
      | false =>
        rw [hst] at H
        simp only [cond_false] at H
        split at H
        · obtain ⟨v, h1, h2⟩ := some_RT H
          refine ⟨v, h2, fun hg => ?_⟩
          obtain ⟨f, args, h3, h4⟩ := dynF_sound ho hx (h1.out hg)
          exact ⟨f, args, h4, h3⟩
        · exact H.elim
    · exact H.elim
  · exact H.elim

def isCall (o : Oper) : Bool := match o.op with
  | .call c => match c.callee with
    | .builtin _ => false
    | _ => true
  | _ => false

def opQ (P : Program) (o : Oper) (e : Env) (c : Chain) (h : Heap) (calls : Bool) (K : Value → Prop) : Prop :=
  match o.op with
  | .pick x a b => pickF e c x a b K
  | _ => bif noSel o.op then (bif known e c o.op.operands.toList then (match condOpt e c with
      | some g => bif isCall o then (bif calls then callQ P o (rho e c) g h K else False) else stepQ P o (rho e c) g h K
      | none => False) else False) else False

def wQ (P : Program) (n : Nat) (ops : Array Oper) (h : Heap) (calls : Bool) (K : Env → Prop) : List Oper → Env → Prop
  | [], e => K e
  | o :: rest, e => match chainOf ops e o.guard with
    | some c => bif okDst n c o.dst then opQ P o e c h calls fun v => wQ P n ops h calls K rest (putO e o.dst c v) else False
    | none => False

/-- What one operation yields, whatever has been drawn. -/
def YQ (P : Program) (o : Oper) (a : Act) (B : World) (h : Heap) (calls : Bool) (v : Value) : Prop :=
  (∀ d, (execOp a.eval o).run P (mk B d h) = .ok (.value v) (mk B d h)) ∨
  (calls = true ∧ ∃ f args, (∀ d, (execOp a.eval o).run P (mk B d h) = .ok (.enter f args) (mk B d h)) ∧ XC P f args h fun v' h' => v' = v ∧ h' = h)

theorem opQ_sound {P : Program} {n : Nat} {o : Oper} {e : Env} {a : Act} {c : Chain} {h : Heap} {calls : Bool} {K : Value → Prop} (H : opQ P o e c h calls K) (hs : Sat n e a) (B : World) :
    ∃ v, K v ∧ (valid (vals a) c → YQ P o a B h calls v) := by
  unfold opQ at H
  split at H
  · rename_i x y z ho
    obtain ⟨v, h1, h2⟩ := pickF_sound hs H
    refine ⟨v, h1, fun hv => ?_⟩
    obtain ⟨t, h3, h4⟩ := h2 hv
    refine .inl fun d => ?_
    simp only [execOp, ho, h3, asBool, Sem.run_bind, Sem.run_pure, Result.andThen_ok]
    rw [h4]
  · cases hns : noSel o.op with
    | false => rw [hns] at H; exact H.elim
    | true =>
      rw [hns] at H
      cases hk : known e c o.op.operands.toList with
      | false => rw [hk] at H; exact H.elim
      | true =>
        rw [hk] at H
        simp only [cond_true] at H
        split at H
        · rename_i g hg
          cases hc : isCall o with
          | false =>
            rw [hc] at H
            obtain ⟨v, h1, h2⟩ := stepQ_sound H
            refine ⟨v, h1, fun hv => .inl fun d => ?_⟩
            rw [exec_rho hs hv hns hk]
            exact h2 (condOpt_yes hs hg hv) B d
          | true =>
            rw [hc] at H
            cases calls with
            | false => exact H.elim
            | true =>
              simp only [cond_true] at H
              obtain ⟨v, h1, h2⟩ := callQ_sound H
              refine ⟨v, h1, fun hv => ?_⟩
              obtain ⟨f, args, h3, h4⟩ := h2 (condOpt_yes hs hg hv)
              refine .inr ⟨rfl, f, args, fun d => ?_, h4⟩
              rw [exec_rho hs hv hns hk]
              exact h3 _
        · exact H.elim

theorem wQ_quiet {P : Program} {n : Nat} {ops : Array Oper} {h : Heap} {calls : Bool} {K : Env → Prop} {Q : Act → Prop} (B : World) :
    ∀ (l : List Oper) (e : Env) (a : Act), wQ P n ops h calls K l e → Sat n e a → (∀ e' a', Sat n e' a' → Same (dsts l) a a' → K e' → Q a') → wpQuiet P ops (fun w => ∃ d, w = mk B d h) Q l a
  | [], e, a, H, hs, hQ => hQ _ _ hs (Same.refl _ _) H
  | o :: rest, e, a, H, hs, hQ => by
    unfold wQ at H
    split at H
    · rename_i c hc
      cases hd : okDst n c o.dst with
      | false => rw [hd] at H; exact H.elim
      | true =>
        rw [hd] at H
        simp only [cond_true] at H
        have hw := wanted_sound hs hc
        have hsub : ∀ i, o.dst = some i → i ∈ dsts (o :: rest) := fun i hi => by simp [dsts, hi]
        have hmore : ∀ x ∈ dsts rest, x ∈ dsts (o :: rest) := fun x hx => by
          unfold dsts
          split
          · exact List.mem_cons_of_mem _ hx
          · exact hx
        obtain ⟨v, hK, hy⟩ := opQ_sound H hs B
        have goOn : ∀ u, (valid (vals a) c → u = v) → (¬ valid (vals a) c → u = undef) → wpQuiet P ops (fun w => ∃ d, w = mk B d h) Q rest (a.put o.dst u) := fun u h1 h2 =>
          wQ_quiet B rest _ _ hK (hs.putO hd h1 h2) fun e' a' q1 q2 q3 => hQ e' a' q1 ((Same.put a o.dst u hsub).trans (q2.mono hmore)) q3
        unfold wpQuiet
        by_cases hv : valid (vals a) c
        · rw [if_pos (hw.2 hv)]
          refine ⟨v, ?_, goOn v (fun _ => rfl) (fun hv' => absurd hv hv')⟩
          rintro w ⟨d, rfl⟩
          unfold Oper.quietAt
          rcases hy hv with h1 | ⟨_, f, args, h1, h2⟩
          · rw [h1 d]; exact ⟨rfl, rfl⟩
          · rw [h1 d]
            refine ⟨rfl, (h2 B d).mono ?_⟩
            rintro e' w'' ⟨v', d', h', rfl, rfl, rfl, rfl⟩
            exact ⟨rfl, d', rfl⟩
        · rw [if_neg (fun hx => hv (hw.1 hx))]
          exact goOn undef (fun hv' => absurd hv' hv) (fun _ => rfl)
    · exact H.elim

/-! A region that draws, whose calls may make new blocks: every operation tells the same at every heap that keeps this one. -/
def callK (P : Program) (o : Oper) (ρ : Operand → Value) (g : Option Bool) (h : Heap) (K : Value → Prop) : Prop :=
  match o.op with
  | .call c => match c.callee with
    | .value x => bif isStatic x then (match evalPure P (execOp ρ o) with
        | some (.enter f args) => match rtOf P o.type with
          | some rt => exRT rt fun v => req g (∀ h1, Keep h.size h h1 → XC P f args h1 fun v' h' => v' = v ∧ Keep h1.size h1 h') ∧ K v
          | none => False
        | _ => False) else False
    | _ => False
  | _ => False

theorem callK_sound {P : Program} {o : Oper} {ρ : Operand → Value} {g : Option Bool} {h : Heap} {K : Value → Prop} (H : callK P o ρ g h K) :
    ∃ v, K v ∧ (gok g → ∃ f args, (∀ w, (execOp ρ o).run P w = .ok (.enter f args) w) ∧ ∀ h1, Keep h.size h h1 → XC P f args h1 fun v' h' => v' = v ∧ Keep h1.size h1 h') := by
  unfold callK at H
  split at H
  · split at H
    · rename_i x _
      cases hx : isStatic x with
      | false => rw [hx] at H; exact H.elim
      | true =>
        rw [hx] at H
        simp only [cond_true] at H
        split at H
        · rename_i f args hv
          split at H
          · obtain ⟨v, h1, h2⟩ := some_RT H
            exact ⟨v, h2, fun hg => ⟨f, args, fun w => evalPure_run hv w, h1.out hg⟩⟩
          · exact H.elim
        · exact H.elim
    · exact H.elim
  · exact H.elim

def opK (P : Program) (o : Oper) (e : Env) (c : Chain) (h : Heap) (K : Value → Prop) : Prop :=
  match o.op with
  | .pick x a b => pickF e c x a b K
  | _ => bif noSel o.op then (bif known e c o.op.operands.toList then (match condOpt e c with
      | some g => bif isCall o then callK P o (rho e c) g h K else bif famOk o then stepQ P o (rho e c) g h K else False
      | none => False) else False) else False

def wK (P : Program) (n : Nat) (ops : Array Oper) (h : Heap) (K : Env → Prop) : List Oper → Env → Prop
  | [], e => K e
  | o :: rest, e => match chainOf ops e o.guard with
    | some c => bif okDst n c o.dst then opK P o e c h fun v => wK P n ops h K rest (putO e o.dst c v) else False
    | none => False

def YK (P : Program) (o : Oper) (a : Act) (B : World) (h : Heap) (v : Value) : Prop :=
  (∀ d h', Keep h.size h h' → (execOp a.eval o).run P (mk B d h') = .ok (.value v) (mk B d h')) ∨
  (∃ f args, (∀ d h', (execOp a.eval o).run P (mk B d h') = .ok (.enter f args) (mk B d h')) ∧ ∀ h1, Keep h.size h h1 → XC P f args h1 fun v' h' => v' = v ∧ Keep h1.size h1 h')

theorem opK_sound {P : Program} {n : Nat} {o : Oper} {e : Env} {a : Act} {c : Chain} {h : Heap} {K : Value → Prop} (H : opK P o e c h K) (hs : Sat n e a) (B : World) :
    ∃ v, K v ∧ (valid (vals a) c → YK P o a B h v) := by
  unfold opK at H
  split at H
  · rename_i x y z ho
    obtain ⟨v, h1, h2⟩ := pickF_sound hs H
    refine ⟨v, h1, fun hv => ?_⟩
    obtain ⟨t, h3, h4⟩ := h2 hv
    refine .inl fun d h' _ => ?_
    simp only [execOp, ho, h3, asBool, Sem.run_bind, Sem.run_pure, Result.andThen_ok]
    rw [h4]
  · cases hns : noSel o.op with
    | false => rw [hns] at H; exact H.elim
    | true =>
      rw [hns] at H
      cases hk : known e c o.op.operands.toList with
      | false => rw [hk] at H; exact H.elim
      | true =>
        rw [hk] at H
        simp only [cond_true] at H
        split at H
        · rename_i g hg
          cases hc : isCall o with
          | false =>
            rw [hc] at H
            cases hf : famOk o with
            | false => rw [hf] at H; exact H.elim
            | true =>
              rw [hf] at H
              obtain ⟨v, h1, h2⟩ := stepQ_keep hf H
              refine ⟨v, h1, fun hv => .inl fun d h' hk' => ?_⟩
              rw [exec_rho hs hv hns hk]
              exact h2 (condOpt_yes hs hg hv) h' hk' B d
          | true =>
            rw [hc] at H
            obtain ⟨v, h1, h2⟩ := callK_sound H
            refine ⟨v, h1, fun hv => ?_⟩
            obtain ⟨f, args, h3, h4⟩ := h2 (condOpt_yes hs hg hv)
            refine .inr ⟨f, args, fun d h' => ?_, h4⟩
            rw [exec_rho hs hv hns hk]
            exact h3 _
        · exact H.elim

theorem wK_quiet {P : Program} {n : Nat} {ops : Array Oper} {h : Heap} {K : Env → Prop} {Q : Act → Prop} (B : World) :
    ∀ (l : List Oper) (e : Env) (a : Act), wK P n ops h K l e → Sat n e a → (∀ e' a', Sat n e' a' → Same (dsts l) a a' → K e' → Q a') → wpQuiet P ops (fun w => ∃ d h', Keep h.size h h' ∧ w = mk B d h') Q l a
  | [], e, a, H, hs, hQ => hQ _ _ hs (Same.refl _ _) H
  | o :: rest, e, a, H, hs, hQ => by
    unfold wK at H
    split at H
    · rename_i c hc
      cases hd : okDst n c o.dst with
      | false => rw [hd] at H; exact H.elim
      | true =>
        rw [hd] at H
        simp only [cond_true] at H
        have hw := wanted_sound hs hc
        have hsub : ∀ i, o.dst = some i → i ∈ dsts (o :: rest) := fun i hi => by simp [dsts, hi]
        have hmore : ∀ x ∈ dsts rest, x ∈ dsts (o :: rest) := fun x hx => by
          unfold dsts
          split
          · exact List.mem_cons_of_mem _ hx
          · exact hx
        obtain ⟨v, hK, hy⟩ := opK_sound H hs B
        have goOn : ∀ u, (valid (vals a) c → u = v) → (¬ valid (vals a) c → u = undef) → wpQuiet P ops (fun w => ∃ d h', Keep h.size h h' ∧ w = mk B d h') Q rest (a.put o.dst u) := fun u h1 h2 =>
          wK_quiet B rest _ _ hK (hs.putO hd h1 h2) fun e' a' q1 q2 q3 => hQ e' a' q1 ((Same.put a o.dst u hsub).trans (q2.mono hmore)) q3
        unfold wpQuiet
        by_cases hv : valid (vals a) c
        · rw [if_pos (hw.2 hv)]
          refine ⟨v, ?_, goOn v (fun _ => rfl) (fun hv' => absurd hv hv')⟩
          rintro w ⟨d, h0, hk0, rfl⟩
          unfold Oper.quietAt
          rcases hy hv with h1 | ⟨f, args, h1, h2⟩
          · rw [h1 d h0 hk0]; exact ⟨rfl, rfl⟩
          · rw [h1 d h0]
            refine ⟨rfl, (h2 h0 hk0 B d).mono ?_⟩
            rintro e' w'' ⟨v', d', h', rfl, rfl, rfl, hk1⟩
            exact ⟨rfl, d', h', hk0.trans hk1 hk0.size, rfl⟩
        · rw [if_neg (fun hx => hv (hw.1 hx))]
          exact goOn undef (fun hv' => absurd hv' hv) (fun _ => rfl)
    · exact H.elim

theorem wQ_still {P : Program} {n : Nat} {ops : Array Oper} {h : Heap} {K : Env → Prop} {Q : Act → Prop} (B : World) (d : Nat) :
    ∀ (l : List Oper) (e : Env) (a : Act), wQ P n ops h false K l e → Sat n e a → (∀ e' a', Sat n e' a' → Same (dsts l) a a' → K e' → Q a') → wpStill P ops (mk B d h) Q l a
  | [], e, a, H, hs, hQ => hQ _ _ hs (Same.refl _ _) H
  | o :: rest, e, a, H, hs, hQ => by
    unfold wQ at H
    split at H
    · rename_i c hc
      cases hd : okDst n c o.dst with
      | false => rw [hd] at H; exact H.elim
      | true =>
        rw [hd] at H
        simp only [cond_true] at H
        have hw := wanted_sound hs hc
        have hsub : ∀ i, o.dst = some i → i ∈ dsts (o :: rest) := fun i hi => by simp [dsts, hi]
        have hmore : ∀ x ∈ dsts rest, x ∈ dsts (o :: rest) := fun x hx => by
          unfold dsts
          split
          · exact List.mem_cons_of_mem _ hx
          · exact hx
        obtain ⟨v, hK, hy⟩ := opQ_sound H hs B
        have goOn : ∀ u, (valid (vals a) c → u = v) → (¬ valid (vals a) c → u = undef) → wpStill P ops (mk B d h) Q rest (a.put o.dst u) := fun u h1 h2 =>
          wQ_still B d rest _ _ hK (hs.putO hd h1 h2) fun e' a' q1 q2 q3 => hQ e' a' q1 ((Same.put a o.dst u hsub).trans (q2.mono hmore)) q3
        unfold wpStill
        by_cases hv : valid (vals a) c
        · rw [if_pos (hw.2 hv)]
          unfold Oper.still
          rcases hy hv with h1 | ⟨h0, _⟩
          · rw [h1 d, Oper.stillUpon_value]; exact goOn v (fun _ => rfl) (fun hv' => absurd hv hv')
          · cases h0
        · rw [if_neg (fun hx => hv (hw.1 hx))]
          exact goOn undef (fun hv' => absurd hv' hv) (fun _ => rfl)
    · exact H.elim

/-- How many operations of a region that draws stand ahead of its tail: at this region; none: all leave the heap alone. -/
def tailAt : List (Nat × Nat) → Nat → Option Nat
  | [], _ => none
  | (j, m) :: l, i => bif Nat.beq i j then some m else tailAt l i

def regionF (P : Program) (n : Nat) (tl : List (Nat × Nat)) (id : Nat) (ops : Array Oper) (draw : Bool) (K : Env → Heap → Prop) (e : Env) (h : Heap) : Prop :=
  bif draw then (match tailAt tl id with
    | none => bif Region.lexB .any ops then wQ P n ops h true (fun e' => K (clean e') h) ops.toList e else False
    | some m => bif Nat.beq m 1000 then (bif Region.lexB .any ops then wK P n ops h (fun e' => ∀ h', Keep h.size h h' → K (clean e') h') ops.toList e else False)
      else bif Region.lexTailB .any ops m then wQ P n ops h false (fun e' => wR P n ops K (ops.toList.drop m) e' h) (ops.toList.take m) e else False)
  else wR P n ops K ops.toList e h

theorem dsts_append (l m : List Oper) : dsts (l ++ m) = dsts l ++ dsts m := by
  induction l with
  | nil => rfl
  | cons o l ih => simp only [List.cons_append, dsts]; split <;> simp [ih]

theorem regionF_sound {P : Program} (hm : P.follows .mixedOrders = true) {n : Nat} {tl : List (Nat × Nat)} {id : Nat} {ops : Array Oper} {draw : Bool} {K : Env → Heap → Prop} {e : Env} {h : Heap}
    (H : regionF P n tl id ops draw K e h) (B : World) (d : Nat) {a : Act} (hs : Sat n e a) {Q : Exit → Act → World → Prop}
    (hQ : ∀ e' a' d' h', Sat n e' a' → Same (dsts ops.toList) a a' → K e' h' → Q .normal a' (mk B d' h')) : (Code.region id ops draw).wp P Q a (mk B d h) := by
  unfold regionF at H
  cases draw with
  | false => exact wp_region_list (wR_sound B _ _ _ _ _ H hs hQ)
  | true =>
    simp only [cond_true] at H
    split at H
    · cases hB : Region.lexB .any ops with
      | false => rw [hB] at H; exact H.elim
      | true =>
        rw [hB] at H
        refine wp_region_quiet (C := fun w => ∃ d, w = mk B d h) hm hB ⟨d + 1, rfl⟩ ?_
        refine wQ_quiet B _ _ _ H hs fun e' a' q1 q2 q3 => ?_
        rintro w' ⟨d', rfl⟩
        exact hQ _ _ _ _ q1.clean q2 q3
    · rename_i m _
      cases hM : Nat.beq m 1000 with
      | true =>
        rw [hM] at H
        simp only [cond_true] at H
        cases hB : Region.lexB .any ops with
        | false => rw [hB] at H; exact H.elim
        | true =>
          rw [hB] at H
          refine wp_region_quiet (C := fun w => ∃ d h', Keep h.size h h' ∧ w = mk B d h') hm hB ⟨d + 1, h, Keep.refl _ _, rfl⟩ ?_
          refine wK_quiet B _ _ _ H hs fun e' a' q1 q2 q3 => ?_
          rintro w' ⟨d', h', hk, rfl⟩
          exact hQ _ _ _ _ q1.clean q2 (q3 h' hk)
      | false =>
      rw [hM] at H
      simp only [cond_false] at H
      cases hB : Region.lexTailB .any ops m with
      | false => rw [hB] at H; exact H.elim
      | true =>
        rw [hB] at H
        have := wp_region_still_tail (id := id) (Q := Q) (a := a) (w := mk B d h) (l := ops.toList) m hm (by simpa using hB) (by
          simp only [Array.toArray_toList]
          refine wQ_still B (d + 1) _ _ _ H hs fun e' a' q1 q2 q3 => ?_
          refine wR_sound B _ _ _ _ (d + 1) q3 q1 fun e'' a'' d'' h'' q4 q5 q6 => hQ e'' a'' d'' h'' q4 ?_ q6
          have hsplit : dsts ops.toList = dsts (ops.toList.take m) ++ dsts (ops.toList.drop m) := by rw [← dsts_append, List.take_append_drop]
          rw [hsplit]
          exact (q2.mono fun x hx => List.mem_append_left _ hx).trans (q5.mono fun x hx => List.mem_append_right _ hx))
        simpa using this
end Go.X
