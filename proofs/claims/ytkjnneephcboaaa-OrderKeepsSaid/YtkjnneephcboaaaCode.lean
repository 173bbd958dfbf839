/-
  Code, loops, a whole function: 'W' and 'XC_of_W'.
-/
import Derived.Test.YtkjnneephcboaaaWalk
namespace Go.X
open Go

/-! ### Predicates over typed values, one argument a value -/
@[reducible] def CurA : List Atom → Type → Type
  | [], X => X
  | t :: l, X => t.den → CurA l X
def allC {X : Type} : (l : List Atom) → CurA l X → (List Value → X → Prop) → Prop
  | [], f, k => k [] f
  | t :: l, f, k => ∀ x : t.den, allC l (f x) fun vs y => k (t.enc x :: vs) y
def decC {X : Type} : (l : List Atom) → List Value → CurA l X → Option X
  | [], [], f => some f
  | t :: l, v :: vs, f => match t.dec v with
    | some x => decC l vs (f x)
    | none => none
  | _, _, _ => none
def mkC {X : Type} : (l : List Atom) → (List Value → X) → CurA l X
  | [], f => f []
  | t :: l, f => fun x => mkC l fun vs => f (t.enc x :: vs)
def pairC {X Y : Type} : (l : List Atom) → CurA l X → CurA l Y → CurA l (X × Y)
  | [], f, g => (f, g)
  | _ :: l, f, g => fun x => pairC l (f x) (g x)

theorem decC_spec {X : Type} : ∀ {l : List Atom} {vs : List Value} {f : CurA l X} {x : X} {k : List Value → X → Prop}, decC l vs f = some x → allC l f k → k vs x
  | [], [], f, x, k, h, g => by simp only [decC, Option.some.injEq] at h; subst h; exact g
  | [], _ :: _, f, x, k, h, g => by simp [decC] at h
  | _ :: _, [], f, x, k, h, g => by simp [decC] at h
  | t :: l, v :: vs, f, x, k, h, g => by
    simp only [decC] at h
    split at h
    · rename_i y hy
      have := decC_spec h (g y)
      rw [Atom.enc_of_dec hy] at this
      exact this
    · cases h
theorem decC_mkC {X : Type} : ∀ {l : List Atom} {vs : List Value} {f : List Value → X} {x : X}, decC l vs (mkC l f) = some x → x = f vs
  | [], [], f, x, h => by simp only [decC, mkC, Option.some.injEq] at h; exact h.symm
  | [], _ :: _, f, x, h => by simp [decC] at h
  | _ :: _, [], f, x, h => by simp [decC] at h
  | t :: l, v :: vs, f, x, h => by
    simp only [decC, mkC] at h
    split at h
    · rename_i y hy
      have := decC_mkC h
      rw [Atom.enc_of_dec hy] at this
      exact this
    · cases h
theorem allC_mkC {X : Type} : ∀ {l : List Atom} {f : List Value → X} {k : List Value → X → Prop}, (∀ vs, k vs (f vs)) → allC l (mkC l f) k
  | [], _, _, h => h []
  | _ :: _, _, _, h => fun _ => allC_mkC fun _ => h _

abbrev Ann := List (Nat × VT)
def atomsJ : Ann → List Atom
  | [] => []
  | (_, .one t) :: J => t :: atomsJ J
  | (_, .agg l) :: J => l ++ atomsJ J

def valsJ (σ : Nat → Option Value) : Ann → Option (List Value)
  | [] => some []
  | (i, .one _) :: J => match σ i, valsJ σ J with
    | some v, some vs => some (v :: vs)
    | _, _ => none
  | (i, .agg l) :: J => match σ i, valsJ σ J with
    | some (.agg cs), some vs => bif Nat.beq cs.toList.length l.length then some (cs.toList ++ vs) else none
    | _, _ => none

def groupJ : Ann → List Value → Env
  | [], _ => []
  | (i, .one _) :: J, v :: vs => (i, [], v) :: groupJ J vs
  | (_, .one _) :: _, [] => []
  | (i, .agg l) :: J, vs => (i, [], .agg (vs.take l.length).toArray) :: groupJ J (vs.drop l.length)

def slotE (e : Env) (i : Nat) : Option Value := match look e i with
  | some ([], v) => some v
  | _ => none

theorem slotE_sound {n : Nat} {e : Env} {a : Act} (h : Sat n e a) {i : Nat} {v : Value} (hv : slotE e i = some v) : vals a i = v := by
  unfold slotE at hv
  split at hv
  · rename_i u hl
    simp only [Option.some.injEq] at hv
    subst hv
    exact (h.all _ (look_mem hl)).1 trivial
  · cases hv

theorem valsJ_vals {n : Nat} {e : Env} {a : Act} (h : Sat n e a) : ∀ {J : Ann} {vs : List Value}, valsJ (slotE e) J = some vs → valsJ (fun i => some (vals a i)) J = some vs
  | [], vs, hv => hv
  | (i, .one t) :: J, vs, hv => by
    simp only [valsJ] at hv ⊢
    split at hv
    · rename_i v us h1 h2
      simp only [valsJ_vals h h2, slotE_sound h h1]
      exact hv
    · cases hv
  | (i, .agg l) :: J, vs, hv => by
    simp only [valsJ] at hv ⊢
    split at hv
    · rename_i cs us h1 h2
      simp only [valsJ_vals h h2, slotE_sound h h1]
      exact hv
    · cases hv

theorem groupJ_facts {σ : Nat → Value} : ∀ {J : Ann} {vs : List Value}, valsJ (fun i => some (σ i)) J = some vs → ∀ x ∈ groupJ J vs, fact σ x
  | [], vs, _, x, hx => by cases hx
  | (i, .one t) :: J, vs, hv, x, hx => by
    simp only [valsJ] at hv
    split at hv
    · rename_i v us h1 h2
      simp only [Option.some.injEq] at h1 hv
      subst hv
      simp only [groupJ, List.mem_cons] at hx
      rcases hx with rfl | hx
      · exact ⟨fun _ => h1, fun hn => absurd trivial hn⟩
      · exact groupJ_facts h2 x hx
    · cases hv
  | (i, .agg l) :: J, vs, hv, x, hx => by
    simp only [valsJ] at hv
    split at hv
    · rename_i cs us h1 h2
      simp only [Option.some.injEq] at h1
      cases hb : Nat.beq cs.toList.length l.length with
      | false => rw [hb] at hv; cases hv
      | true =>
        rw [hb] at hv
        simp only [cond_true, Option.some.injEq] at hv
        subst hv
        have hlen : cs.toList.length = l.length := Nat.eq_of_beq_eq_true hb
        simp only [groupJ, List.mem_cons] at hx
        rcases hx with rfl | hx
        · refine ⟨fun _ => ?_, fun hn => absurd trivial hn⟩
          simp only
          rw [h1, ← hlen, List.take_left]
        · rw [← hlen, List.drop_left] at hx
          exact groupJ_facts h2 x hx
    · cases hv

def memN : List Nat → Nat → Bool
  | [], _ => false
  | j :: l, i => bif Nat.beq i j then true else memN l i
theorem memN_false {l : List Nat} {i : Nat} (h : memN l i = false) : i ∉ l := by
  induction l with
  | nil => simp
  | cons j l ih =>
    simp only [memN] at h
    by_cases hb : Nat.beq i j = true
    · simp [hb] at h
    · simp only [hb, cond_false] at h
      simp only [List.mem_cons, not_or]
      exact ⟨fun e => hb (by rw [e]; simp), ih h⟩

def dropE (ms : List Nat) : Env → Env
  | [] => []
  | (i, [], v) :: e => bif memN ms i then dropE ms e else (i, [], v) :: dropE ms e
  | (_, _ :: _, _) :: e => dropE ms e
theorem mem_dropE {ms : List Nat} {e : Env} {x : Nat × Chain × Value} (h : x ∈ dropE ms e) : x ∈ e ∧ x.2.1 = [] ∧ x.1 ∉ ms := by
  induction e with
  | nil => cases h
  | cons y e ih =>
    obtain ⟨i, c, v⟩ := y
    cases c with
    | nil =>
      simp only [dropE] at h
      cases hm : memN ms i with
      | true => rw [hm] at h; exact ⟨List.mem_cons_of_mem _ (ih h).1, (ih h).2⟩
      | false =>
        rw [hm] at h
        simp only [cond_false] at h
        rcases List.mem_cons.1 h with rfl | h
        · exact ⟨List.mem_cons_self, rfl, memN_false hm⟩
        · exact ⟨List.mem_cons_of_mem _ (ih h).1, (ih h).2⟩
    | cons g c =>
      simp only [dropE] at h
      exact ⟨List.mem_cons_of_mem _ (ih h).1, (ih h).2⟩

theorem sat_again {n : Nat} {e : Env} {a a1 : Act} (hs : Sat n e a) {ms : List Nat} (hd : a1.defers = []) (hz : a1.tmps.size = n) (hsame : Same ms a a1) {J : Ann} {vs : List Value}
    (hv : valsJ (fun i => some (vals a1 i)) J = some vs) : Sat n (groupJ J vs ++ dropE ms e) a1 := by
  refine ⟨hd, hz, fun x hx => ?_⟩
  rcases List.mem_append.1 hx with hx | hx
  · exact groupJ_facts hv x hx
  · obtain ⟨h1, h2, h3⟩ := mem_dropE hx
    have hf := hs.all x h1
    refine ⟨fun _ => ?_, fun hn => absurd (by rw [h2]; trivial) hn⟩
    rw [hsame _ h3]
    exact hf.1 (by rw [h2]; trivial)

/-! ### Code -/
def firstReg : Code → Option Nat
  | .region id _ _ => some id
  | .seq a b => match firstReg a with
    | some i => some i
    | none => firstReg b
  | .cond _ a b => match firstReg a with
    | some i => some i
    | none => firstReg b
  | .block _ b => firstReg b
  | .loop b => firstReg b
  | _ => none

def mods : Code → List Nat
  | .region _ ops _ => dsts ops.toList
  | .seq a b => mods a ++ mods b
  | .cond _ a b => mods a ++ mods b
  | .block _ b => mods b
  | .loop b => mods b
  | _ => []

structure Plan where
  tails : List (Nat × Nat)
  loops : List (Nat × Ann)
  joins : List (Nat × Ann)

def annIn : List (Nat × Ann) → Nat → Option Ann
  | [], _ => none
  | (j, m) :: l, i => bif Nat.beq i j then some m else annIn l i
def annAt (l : List (Nat × Ann)) : Option Nat → Option Ann
  | some i => annIn l i
  | none => none

abbrev XPost := Exit → Env → Heap → Prop

def thenQ (K : Env → Heap → Prop) (Q : XPost) : XPost
  | .normal, e, h => K e h
  | x, e, h => Q x e h
def blockQ (id : Nat) (Q : XPost) : XPost
  | .exit i, e, h => bif Nat.beq i id then Q .normal e h else Q (.exit i) e h
  | x, e, h => Q x e h

def atC {X : Type} (J : Ann) (F : CurA (atomsJ J) X) (e : Env) (k : X → Prop) : Prop :=
  match valsJ (slotE e) J with
  | some vs => match decC (atomsJ J) vs F with
    | some q => k q
    | none => False
  | none => False

def joinF (J : Ann) (rest : Env → Heap → Prop) (F : (Env → Heap → Prop) → Prop) (e0 : Env) : Prop :=
  ∀ K : CurA (atomsJ J) (Heap → Prop), allC (atomsJ J) K (fun vs q => ∀ h, rest (groupJ J vs ++ e0) h → q h) → F fun e h => atC J K e fun q => q h

def loopF (J : Ann) (body : (Env → Heap → Prop) → Env → Heap → Prop) (e0 e : Env) (h : Heap) : Prop :=
  ∃ (I : CurA (atomsJ J) (Heap → Prop)) (μ : CurA (atomsJ J) (Heap → Nat)), (atC J (pairC (atomsJ J) I μ) e fun p => p.1 h) ∧
    allC (atomsJ J) (pairC (atomsJ J) I μ) fun vs p => ∀ h, p.1 h → body (fun e' h' => atC J (pairC (atomsJ J) I μ) e' fun q => q.1 h' ∧ q.2 h' < p.2 h) (groupJ J vs ++ e0) h

def W (P : Program) (n : Nat) (pl : Plan) : Code → XPost → Env → Heap → Prop
  | .skip, Q, e, h => Q .normal e h
  | .ret, Q, e, h => Q .ret e h
  | .exit id, Q, e, h => Q (.exit id) e h
  | .label _, Q, e, h => Q .normal e h
  | .goto l, Q, e, h => Q (.goto l) e h
  | .region id ops draw, Q, e, h => regionF P n pl.tails id ops draw (fun e h => Q .normal e h) e h
  | .seq x y, Q, e, h => match annAt pl.joins (firstReg y) with
    | none => W P n pl x (thenQ (fun e h => W P n pl y Q e h) Q) e h
    | some J => joinF J (fun e h => W P n pl y Q e h) (fun K => W P n pl x (thenQ K Q) e h) (dropE (mods x) e)
  | .cond c x y, Q, e, h => match opdAt e [] c with
    | some (.bool b) => (b = true → W P n pl x Q e h) ∧ (b = false → W P n pl y Q e h)
    | _ => False
  | .block id x, Q, e, h => W P n pl x (blockQ id Q) e h
  | .loop x, Q, e, h => match annAt pl.loops (firstReg x) with
    | some J => loopF J (fun Qn e h => W P n pl x (thenQ Qn Q) e h) (dropE (mods x) e) e h
    | none => False
  | _, _, _, _ => False

def PostX (n : Nat) (B : World) (ms : List Nat) (a0 : Act) (Q : XPost) : Exit → Act → World → Prop :=
  fun x a w => ∃ e d h, w = mk B d h ∧ Sat n e a ∧ Same ms a0 a ∧ Q x e h

theorem atC_out {X : Type} {J : Ann} {F : CurA (atomsJ J) X} {e : Env} {k : X → Prop} (h : atC J F e k) : ∃ vs q, valsJ (slotE e) J = some vs ∧ decC (atomsJ J) vs F = some q ∧ k q := by
  unfold atC at h
  split at h
  · rename_i vs hv
    split at h
    · rename_i q hq
      exact ⟨vs, q, hv, hq, h⟩
    · exact h.elim
  · exact h.elim

theorem W_sound {P : Program} (hm : P.follows .mixedOrders = true) {n : Nat} {pl : Plan} : ∀ (c : Code) (Q : XPost) (e : Env) (h : Heap), W P n pl c Q e h →
    ∀ (B : World) (d : Nat) (a : Act), Sat n e a → c.wp P (PostX n B (mods c) a Q) a (mk B d h) := by
  intro c
  induction c with
  | skip => exact fun Q e h H B d a hs => wp_skip ⟨e, d, h, rfl, hs, Same.refl _ _, H⟩
  | ret => exact fun Q e h H B d a hs => wp_ret ⟨e, d, h, rfl, hs, Same.refl _ _, H⟩
  | exit id => exact fun Q e h H B d a hs => wp_exit ⟨e, d, h, rfl, hs, Same.refl _ _, H⟩
  | label l => exact fun Q e h H B d a hs => wp_label ⟨e, d, h, rfl, hs, Same.refl _ _, H⟩
  | goto l => exact fun Q e h H B d a hs => wp_goto ⟨e, d, h, rfl, hs, Same.refl _ _, H⟩
  | region id ops draw =>
    exact fun Q e h H B d a hs => regionF_sound hm H B d hs fun e' a' d' h' q1 q2 q3 => ⟨e', d', h', rfl, q1, q2, q3⟩
  | seq x y ihx ihy =>
    intro Q e h H B d a hs
    simp only [W] at H
    have hl : ∀ i ∈ mods x, i ∈ mods (x.seq y) := fun i hi => List.mem_append_left _ hi
    have hr : ∀ i ∈ mods y, i ∈ mods (x.seq y) := fun i hi => List.mem_append_right _ hi
    split at H
    · refine wp_seq (wp_mono (ihx _ _ _ H B d a hs) ?_)
      rintro ex a1 w1 ⟨e1, d1, h1, rfl, s1, m1, q1⟩
      cases ex with
      | normal =>
        refine wp_mono (ihy _ _ _ q1 B d1 a1 s1) ?_
        rintro ex a2 w2 ⟨e2, d2, h2, rfl, s2, m2, q2⟩
        exact ⟨e2, d2, h2, rfl, s2, (m1.mono hl).trans (m2.mono hr), q2⟩
      | _ => exact ⟨e1, d1, h1, rfl, s1, m1.mono hl, q1⟩
    · rename_i J hJ
      have H' := H (mkC (atomsJ J) fun vs => fun h => W P n pl y Q (groupJ J vs ++ dropE (mods x) e) h) (allC_mkC fun vs h hq => hq)
      refine wp_seq (wp_mono (ihx _ _ _ H' B d a hs) ?_)
      rintro ex a1 w1 ⟨e1, d1, h1, rfl, s1, m1, q1⟩
      cases ex with
      | normal =>
        obtain ⟨vs, q, hv, hq, hk⟩ := atC_out q1
        have hq' := decC_mkC hq
        subst hq'
        have s1' : Sat n (groupJ J vs ++ dropE (mods x) e) a1 := sat_again hs s1.defers s1.size m1 (valsJ_vals s1 hv)
        refine wp_mono (ihy _ _ _ hk B d1 a1 s1') ?_
        rintro ex a2 w2 ⟨e2, d2, h2, rfl, s2, m2, q2⟩
        exact ⟨e2, d2, h2, rfl, s2, (m1.mono hl).trans (m2.mono hr), q2⟩
      | _ => exact ⟨e1, d1, h1, rfl, s1, m1.mono hl, q1⟩
  | cond c x y ihx ihy =>
    intro Q e h H B d a hs
    simp only [W] at H
    have hl : ∀ i ∈ mods x, i ∈ mods (Code.cond c x y) := fun i hi => List.mem_append_left _ hi
    have hr : ∀ i ∈ mods y, i ∈ mods (Code.cond c x y) := fun i hi => List.mem_append_right _ hi
    split at H
    · rename_i b hb
      refine wp_cond_split (opdAt_sound hs (c := []) trivial hb) (fun hbt => ?_) (fun hbf => ?_)
      · refine wp_mono (ihx _ _ _ (H.1 hbt) B d a hs) ?_
        rintro ex a2 w2 ⟨e2, d2, h2, rfl, s2, m2, q2⟩
        exact ⟨e2, d2, h2, rfl, s2, m2.mono hl, q2⟩
      · refine wp_mono (ihy _ _ _ (H.2 hbf) B d a hs) ?_
        rintro ex a2 w2 ⟨e2, d2, h2, rfl, s2, m2, q2⟩
        exact ⟨e2, d2, h2, rfl, s2, m2.mono hr, q2⟩
    · exact H.elim
  | block id x ih =>
    intro Q e h H B d a hs
    refine wp_block (wp_mono (ih _ _ _ H B d a hs) ?_)
    rintro ex a1 w1 ⟨e1, d1, h1, rfl, s1, m1, q1⟩
    cases ex with
    | exit i =>
      simp only [blockQ] at q1
      simp only [Exit.inBlock]
      by_cases hb : Nat.beq i id = true
      · rw [if_pos (Nat.eq_of_beq_eq_true hb)]
        simp only [hb, cond_true] at q1
        exact ⟨e1, d1, h1, rfl, s1, m1, q1⟩
      · rw [if_neg (fun he => hb (by rw [he]; simp))]
        simp only [hb, cond_false] at q1
        exact ⟨e1, d1, h1, rfl, s1, m1, q1⟩
    | _ => exact ⟨e1, d1, h1, rfl, s1, m1, q1⟩
  | loop x ih =>
    intro Q e h H B d a hs
    simp only [W] at H
    split at H
    · rename_i J hJ
      obtain ⟨I, μ, h0, hstep⟩ := H
      obtain ⟨vs0, p0, hv0, hp0, hI0⟩ := atC_out h0
      let F := pairC (atomsJ J) I μ
      let at_ : Act → Option ((Heap → Prop) × (Heap → Nat)) := fun a1 => (valsJ (fun i => some (vals a1 i)) J).bind fun vs => decC (atomsJ J) vs F
      refine wp_loop (fun a1 w1 => ∃ d1 h1 vs p, w1 = mk B d1 h1 ∧ a1.defers = [] ∧ a1.tmps.size = n ∧ Same (mods x) a a1 ∧ valsJ (fun i => some (vals a1 i)) J = some vs ∧ decC (atomsJ J) vs F = some p ∧ p.1 h1)
        (fun a1 w1 => match at_ a1 with | some p => p.2 w1.heap | none => 0) ⟨d, h, vs0, p0, rfl, hs.defers, hs.size, Same.refl _ _, valsJ_vals hs hv0, hp0, hI0⟩ ?_
      rintro a1 w1 ⟨d1, h1, vs, p, rfl, hd1, hz1, hsame, hv, hp, hI⟩
      have s1 : Sat n (groupJ J vs ++ dropE (mods x) e) a1 := sat_again hs hd1 hz1 hsame hv
      have hb := decC_spec hp hstep h1 hI
      refine wp_mono (ih _ _ _ hb B d1 a1 s1) ?_
      rintro ex a2 w2 ⟨e2, d2, h2, rfl, s2, m2, q2⟩
      cases ex with
      | normal =>
        obtain ⟨vs', q, hv', hq, hI', hlt⟩ := atC_out q2
        refine ⟨⟨d2, h2, vs', q, rfl, s2.defers, s2.size, hsame.trans m2, valsJ_vals s2 hv', hq, hI'⟩, ?_⟩
        have e1 : at_ a1 = some p := by simp only [at_, hv, Option.bind_some]; exact hp
        have e2 : at_ a2 = some q := by simp only [at_, valsJ_vals s2 hv', Option.bind_some]; exact hq
        rw [e1, e2]
        exact hlt
      | _ => exact ⟨e2, d2, h2, rfl, s2, hsame.trans m2, q2⟩
    · exact H.elim
  | _ => exact fun Q e h H => H.elim

/-! ### A whole function -/
def argE : Nat → List Value → Env
  | _, [] => []
  | i, v :: vs => (i, [], v) :: argE (i + 1) vs

def resF (P : Program) (h : Heap) (e : Env) : List ResultVar → (List Value → Prop) → Prop
  | [], K => K []
  | .tmp t :: l, K => match slotE e t with
    | some v => resF P h e l fun vs => K (v :: vs)
    | none => False
  | .cell a t :: l, K => match slotE e a with
    | some p => loadF P h t p none fun v => resF P h e l fun vs => K (v :: vs)
    | none => False

def packV : List Value → Value
  | [v] => v
  | vs => .tuple vs.toArray

def endQ (P : Program) (rs : List ResultVar) (R : Value → Heap → Prop) : XPost
  | .normal, e, h => resF P h e rs fun vs => R (packV vs) h
  | .ret, e, h => resF P h e rs fun vs => R (packV vs) h
  | _, _, _ => False

def resOne (tmps : Array Value) : ResultVar → Sem Value
  | .tmp t => pure (tmps.getD t undef)
  | .cell a t => do loadVar t (← asAddr (tmps.getD a undef))

theorem resF_sound {P : Program} {n : Nat} {h : Heap} {e : Env} {a : Act} (hs : Sat n e a) : ∀ {l : List ResultVar} {K : List Value → Prop}, resF P h e l K → ∃ vs, K vs ∧ vs.length = l.length ∧ QExec P (l.mapM (resOne a.tmps)) h vs
  | [], K, H => ⟨[], H, rfl, fun _ _ => by simp⟩
  | .tmp t :: l, K, H => by
    simp only [resF] at H
    split at H
    · rename_i v hv
      obtain ⟨vs, h1, h2, h3⟩ := resF_sound hs H
      refine ⟨v :: vs, h1, by simp [h2], ?_⟩
      rw [List.mapM_cons]
      refine QExec.bind (x := v) ?_ (h3.bind (QExec.pure _))
      rw [← slotE_sound hs hv]
      exact QExec.pure _
    · exact H.elim
  | .cell x t :: l, K, H => by
    simp only [resF] at H
    split at H
    · rename_i p hp
      obtain ⟨v, hK, hq⟩ := loadF_sound H
      obtain ⟨vs, h1, h2, h3⟩ := resF_sound hs hK
      refine ⟨v :: vs, h1, by simp [h2], ?_⟩
      rw [List.mapM_cons]
      refine QExec.bind (x := v) ?_ (h3.bind (QExec.pure _))
      have hx : a.tmps.getD x undef = p := slotE_sound hs hp
      simp only [resOne, hx]
      have hq' := hq trivial
      unfold Instr.loadAt at hq'
      unfold loadF at H
      split at H
      · exact hq'
      · exact hq'
      · exact H.elim
    · exact H.elim

theorem results_run {P : Program} {fn : Func} {n : Nat} {h : Heap} {e : Env} {a : Act} (hs : Sat n e a) {rs : List ResultVar} (hr : fn.results.toList = rs) {R : Value → Heap → Prop} (H : resF P h e rs fun vs => R (packV vs) h) :
    ∃ v, R v h ∧ QExec P (results fn a.tmps) h v := by
  obtain ⟨vs, h1, h2, h3⟩ := resF_sound hs H
  refine ⟨_, h1, ?_⟩
  intro B d
  have e0 : results fn a.tmps = (fn.results.mapM (resOne a.tmps) >>= fun vs => Pure.pure (if h : vs.size = 1 then vs[0] else .tuple vs)) := by
    unfold results
    congr 1
  rw [e0, Array.mapM_eq_mapM_toList, hr, Sem.run_bind, Sem.run_map, h3 B d]
  simp only [Result.andThen_ok, Sem.run_pure]
  match vs, h2 with
  | [], _ => rfl
  | [v], _ => rfl
  | v :: u :: vs, _ => simp [packV]

theorem argE_facts (args : Array Value) (k : Nat) : ∀ (vs : List Value) (i : Nat), (∀ j v, vs[j]? = some v → (args ++ Array.replicate k undef).getD (i + j) undef = v) →
    ∀ x ∈ argE i vs, fact (fun i => (args ++ Array.replicate k undef).getD i undef) x
  | [], _, _, x, hx => by cases hx
  | v :: vs, i, h, x, hx => by
    simp only [argE, List.mem_cons] at hx
    rcases hx with rfl | hx
    · exact ⟨fun _ => h 0 v rfl, fun hn => absurd trivial hn⟩
    · exact argE_facts args k vs (i + 1) (fun j u hj => by have := h (j + 1) u (by simpa using hj); rwa [show i + (j + 1) = i + 1 + j by omega] at this) x hx

/-- **A function's contract, out of the formula that its code gives.** -/
theorem XC_of_W {P : Program} (hm : P.follows .mixedOrders = true) {f : FuncId} {fn : Func} {c : Code} (pl : Plan) (vs : List Value) {rs : List ResultVar} {n : Nat} (hf : P.funcs[f]? = some fn) (hb : fn.body = some c) (hr : fn.results.toList = rs) (hn : fn.ntmps = n)
    (hz : Nat.ble vs.length n = true) {h : Heap} {R : Value → Heap → Prop} (H : W P n pl c (endQ P rs R) (argE 0 vs) h) : XC P f vs.toArray h R := by
  intro B d
  subst hn
  refine calls_of_wp hf hb ?_
  have hz' : vs.length ≤ fn.ntmps := Nat.le_of_ble_eq_true hz
  have hs : Sat fn.ntmps (argE 0 vs) { tmps := vs.toArray ++ Array.replicate (fn.ntmps - vs.toArray.size) undef, defers := [] } := by
    refine ⟨rfl, by simp; omega, ?_⟩
    refine argE_facts vs.toArray _ vs 0 fun j v hj => ?_
    have hj' : j < vs.length := by
      rcases Nat.lt_or_ge j vs.length with h | h
      · exact h
      · rw [List.getElem?_eq_none h] at hj; cases hj
    simp only [Nat.zero_add, Array.getD_eq_getD_getElem?]
    rw [Array.getElem?_append_left (by simpa using hj')]
    simp [hj]
  refine wp_mono (W_sound hm c _ _ _ H B d _ hs) ?_
  rintro ex a w ⟨e1, d1, h1, rfl, s1, m1, q1⟩
  cases ex with
  | normal =>
    obtain ⟨v, hv, hq⟩ := results_run s1 hr q1
    exact ⟨s1.defers, v, hq B d1, v, d1, h1, rfl, rfl, hv⟩
  | ret =>
    obtain ⟨v, hv, hq⟩ := results_run s1 hr q1
    exact ⟨s1.defers, v, hq B d1, v, d1, h1, rfl, rfl, hv⟩
  | _ => exact q1.elim
/-- The same, of a function whose body is taken off it. -/
def codeOf (fn : Func) : Code := match fn.body with
  | some c => c
  | none => .skip
def hasBody (fn : Func) : Bool := match fn.body with
  | some _ => true
  | none => false
theorem XC_of_code {P : Program} (hm : P.follows .mixedOrders = true) (pl : Plan) (vs : List Value) {f : FuncId} {fn : Func} {rs : List ResultVar} {n : Nat} (hf : P.funcs[f]? = some fn) (hb : hasBody fn = true) (hr : fn.results.toList = rs) (hn : fn.ntmps = n)
    (hz : Nat.ble vs.length n = true) {h : Heap} {R : Value → Heap → Prop} (H : W P n pl (codeOf fn) (endQ P rs R) (argE 0 vs) h) : XC P f vs.toArray h R := by
  have hb' : fn.body = some (codeOf fn) := by
    unfold hasBody at hb
    unfold codeOf
    split at hb
    · rename_i c hc; rw [hc]
    · cases hb
  exact XC_of_W hm pl vs hf hb' hr hn hz H
end Go.X
