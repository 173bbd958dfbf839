/- A part of the proof: nothing is stated here for its own sake. -/
import Derived.Test.YtaoceiiakcpbaaaGreatDoorPfE
section
namespace Go.X
open Go
set_option linter.unusedVariables false
def ropsOf : Code → Nat → Array Oper
  | .region id ops _, i => bif Nat.beq id i then ops else #[]
  | .seq x y, i => bif Nat.beq (ropsOf x i).size 0 then ropsOf y i else ropsOf x i
  | .cond _ x y, i => bif Nat.beq (ropsOf x i).size 0 then ropsOf y i else ropsOf x i
  | .block _ x, i => ropsOf x i
  | .loop x, i => ropsOf x i
  | .rangeFunc _ _ x y, i => bif Nat.beq (ropsOf x i).size 0 then ropsOf y i else ropsOf x i
  | _, _ => #[]
def headF (P : Program) (n : Nat) (ro : Nat → Array Oper) : List Nat → (Env → Heap → Prop) → Env → Heap → Prop
  | [], K, e, h => K e h
  | i :: l, K, e, h => wR P n (ro i) (fun e' h' => headF P n ro l K e' h') (ro i).toList e h
def slotsOf (e : Env) : List Nat → Option (List Value)
  | [] => some []
  | i :: l => match slotE e i, slotsOf e l with
    | some v, some vs => some (v :: vs)
    | _, _ => none
def endS (l : List Nat) (R : List Value → Heap → Prop) (e : Env) (h : Heap) : Prop := match slotsOf e l with
  | some vs => R vs h
  | none => False
def regU (P : Program) (n : Nat) (ops : Array Oper) (K : Env → Heap → Prop) (e : Env) (h : Heap) : Prop :=
  bif U.mixB ops then U.wU P n h (fun e' => U.wT P n ops h K [] (U.heavyL 0 ops.toList) e' h) ops.toList e else False
def roundF (P : Program) (n : Nat) (ro : Nat → Array Oper) (ids : List Nat) (b : Nat) (C : Heap → Prop) (g : Heap → Heap) (R : Heap → Prop) (e : Env) (h : Heap) : Prop :=
  headF P n ro ids (fun e1 h1 => C h1 ∧ regU P n (ro b) (fun _ h2 => R h2) e1 (g h1)) e h
theorem regU_any {P : Program} {n : Nat} {ops : Array Oper} {K : Env → Heap → Prop} {e : Env} {h : Heap} (H : regU P n ops K e h) (B : World) {a : Act} (hs : Sat n e a) {R : Act → World → Prop}
    (hQ : ∀ e' a' d' h', Sat n e' a' → K e' h' → R a' (mk B d' h')) (d : Nat) : wpAny P .any ops (onlyN R) ops.size (Array.replicate ops.size false) a (mk B d h) := by
  unfold regU at H
  cases hB : U.mixB ops with
  | false => rw [hB] at H; exact H.elim
  | true =>
    rw [hB] at H
    exact U.mix_sound B hB H hs (fun e' a' d' h' q1 q2 q3 => hQ e' a' d' h' q1 q3) d
theorem reg_wp {P : Program} {n id : Nat} {ops : Array Oper} {K : Env → Heap → Prop} {e : Env} {h : Heap} (H : wR P n ops K ops.toList e h) (B : World) (d : Nat) {a : Act} (hs : Sat n e a) {Q : Exit → Act → World → Prop}
    (hQ : ∀ e' a' d' h', Sat n e' a' → K e' h' → Q .normal a' (mk B d' h')) : (Code.region id ops false).wp P Q a (mk B d h) :=
  wp_region_list (wR_sound B _ _ _ _ _ H hs fun e' a' d' h' q1 q2 q3 => hQ e' a' d' h' q1 q3)
theorem reg_in {P : Program} {n m id : Nat} {ro : Option Nat} {ops : Array Oper} (hd : ops.toList.all notDefer = true) {K : Env → Heap → Prop} {e : Env} {h : Heap} (H : wR P n ops K ops.toList e h) (B : World) (d : Nat) {a : Act} (hs : Sat n e a) {Q : Exit → Act → World → Prop}
    (hQ : ∀ e' a' d' h', Sat n e' a' → K e' h' → Q .normal a' (mk B d' h')) : (Code.region id ops false).wpIn (rf ro) m P Q a (mk B d h) := by
  refine wpIn_region_list ?_
  rw [← List.append_nil ops.toList]
  exact list_in (K := fun a' w' => Q .normal a' w') ops.toList [] _ _ hd (wR_sound B _ _ _ _ _ H hs fun e' a' d' h' q1 q2 q3 => hQ e' a' d' h' q1 q3) fun a w h => h
theorem regU_in {P : Program} (hm : P.follows .mixedOrders = true) {n m id : Nat} {ro : Option Nat} {ops : Array Oper} (hd : ops.toList.all notDefer = true) {K : Env → Heap → Prop} {e : Env} {h : Heap} (H : regU P n ops K e h) (B : World) (d : Nat) {a : Act} (hs : Sat n e a) {Q : Exit → Act → World → Prop}
    (hQ : ∀ e' a' d' h', Sat n e' a' → K e' h' → Q .normal a' (mk B d' h')) : (Code.region id ops true).wpIn (rf ro) m P Q a (mk B d h) := by
  have h1 : (Code.region id ops true).wpIn (rf ro) m P (onlyN fun a' w' => Q .normal a' w') a (mk B d h) := by
    refine wpIn_region_any hm (any_in (fun i o ho => ?_) _ _ _ _ (regU_any H B hs hQ (d + 1)))
    rw [List.all_eq_true] at hd
    obtain ⟨hlt, e⟩ := Array.getElem?_eq_some_iff.1 ho
    exact hd o (by rw [← e]; simp)
  exact wpIn_mono h1 fun x a' w' hx => by
    cases x with
    | normal => exact hx
    | _ => exact hx.elim
theorem regU_app {P : Program} (hm : P.follows .mixedOrders = true) {n id : Nat} {ops : Array Oper} {K : Env → Heap → Prop} {e : Env} {h : Heap} (H : regU P n ops K e h) (B : World) (d : Nat) {a : Act} (hs : Sat n e a) (D : List Deferred) {Q : Exit → Act → World → Prop}
    (hQ : ∀ e' a' d' h', Sat n e' a' → K e' h' → Q .normal (appD D a') (mk B d' h')) : (Code.region id ops true).wp P Q (appD D a) (mk B d h) := by
  have h1 := wp_region_any (id := id) (w := mk B d h) (a := appD D a) hm (any_app (D := D) _ _ _ _ (regU_any (R := fun a' w' => ∃ e' d' h', w' = mk B d' h' ∧ Sat n e' a' ∧ K e' h') H B hs (fun e' a' d' h' q1 q2 => ⟨e', d', h', rfl, q1, q2⟩) (d + 1)))
  exact wp_mono h1 fun x a' w' hx => by
    cases x with
    | normal => obtain ⟨a0, rfl, e', d', h', rfl, q1, q2⟩ := hx; exact hQ e' a0 d' h' q1 q2
    | _ => exact hx.elim
theorem sat_facts {n : Nat} {a : Act} (hd : a.defers = []) (hz : a.tmps.size = n) {e : Env} (hf : ∀ x ∈ e, x.2.1 = [] ∧ vals a x.1 = x.2.2) : Sat n e a :=
  ⟨hd, hz, fun x hx => by
    obtain ⟨h1, h2⟩ := hf x hx
    unfold fact
    rw [h1]
    exact ⟨fun _ => h2, fun hn => absurd trivial hn⟩⟩
theorem vals_set {t : Array Value} {i j : Nat} {v : Value} {D : List Deferred} (h : j ≠ i) : vals { tmps := t.setIfInBounds i v, defers := D } j = vals { tmps := t, defers := D } j := by
  unfold vals
  simp only [Array.getD_eq_getD_getElem?]
  rw [Array.getElem?_setIfInBounds_ne (Ne.symm h)]
theorem vals_set_self {t : Array Value} {i : Nat} {v : Value} {D : List Deferred} (h : i < t.size) : vals { tmps := t.setIfInBounds i v, defers := D } i = v := by
  unfold vals
  simp only [Array.getD_eq_getD_getElem?]
  rw [Array.getElem?_setIfInBounds_self_of_lt h]; rfl
abbrev Rec := LoopState → Option Code → Loop
theorem YX_of {P : Program} (hm : P.follows .mixedOrders = true) {n l p1 p2 : Nat} {ro : Nat → Array Oper} {i3 i4 i5 b1 : Nat} {fn : FuncId} {tmps : Array Value} {D : Nat} (h12 : p1 ≠ p2) (hp1 : p1 < n) (hp2 : p2 < n) (hz : tmps.size = n)
    (hd3 : (ro i3).toList.all notDefer = true) (hd4 : (ro i4).toList.all notDefer = true) (hd5 : (ro i5).toList.all notDefer = true)
    {rec : Rec} (hrec : rec = fun st pe => { state := st, pending := pe, fn := fn, tmps := tmps, params := #[p1, p2], assign := .seq (.region i3 (ro i3) false) (.region i4 (ro i4) false), body := .block b1 (.region i5 (ro i5) true), defers := D })
    {v1 v2 : Value} {e : Env} (he : ∀ x ∈ e, x.2.1 = [] ∧ x.1 ≠ p1 ∧ x.1 ≠ p2 ∧ tmps.getD x.1 undef = x.2.2) {h : Heap} (hl : h[l]? = some (.loop (rec .ready none))) {K : Value → Heap → Prop}
    (H : roundF P n ro [i3, i4] i5 (fun h1 => h1[l]? = some (.loop (rec .ready none))) (fun h1 => h1.setIfInBounds l (.loop (rec .busy none)))
      (fun h2 => h2[l]? = some (.loop (rec .busy none)) ∧ K (.bool true) (h2.setIfInBounds l (.loop (rec .ready none)))) ((p1, [], v1) :: (p2, [], v2) :: e) h) : YX P l #[v1, v2] h K := by
  intro m B d
  have hl' : (mk B d h).heap[l]? = some (.loop (rec .ready none)) := hl
  have hy := run_yield (P := P) (w := mk B d h) (args := #[v1, v2]) hl' (by rw [hrec]; rfl)
  refine ⟨_, _, _, _, hy, ?_⟩
  rw [hrec] at hy ⊢
  have key : RoundIn (rf none) m P l fn ((tmps.setIfInBounds p1 v1).setIfInBounds p2 v2) (.seq (.region i3 (ro i3) false) (.region i4 (ro i4) false)) (.block b1 (.region i5 (ro i5) true)) (mk B d h) (fun e w' => ∃ v d' h', e = .returned v ∧ w' = mk B d' h' ∧ K v h') := by
    refine roundIn_of_wpIn (F := rf none) trivial ?_
    have hF : (rf none).inRound l = rf (some l) := rfl
    rw [hF]
    have hs : Sat n ((p1, [], v1) :: (p2, [], v2) :: e) { tmps := (tmps.setIfInBounds p1 v1).setIfInBounds p2 v2, defers := [] } := by
      refine sat_facts rfl (by simp [hz]) ?_
      intro x hx
      rcases List.mem_cons.1 hx with rfl | hx
      · exact ⟨rfl, by rw [vals_set h12]; exact vals_set_self (by omega)⟩
      · rcases List.mem_cons.1 hx with rfl | hx
        · exact ⟨rfl, vals_set_self (by simp; omega)⟩
        · obtain ⟨q1, q2, q3, q4⟩ := he x hx
          exact ⟨q1, by rw [vals_set q3, vals_set q2]; exact q4⟩
    unfold roundF headF headF headF at H
    refine wpIn_seq (reg_in hd3 H B d hs fun e1 a1 d1 h1 s1 k1 => ?_)
    show (Code.region i4 (ro i4) false).wpIn (rf (some l)) m P _ a1 (mk B d1 h1)
    refine reg_in hd4 k1 B d1 s1 fun e2 a2 d2 h2 s2 k2 => ?_
    obtain ⟨k3, k4⟩ := k2
    have k3' : (mk B d2 h2).heap[l]? = some (.loop (rec .ready none)) := k3
    have hb := run_beginRound (P := P) k3' (by rw [hrec])
    refine ⟨_, hb, ?_⟩
    have hbusy : ({ rec .ready none with state := .busy } : Loop) = rec .busy none := by rw [hrec]
    rw [hbusy]
    show (Code.block b1 (.region i5 (ro i5) true)).wpIn (rf (some l)) m P _ a2 (mk B d2 (h2.setIfInBounds l (.loop (rec .busy none))))
    refine wpIn_block (regU_in hm hd5 k4 B d2 s2 fun e3 a3 d3 h3 s3 k5 => ?_)
    obtain ⟨k6, k7⟩ := k5
    have k6' : (mk B d3 h3).heap[l]? = some (.loop (rec .busy none)) := k6
    have hend := run_endRound (P := P) none k6'
    simp only [Exit.inBlock]
    refine ⟨_, _, hend, .bool true, d3, h3.setIfInBounds l (.loop (rec .ready none)), rfl, ?_, k7⟩
    have hrd : ({ rec .busy none with state := if (none : Option Code).isNone then .ready else .done, pending := none } : Loop) = rec .ready none := by rw [hrec]; rfl
    rw [hrd]; rfl
  show RoundIn (rf none) m P l fn (Array.foldl (fun (t : Array Value) (x : Tmp × Value) => t.setIfInBounds x.1 x.2) tmps (#[p1, p2].zip #[v1, v2])) _ _ _ _
  have zs : Array.foldl (fun (t : Array Value) (x : Tmp × Value) => t.setIfInBounds x.1 x.2) tmps (#[p1, p2].zip #[v1, v2]) = (tmps.setIfInBounds p1 v1).setIfInBounds p2 v2 := by simp
  rw [zs]
  exact key
theorem slots5 {e : Env} {i1 i2 i5 i7 i12 : Nat} {R : List Value → Heap → Prop} {h : Heap} (H : endS [i1, i2, i5, i7, i12] R e h) : ∃ v1 v2 v5 v7 v12, slotE e i1 = some v1 ∧ slotE e i2 = some v2 ∧ slotE e i5 = some v5 ∧ slotE e i7 = some v7 ∧ slotE e i12 = some v12 ∧ R [v1, v2, v5, v7, v12] h := by
  unfold endS at H
  split at H
  · rename_i vs hv
    simp only [slotsOf] at hv
    split at hv
    · rename_i v1 us1 h1 r1
      split at r1
      · rename_i v2 us2 h2 r2
        split at r2
        · rename_i v5 us5 h5 r5
          split at r5
          · rename_i v7 us7 h7 r7
            split at r7
            · rename_i v12 us12 h12 r12
              cases r12; cases r7; cases r5; cases r2; cases r1; cases hv
              exact ⟨v1, v2, v5, v7, v12, h1, h2, h5, h7, h12, H⟩
            · cases r7
          · cases r5
        · cases r2
      · cases r1
    · cases hv
  · exact H.elim
def tailF (P : Program) (n : Nat) (ro : Nat → Array Oper) (i6 : Nat) (rs : List ResultVar) (D : Nat) (R : Value → Heap → Prop) (e : Env) (h : Heap) : Prop :=
  regU P n (ro i6) (fun e h1 => h1[D]? = some (.deferred (some [])) ∧ resF P (h1.setIfInBounds D (.deferred none)) e rs fun vs => R (packV vs) (h1.setIfInBounds D (.deferred none))) e h
theorem XC_range {P : Program} (hm : P.follows .mixedOrders = true) {f : FuncId} {fn : Func} {n : Nat} {ro : Nat → Array Oper} {rs : List ResultVar} (hf : P.funcs[f]? = some fn)
    (hb : fn.body = some (.seq (.region 0 (ro 0) false) (.seq (.region 1 (ro 1) false) (.seq (.seq (.region 2 (ro 2) false) (.block 0 (.rangeFunc (.tmp 12) #[13, 14] (.seq (.region 3 (ro 3) false) (.region 4 (ro 4) false)) (.block 1 (.region 5 (ro 5) true))))) (.seq (.region 6 (ro 6) true) .ret)))))
    (hd3 : (ro 3).toList.all notDefer = true) (hd4 : (ro 4).toList.all notDefer = true) (hd5 : (ro 5).toList.all notDefer = true) (hr : fn.results.toList = rs) (hn : fn.ntmps = n) (hn15 : 15 ≤ n) (vs : List Value) (hz : Nat.ble vs.length n = true) {h : Heap} {R : Value → Heap → Prop}
    (H : headF P n ro [0, 1, 2] (endS [1, 2, 5, 7, 12] fun l h1 => ∃ v1 v2 v5 v7 g lb, l = [v1, v2, v5, v7, .func (.func g) #[] lb] ∧ callable P g = true ∧
      ∀ rec : Rec, (∀ {v1' v2' : Value} {h2 : Heap} {K : Value → Heap → Prop}, h2[h1.size + 1]? = some (.loop (rec .ready none)) →
          roundF P n ro [3, 4] 5 (fun h3 => h3[h1.size + 1]? = some (.loop (rec .ready none))) (fun h3 => h3.setIfInBounds (h1.size + 1) (.loop (rec .busy none)))
            (fun h4 => h4[h1.size + 1]? = some (.loop (rec .busy none)) ∧ K (.bool true) (h4.setIfInBounds (h1.size + 1) (.loop (rec .ready none)))) [(13, [], v1'), (14, [], v2'), (2, [], v2), (7, [], v7)] h2 → YX P (h1.size + 1) #[v1', v2'] h2 K) →
        XCI P g (#[.func (.yield (h1.size + 1)) #[] #[]] ++ lb) ((h1.push (.deferred (some []))).push (.loop (rec .ready none))) fun _ h5 => h5[h1.size + 1]? = some (.loop (rec .ready none)) ∧
          tailF P n ro 6 rs h1.size R [(1, [], v1), (2, [], v2), (5, [], v5), (7, [], v7)] (h5.setIfInBounds (h1.size + 1) (.loop (rec .exhausted none)))) (argE 0 vs) h) : XC P f vs.toArray h R := by
  intro B d
  refine callsIn_wide.1 (callsIn_of_wp_marks (F := Fence.wide) (n := 1) hf hb trivial ?_ rfl)
  subst hn
  have hz' : vs.length ≤ fn.ntmps := Nat.le_of_ble_eq_true hz
  have hs : Sat fn.ntmps (argE 0 vs) { tmps := vs.toArray ++ Array.replicate (fn.ntmps - vs.toArray.size) undef, defers := [] } := by
    refine ⟨rfl, by simp; omega, ?_⟩
    refine argE_facts vs.toArray _ vs 0 fun j v hj => ?_
    have hj' : j < vs.length := by
      rcases Nat.lt_or_ge j vs.length with h | h
      · exact h
      · rw [List.getElem?_eq_none h] at hj; cases hj
    simp only [Nat.zero_add, Array.getD_eq_getD_getElem?]
    rw [Array.getElem?_append_left (by simpa using hj')]
    simp [hj]
  unfold headF headF headF headF at H
  refine wpIn_seq (wpIn_wide.2 (reg_wp H B d hs fun e1 a1 d1 h1 s1 k1 => ?_))
  show Code.wpIn Fence.wide 1 P _ _ a1 (mk B d1 h1)
  refine wpIn_seq (wpIn_wide.2 (reg_wp k1 B d1 s1 fun e2 a2 d2 h2 s2 k2 => ?_))
  show Code.wpIn Fence.wide 1 P _ _ a2 (mk B d2 h2)
  refine wpIn_seq (wpIn_seq (wpIn_wide.2 (reg_wp k2 B d2 s2 fun e3 a3 d3 h3 s3 k3 => ?_)))
  show Code.wpIn Fence.wide 1 P _ _ a3 (mk B d3 h3)
  obtain ⟨u1, u2, u5, u7, u12, q1, q2, q5, q7, q12, v1, v2, v5, v7, g, lb, hl, hg, HR⟩ := slots5 k3
  simp only [List.cons.injEq, and_true] at hl
  obtain ⟨rfl, rfl, rfl, rfl, rfl⟩ := hl
  have w1 := slotE_sound s3 q1
  have w2 := slotE_sound s3 q2
  have w5 := slotE_sound s3 q5
  have w7 := slotE_sound s3 q7
  have w12 := slotE_sound s3 q12
  refine wpIn_block (wpIn_rangeFunc fun fn' _ => ?_)
  obtain ⟨rec, hrec⟩ : ∃ rec : Rec, rec = fun st pe => { state := st, pending := pe, fn := fn', tmps := a3.tmps, params := #[13, 14], assign := .seq (.region 3 (ro 3) false) (.region 4 (ro 4) false), body := .block 1 (.region 5 (ro 5) true), defers := h3.size } := ⟨_, rfl⟩
  have hit := HR rec (fun {v1' v2' h2 K} hl hro => YX_of hm (by decide) (by omega) (by omega) s3.size hd3 hd4 hd5 hrec (fun x hx => by
    rcases List.mem_cons.1 hx with rfl | hx
    · exact ⟨rfl, (by show (2 : Nat) ≠ 13; decide), (by show (2 : Nat) ≠ 14; decide), w2⟩
    · rw [List.mem_singleton] at hx; subst hx; exact ⟨rfl, (by show (7 : Nat) ≠ 13; decide), (by show (7 : Nat) ≠ 14; decide), w7⟩) hl hro)
  have he12 : a3.eval (.tmp 12) = .func (.func g) #[] lb := w12
  refine ⟨h3.size + 1, [{ target := .collected h3.size, args := #[] }], mk B d3 ((h3.push (.deferred (some []))).push (.loop (rec .ready none))), { target := .fn (.func g) lb, args := #[.func (.yield (h3.size + 1)) #[] #[]] }, mk B d3 ((h3.push (.deferred (some []))).push (.loop (rec .ready none))), g,
    #[.func (.yield (h3.size + 1)) #[] #[]] ++ lb, mk B d3 ((h3.push (.deferred (some []))).push (.loop (rec .ready none))), ?_, ?_, fun _ _ => trivial, ?_, fun _ => Nat.le_refl _, ?_⟩
  · rw [hrec]; exact run_enterLoop_outer _ _ _ _ _
  · simp only [resolve, he12]
    simp [go_sem, Deferred.ofValue]
  · simp only [invoke]
    exact callFunc_run hg _ _
  · have hc := hit 0 B d3
    refine CallsIn.mono (F := Fence.wide) hc ?_
    rintro e' w' ⟨v, d5, h5, rfl, rfl, hl5, ht⟩
    have hl5' : (mk B d5 h5).heap[h3.size + 1]? = some (.loop (rec .ready none)) := hl5
    have hend : (Instr.endLoop (h3.size + 1)).run P (mk B d5 h5) = .ok none (mk B d5 (h5.setIfInBounds (h3.size + 1) (.loop (rec .exhausted none)))) := by
      have := run_endLoop (P := P) hl5' (by rw [hrec]; intro hx; cases hx)
      rw [hrec] at this ⊢
      exact this
    refine ⟨none, _, hend, ?_⟩
    simp only [Exit.inBlock]
    show Code.wpIn Fence.wide 1 P (.seq (.region 6 (ro 6) true) .ret) _ _ (mk B d5 (h5.setIfInBounds (h3.size + 1) (.loop (rec .exhausted none))))
    have hs6 : Sat fn.ntmps [(1, [], u1), (2, [], u2), (5, [], u5), (7, [], u7)] a3 := sat_facts s3.defers s3.size fun x hx => by
      simp only [List.mem_cons, List.not_mem_nil, or_false] at hx
      rcases hx with rfl | rfl | rfl | rfl
      · exact ⟨rfl, w1⟩
      · exact ⟨rfl, w2⟩
      · exact ⟨rfl, w5⟩
      · exact ⟨rfl, w7⟩
    have ha : ({ a3 with defers := [{ target := .collected h3.size, args := #[] }] ++ a3.defers } : Act) = appD [{ target := .collected h3.size, args := #[] }] a3 := by
      unfold appD; rw [s3.defers]; rfl
    rw [ha]
    refine wpIn_seq (wpIn_wide.2 (regU_app hm ht B d5 hs6 _ fun e6 a6 d6 h6 s6 k6 => ?_))
    show Code.wpIn Fence.wide 1 P .ret _ _ (mk B d6 h6)
    refine wpIn_ret ?_
    obtain ⟨hD, hres⟩ := k6
    obtain ⟨v', hv', hq'⟩ := results_run s6 hr hres
    have hD' : (mk B d6 h6).heap[h3.size]? = some (.deferred (some [])) := hD
    have htk := run_takeDeferred (P := P) hD'
    have hdf : (appD [{ target := .collected h3.size, args := #[] }] a6).defers = [{ target := .collected h3.size, args := #[] }] := by unfold appD; rw [s6.defers]; rfl
    show LeavesInM _ _ _ _ _ _ (appD [{ target := .collected h3.size, args := #[] }] a6).defers _ _
    rw [hdf]
    exact ⟨by simp, .inl ⟨_, _, rfl, htk, v', hq' B d6, v', d6, h6.setIfInBounds h3.size (.deferred none), rfl, rfl, hv'⟩⟩
end Go.X
end
section
namespace Go.Proofs.YtaoceiiakcpbaaaGreatDoor
open Go Go.X Go.Proofs
set_option linter.unusedVariables false
set_option maxRecDepth 100000
theorem yi_pointer_walk_1 (yield0 : Nat) (c1 : Addr) (c2 : Addr) (h : Heap) (R : Value → Heap → Prop)
    (H : ∃ x7_1 : Sl, cellH h c1 = some (.slice x7_1.a x7_1.len x7_1.cap) ∧ ∃ (I_2 : Int → Heap → Prop) (μ_3 : Int → Heap → Nat), I_2 0 h ∧ ∀ x9_4 : Int, ∀ h_5 : Heap, I_2 x9_4 h_5 → (((decide ((x9_4 : Int) < ((x7_1.len : Nat) : Int))) = true → ∃ a_6 : Addr, (x7_1.a = some a_6 ∧ 0 ≤ (x9_4 : Int) ∧ (x9_4 : Int) < ((x7_1.len : Nat) : Int)) ∧ ∃ x12_7 : ByteArray, cellH h_5 (a_6.add ((x9_4 : Int).toNat * 1)) = some (.string x12_7) ∧ ∃ x13_8 : Int, ∃ x13_9 : ByteArray, ∃ x13_10 : Sl, ∃ x13_11 : Sl, ldList h_5 c2 0 [.int .i64 x13_8, .string x13_9, .slice x13_10.a x13_10.len x13_10.cap, .slice x13_11.a x13_11.len x13_11.cap] ∧ XC Tryz.prog 99 #[.agg #[.int .i64 x13_8, .string x13_9, .slice x13_10.a x13_10.len x13_10.cap, .slice x13_11.a x13_11.len x13_11.cap], .string x12_7] h_5 (fun v_12 h_13 => ∃ x15_14 : Int, v_12 = .int .i64 x15_14 ∧ ((decide ((x15_14 : Int) < 0)) = true → R (.tuple #[]) h_13) ∧ ((decide ((x15_14 : Int) < 0)) = false → ∃ x19_15 : Sl, cellH h_13 (Addr.add c2 3) = some (.slice x19_15.a x19_15.len x19_15.cap) ∧ ∃ a_16 : Addr, (x19_15.a = some a_16 ∧ 0 ≤ (x15_14 : Int) ∧ (x15_14 : Int) < ((x19_15.len : Nat) : Int)) ∧ ∃ x22_17 : Int, ∃ x22_18 : ByteArray, ∃ x22_19 : Sl, ∃ x22_20 : Sl, ldList h_13 (a_16.add ((x15_14 : Int).toNat * 4)) 0 [.int .i64 x22_17, .string x22_18, .slice x22_19.a x22_19.len x22_19.cap, .slice x22_20.a x22_20.len x22_20.cap] ∧ XRunU Tryz.prog (Instr.storeAt 34 (.pointer (some c2)) (.agg #[.int .i64 x22_17, .string x22_18, .slice x22_19.a x22_19.len x22_19.cap, .slice x22_20.a x22_20.len x22_20.cap])) h_13 (fun h_21 => ∃ x25_22 : Int, ∃ x25_23 : ByteArray, ∃ x25_24 : Sl, ∃ x25_25 : Sl, ldList h_21 c2 0 [.int .i64 x25_22, .string x25_23, .slice x25_24.a x25_24.len x25_24.cap, .slice x25_25.a x25_25.len x25_25.cap] ∧ YX Tryz.prog yield0 #[.int .i64 x15_14, .agg #[.int .i64 x25_22, .string x25_23, .slice x25_24.a x25_24.len x25_24.cap, .slice x25_25.a x25_25.len x25_25.cap]] h_21 (fun v_26 h_27 => ∃ x26_28 : Bool, v_26 = .bool x26_28 ∧ ((!x26_28) = true → R (.tuple #[]) h_27) ∧ ((!x26_28) = false → (I_2 (IntKind.wrap .i64 (x9_4 + 1)) h_27 ∧ μ_3 (IntKind.wrap .i64 (x9_4 + 1)) h_27 < μ_3 x9_4 h_5))))))) ∧ ((decide ((x9_4 : Int) < ((x7_1.len : Nat) : Int))) = false → R (.tuple #[]) h_5))) :
    XCI Tryz.prog 98 #[.func (.yield yield0) #[] #[], .pointer (some c1), .pointer (some c2)] h R :=
  XCI_of_code Tryz.mixed ⟨[], [(1, [(9, .one (.int .i64))])], []⟩ [.func (.yield yield0) #[] #[], .pointer (some c1), .pointer (some c2)] (rs := []) (n := 29) Tryz.func98 (by kernel_rfl) (by kernel_rfl) (by kernel_rfl) (by kernel_rfl) (Eq.mp (by kernel_rfl) H)
theorem hd_pointer_leads (v0_0 : Int) (v0_1 : ByteArray) (v0_2 : Sl) (v0_3 : Sl) (path1 : Sl) (h : Heap) (R : List Value → Heap → Prop)
    (H : let h_1 : Heap := Array.push h (.cells #[.int .i64 v0_0, .string v0_1, .slice v0_2.a v0_2.len v0_2.cap, .slice v0_3.a v0_3.len v0_3.cap] 34); let h_2 : Heap := Array.push h_1 (.cells #[.int .i64 0, .string (⟨#[]⟩ : ByteArray), .slice none 0 0, .slice none 0 0] 34); let h_3 : Heap := Array.push h_2 (.cells #[.slice none 0 0] 71); ∃ x10_4 : Int, ∃ x10_5 : ByteArray, ∃ x10_6 : Sl, ∃ x10_7 : Sl, ldList h_3 ⟨Array.size h, 0, none⟩ 0 [.int .i64 x10_4, .string x10_5, .slice x10_6.a x10_6.len x10_6.cap, .slice x10_7.a x10_7.len x10_7.cap] ∧ XC Tryz.prog 69 #[.agg #[.int .i64 x10_4, .string x10_5, .slice x10_6.a x10_6.len x10_6.cap, .slice x10_7.a x10_7.len x10_7.cap], .slice path1.a path1.len path1.cap] h_3 (fun v_8 h_9 => ∃ x12_10 : Value, v_8 = x12_10 ∧ R [.slice path1.a path1.len path1.cap, .pointer (some ⟨Array.size h, 0, none⟩), .pointer (some ⟨Array.size h_1, 0, none⟩), .pointer (some ⟨Array.size h_2, 0, none⟩), x12_10] h_9)) :
    headF Tryz.prog 27 (ropsOf (codeOf Tryz.f46)) [0, 1, 2] (endS [1, 2, 5, 7, 12] R) [(0, [], .agg #[.int .i64 v0_0, .string v0_1, .slice v0_2.a v0_2.len v0_2.cap, .slice v0_3.a v0_3.len v0_3.cap]), (1, [], .slice path1.a path1.len path1.cap)] h :=
  Eq.mp (by kernel_rfl) H
theorem rd_pointer_leads (x13 : Int) (x14_0 : Int) (x14_1 : ByteArray) (x14_2 : Sl) (x14_3 : Sl) (x2 : Addr) (x7 : Addr) (h : Heap) (C : Heap → Prop) (g : Heap → Heap) (R : Heap → Prop)
    (H : let h_11 : Heap := Array.push h (.cells #[.int .i64 0, .string (⟨#[]⟩ : ByteArray), .slice none 0 0, .slice none 0 0] 34); XRunU Tryz.prog (Instr.storeAt 34 (.pointer (some ⟨Array.size h, 0, none⟩)) (.agg #[.int .i64 x14_0, .string x14_1, .slice x14_2.a x14_2.len x14_2.cap, .slice x14_3.a x14_3.len x14_3.cap])) h_11 (fun h_12 => C h_12 ∧ ∃ x15_13 : Sl, cellH (g h_12) x7 = some (.slice x15_13.a x15_13.len x15_13.cap) ∧ ∃ x19_14 : Int, ∃ x19_15 : ByteArray, ∃ x19_16 : Sl, ∃ x19_17 : Sl, ldList (g h_12) ⟨Array.size h, 0, none⟩ 0 [.int .i64 x19_14, .string x19_15, .slice x19_16.a x19_16.len x19_16.cap, .slice x19_17.a x19_17.len x19_17.cap] ∧ let h_18 : Heap := Array.push (g h_12) (.cells #[.int .i64 x13] 3); ((h_18)[(⟨Array.size h, 0, none⟩ : Addr).block]? = ((g h_12))[(⟨Array.size h, 0, none⟩ : Addr).block]? ∧ (h_18)[(x7 : Addr).block]? = ((g h_12))[(x7 : Addr).block]? ∧ True) ∧ XRun Tryz.prog (Builtin.append_ #[71, 71] 71 #[.slice x15_13.a x15_13.len x15_13.cap, .slice (some ⟨Array.size (g h_12), 0, none⟩) 1 1]) h_18 (fun v_19 h_20 => ∃ x18_21 : Sl, v_19 = .slice x18_21.a x18_21.len x18_21.cap ∧ ((h_20)[(⟨Array.size h, 0, none⟩ : Addr).block]? = ((g h_12))[(⟨Array.size h, 0, none⟩ : Addr).block]? ∧ True) ∧ XRunU Tryz.prog (Instr.storeAt 71 (.pointer (some x7)) (.slice x18_21.a x18_21.len x18_21.cap)) h_20 (fun h_22 => ((h_22)[(⟨Array.size h, 0, none⟩ : Addr).block]? = ((g h_12))[(⟨Array.size h, 0, none⟩ : Addr).block]? ∧ True) ∧ XRunU Tryz.prog (Instr.storeAt 34 (.pointer (some x2)) (.agg #[.int .i64 x19_14, .string x19_15, .slice x19_16.a x19_16.len x19_16.cap, .slice x19_17.a x19_17.len x19_17.cap])) h_22 (fun h_23 => R h_23))))) :
    roundF Tryz.prog 27 (ropsOf (codeOf Tryz.f46)) [3, 4] 5 C g R [(13, [], .int .i64 x13), (14, [], .agg #[.int .i64 x14_0, .string x14_1, .slice x14_2.a x14_2.len x14_2.cap, .slice x14_3.a x14_3.len x14_3.cap]), (2, [], .pointer (some x2)), (7, [], .pointer (some x7))] h :=
  Eq.mp (by kernel_rfl) H
theorem tl_pointer_leads (x1 : Sl) (x2 : Addr) (x5 : Addr) (x7 : Addr) (h : Heap) (C : Heap → Prop) (g : Heap → Heap) (R : Value → Heap → Prop)
    (H : ∃ x20_24 : Sl, cellH h x7 = some (.slice x20_24.a x20_24.len x20_24.cap) ∧ ∃ x21_25 : Int, ∃ x21_26 : ByteArray, ∃ x21_27 : Sl, ∃ x21_28 : Sl, ldList h x2 0 [.int .i64 x21_25, .string x21_26, .slice x21_27.a x21_27.len x21_27.cap, .slice x21_28.a x21_28.len x21_28.cap] ∧ ∃ x22_29 : Sl, cellH h x7 = some (.slice x22_29.a x22_29.len x22_29.cap) ∧ XRunU Tryz.prog (Instr.storeAt 34 (.pointer (some x5)) (.agg #[.int .i64 x21_25, .string x21_26, .slice x21_27.a x21_27.len x21_27.cap, .slice x21_28.a x21_28.len x21_28.cap])) h (fun h_30 => ((h_30)[(x7 : Addr).block]? = (h)[(x7 : Addr).block]? ∧ True) ∧ C h_30 ∧ ∃ r_31 : Int, ∃ r_32 : ByteArray, ∃ r_33 : Sl, ∃ r_34 : Sl, ldList (g h_30) x5 0 [.int .i64 r_31, .string r_32, .slice r_33.a r_33.len r_33.cap, .slice r_34.a r_34.len r_34.cap] ∧ R (.tuple #[.slice x20_24.a x20_24.len x20_24.cap, .agg #[.int .i64 r_31, .string r_32, .slice r_33.a r_33.len r_33.cap, .slice r_34.a r_34.len r_34.cap], .bool ((((x22_29.len : Nat) : Int) : Int) == ((x1.len : Nat) : Int))]) (g h_30))) :
    regU Tryz.prog 27 ((ropsOf (codeOf Tryz.f46)) 6) (fun e h1 => C h1 ∧ resF Tryz.prog (g h1) e [.tmp 4, .cell 5 34, .tmp 6] fun vs => R (packV vs) (g h1)) [(1, [], .slice x1.a x1.len x1.cap), (2, [], .pointer (some x2)), (5, [], .pointer (some x5)), (7, [], .pointer (some x7))] h :=
  Eq.mp (by kernel_rfl) H
end Go.Proofs.YtaoceiiakcpbaaaGreatDoor
end
section
namespace Go.Proofs.YtaoceiiakcpbaaaGreatDoor
open Go Go.X Go.Proofs
set_option linter.unusedVariables false
theorem elemInt : ElemT Tryz.prog 71 3 (.int .i64 0) 1 8 := ⟨by kernel_rfl, ⟨Tryz.t3, by kernel_rfl, by kernel_rfl, by kernel_rfl, by kernel_rfl⟩, rfl, by omega⟩
theorem okInts : okInfo Tryz.prog 71 = true := by kernel_rfl
theorem szInts : szOf Tryz.prog 71 = 1 := by kernel_rfl
def intV (l : List Int) : List Value := l.map (Value.int .i64)
structure LI (h0 : Heap) (M : Fr) (rec : Rec) (sp : Sl) (w x : Tr) (os : List Int) (g : Heap) : Prop where
  keep : Keep h0.size h0 g
  size : h0.size + 7 ≤ g.size
  v : ∃ sk si, Blk g h0.size (tcells w.kind w.text sk si).toArray ∧ Rd M (.row .str) w.keys [slV sk] ∧ Rd M (.row .tree) w.items [slV si]
  z : Blk g (h0.size + 1) (tcells 0 ⟨#[]⟩ ⟨none, 0, 0⟩ ⟨none, 0, 0⟩).toArray
  o : ∃ so, Blk g (h0.size + 2) #[slV so] ∧ Owns g (h0.size + 7) 3 1 so (intV os) ∧ so.len = os.length
  c : ∃ sk si, Blk g (h0.size + 3) (tcells x.kind x.text sk si).toArray ∧ Rd M (.row .str) x.keys [slV sk] ∧ Rd M (.row .tree) x.items [slV si]
  p : Blk g (h0.size + 4) #[slV sp]
  d : g[h0.size + 5]? = some (.deferred (some []))
  l : g[h0.size + 6]? = some (.loop (rec .ready none))
theorem LI.frame {h0 : Heap} {M : Fr} {rec : Rec} {sp : Sl} {w x : Tr} {os : List Int} {g g' : Heap} (I : LI h0 M rec sp w x os g) (k : Keep g.size g g') : LI h0 M rec sp w x os g' := by
  have hs := I.size
  have hk := k.size
  obtain ⟨sk, si, v1, v2, v3⟩ := I.v
  obtain ⟨so, o1, o2, o3⟩ := I.o
  obtain ⟨tk, ti, c1, c2, c3⟩ := I.c
  exact ⟨⟨by have := I.keep.size; omega, fun i hi => (k.get i (by omega)).trans (I.keep.get i hi)⟩, by omega, ⟨sk, si, v1.ofKeep k, v2, v3⟩, I.z.ofKeep k, ⟨so, o1.ofKeep k, o2.keepN k, o3⟩, ⟨tk, ti, c1.ofKeep k, c2, c3⟩, I.p.ofKeep k, by rw [k.get _ (by omega)]; exact I.d, by rw [k.get _ (by omega)]; exact I.l⟩
theorem set_ne' {h : Heap} {l i : Nat} {o : Obj} (hi : i ≠ l) : (h.setIfInBounds l o)[i]? = h[i]? := Array.getElem?_setIfInBounds_ne (Ne.symm hi)
theorem set_self' {h : Heap} {l : Nat} {o : Obj} (hl : l < h.size) : (h.setIfInBounds l o)[l]? = some o := Array.getElem?_setIfInBounds_self_of_lt hl
set_option maxRecDepth 100000 in
set_option maxHeartbeats 2000000 in
theorem round_ok {h0 : Heap} {M : Fr} {rec : Rec} {sp : Sl} {w x : Tr} {os : List Int} {h : Heap} (I : LI h0 M rec sp w x os h) (r : Int) (hos : os.length < 1000000) {sk si : Sl} (hk : Rd M (.row .str) x.keys [slV sk]) (hi : Rd M (.row .tree) x.items [slV si]) {K : Value → Heap → Prop}
    (hK : ∀ h', LI h0 M rec sp x x (os ++ [r]) h' → K (.bool true) h') :
    roundF Tryz.prog 27 (ropsOf (codeOf Tryz.f46)) [3, 4] 5 (fun h3 => h3[h0.size + 6]? = some (.loop (rec .ready none))) (fun h3 => h3.setIfInBounds (h0.size + 6) (.loop (rec .busy none)))
      (fun h4 => h4[h0.size + 6]? = some (.loop (rec .busy none)) ∧ K (.bool true) (h4.setIfInBounds (h0.size + 6) (.loop (rec .ready none))))
      [(13, [], .int .i64 r), (14, [], .agg #[.int .i64 x.kind, .string x.text, .slice sk.a sk.len sk.cap, .slice si.a si.len si.cap]), (2, [], .pointer (some ⟨h0.size, 0, none⟩)), (7, [], .pointer (some ⟨h0.size + 2, 0, none⟩))] h := by
  have hs := I.size
  obtain ⟨so, o1, o2, o3⟩ := I.o
  obtain ⟨vk, vi, v1, v2, v3⟩ := I.v
  obtain ⟨ck, ci, c1, c2, c3⟩ := I.c
  have hsb : ∀ p, so.a = some p → h0.size + 7 ≤ p.block ∧ p.block < h.size := fun p hp => o2.base_le p hp
  refine rd_pointer_leads r x.kind x.text sk si ⟨h0.size, 0, none⟩ ⟨h0.size + 2, 0, none⟩ h _ _ _ ?_
  intro h11
  have z11 : h11.size = h.size + 1 := Array.size_push _
  have k11 : Keep h.size h h11 := Keep.push _ _ (Nat.le_refl _)
  have b11 : Blk h11 h.size (tcells 0 ⟨#[]⟩ ⟨none, 0, 0⟩ ⟨none, 0, 0⟩).toArray := Blk.new _ _ _
  clear_value h11
  refine storeTree b11 rfl _ _ _ _ fun h12 b12 z12 f12 => ?_
  have g12 : ∀ i, i < h.size → h12[i]? = h[i]? := fun i hi => (f12 i (by omega)).trans (k11.get i hi)
  refine ⟨by rw [g12 _ (by omega)]; exact I.l, ?_⟩
  generalize hG : h12.setIfInBounds (h0.size + 6) (.loop (rec .busy none)) = G
  have zG : G.size = h.size + 1 := by rw [← hG, Array.size_setIfInBounds]; omega
  have gG : ∀ i, i < h.size → i ≠ h0.size + 6 → G[i]? = h[i]? := fun i hi hn => by rw [← hG, set_ne' hn]; exact g12 i hi
  have lG : G[h0.size + 6]? = some (.loop (rec .busy none)) := by rw [← hG]; exact set_self' (by omega)
  have bG : Blk G h.size (tcells x.kind x.text sk si).toArray := b12.keep (by rw [← hG, set_ne' (by omega)])
  have oG : Blk G (h0.size + 2) #[slV so] := o1.keep (gG _ (by omega) (by omega))
  refine ⟨so, oG.cell (o := 0) rfl, x.kind, x.text, sk, si, bG.ld (cs := tcells x.kind x.text sk si), ?_⟩
  intro h18
  have z18 : h18.size = h.size + 2 := by show (G.push _).size = _; rw [Array.size_push, zG]
  have k18 : Keep G.size G h18 := Keep.push _ _ (Nat.le_refl _)
  have b18 : Blk h18 G.size #[.int .i64 r] := Blk.new _ _ _
  clear_value h18
  refine ⟨⟨k18.get _ (by show h.size < _; omega), k18.get _ (by show h0.size + 2 < _; omega), trivial⟩, ?_⟩
  have oo18 : Owns h18 (h0.size + 7) 3 1 so (intV os) := o2.keep fun p hp => by
    have := hsb p hp
    rw [k18.get _ (by omega), gG _ (by omega) (by omega)]
  refine append_own elemInt oo18 (src := ⟨some ⟨G.size, 0, none⟩, 1, 1⟩) (news := [.int .i64 r]) (n := h18.size) ?_ rfl (by simp [Value.oneCell']) (by simp only; omega) (by simp only; omega) (by omega) fun s' h20 q1 q2 q3 q4 q5 => ⟨s', rfl, ?_⟩
  · refine .inr ⟨G.size, 0, rfl, by omega, fun i v hv => ?_⟩
    match i, hv with
    | 0, hv => cases hv; exact b18.cell rfl
  have g20 : ∀ i, i < h18.size → (∀ p, so.a = some p → i ≠ p.block) → h20[i]? = h18[i]? := q3
  have t20 : h20[h.size]? = G[h.size]? := (g20 _ (by omega) fun p hp => by have := hsb p hp; omega).trans (k18.get _ (by omega))
  refine ⟨⟨t20, trivial⟩, ?_⟩
  have low20 : ∀ i, i < h0.size + 7 → i ≠ h0.size + 6 → h20[i]? = h[i]? := fun i hi hn => (g20 i (by omega) fun p hp => by have := hsb p hp; omega).trans ((k18.get _ (by omega)).trans (gG i (by omega) hn))
  have l20 : h20[h0.size + 6]? = some (.loop (rec .busy none)) := (g20 _ (by omega) fun p hp => by have := hsb p hp; omega).trans ((k18.get _ (by omega)).trans lG)
  refine storeN (vs := [slV s']) okInts (o1.keep (low20 _ (by omega) (by omega))) rfl szInts (by simp) (by simp [Value.oneCell', slV]) fun h22 b22 z22 f22 => ?_
  have e22 : upd #[slV so] 0 [slV s'] = #[slV s'] := by simp [upd]
  rw [e22] at b22
  refine ⟨⟨(f22 _ (by show h.size ≠ _; omega)).trans t20, trivial⟩, ?_⟩
  refine storeTree (v1.keep ((f22 _ (by omega)).trans (low20 _ (by omega) (by omega)))) rfl _ _ _ _ fun h23 b23 z23 f23 => ?_
  have l23 : h23[h0.size + 6]? = some (.loop (rec .busy none)) := (f23 _ (by omega)).trans ((f22 _ (by omega)).trans l20)
  refine ⟨l23, hK _ ?_⟩
  have low : ∀ i, i < h0.size + 7 → i ≠ h0.size + 6 → i ≠ h0.size → i ≠ h0.size + 2 → (h23.setIfInBounds (h0.size + 6) (.loop (rec .ready none)))[i]? = h[i]? := fun i hi h1 h2 h3 => (set_ne' h1).trans ((f23 _ h2).trans ((f22 _ h3).trans (low20 i hi h1)))
  have q1' : s'.len = so.len + 1 := q1
  refine ⟨⟨by rw [Array.size_setIfInBounds]; have := I.keep.size; omega, fun i hi => (low i (by omega) (by omega) (by omega) (by omega)).trans (I.keep.get i hi)⟩, by rw [Array.size_setIfInBounds]; omega, ⟨sk, si, b23.keep (set_ne' (by omega)), hk, hi⟩, I.z.keep (low _ (by omega) (by omega) (by omega) (by omega)), ⟨s', b22.keep ((set_ne' (by omega)).trans (f23 _ (by omega))), ?_, by rw [q1', o3]; simp⟩, ⟨ck, ci, c1.keep (low _ (by omega) (by omega) (by omega) (by omega)), c2, c3⟩, I.p.keep (low _ (by omega) (by omega) (by omega) (by omega)), (low _ (by omega) (by omega) (by omega) (by omega)).trans I.d, set_self' (by omega)⟩
  have e : intV (os ++ [r]) = intV os ++ [.int .i64 r] := by unfold intV; rw [List.map_append]; rfl
  rw [e]
  refine q2.keep fun p hp => ?_
  have := q2.base_le p hp
  rw [set_ne' (by omega), f23 _ (by omega), f22 _ (by omega)]
theorem LI.setC {h0 : Heap} {M : Fr} {rec : Rec} {sp : Sl} {w x y : Tr} {os : List Int} {g g' : Heap} (I : LI h0 M rec sp w x os g) (hz : g'.size = g.size) (hf : ∀ j, j ≠ h0.size + 3 → g'[j]? = g[j]?) {sk si : Sl} (hb : Blk g' (h0.size + 3) (tcells y.kind y.text sk si).toArray) (hk : Rd M (.row .str) y.keys [slV sk]) (hi : Rd M (.row .tree) y.items [slV si]) : LI h0 M rec sp w y os g' := by
  have hs := I.size
  obtain ⟨vk, vi, v1, v2, v3⟩ := I.v
  obtain ⟨so, o1, o2, o3⟩ := I.o
  refine ⟨⟨by have := I.keep.size; omega, fun i hi => (hf i (by omega)).trans (I.keep.get i hi)⟩, by omega, ⟨vk, vi, v1.keep (hf _ (by omega)), v2, v3⟩, I.z.keep (hf _ (by omega)), ⟨so, o1.keep (hf _ (by omega)), o2.keep fun p hp => hf _ (by have := o2.base_le p hp; omega), o3⟩, ⟨sk, si, hb, hk, hi⟩, I.p.keep (hf _ (by omega)), (hf _ (by omega)).trans I.d, (hf _ (by omega)).trans I.l⟩
theorem rowC_ints (M : Fr) (xs : List Int) : RowC M (.int .i64) xs (intV xs) := by
  refine ⟨by simp [sz, intV], fun i hi => ?_⟩
  simp only [sz, Nat.mul_one]
  have hi' : i < (intV xs).length := by unfold intV; simpa using hi
  rw [List.drop_eq_getElem_cons hi', List.take_succ_cons, List.take_zero]
  simp only [intV, List.getElem_map]
  rfl
theorem intsRd {M : Fr} {h0 h : Heap} (ag : AgM M h0) (k : Keep h0.size h0 h) {base : Nat} (hb : h0.size ≤ base) {so : Sl} {xs : List Int} (H : Owns h base 3 1 so (intV xs)) (hl : so.len = xs.length) (hn : xs.length ≤ 140737488355328) : ∃ M', Later h0 M h M' ∧ RdV M' (.row (.int .i64)) xs (slV so) := by
  rcases Owns.blk H with ⟨h0', hc⟩ | ⟨b, cs, e1, e2, e3, e4, e5, e6⟩
  · refine ⟨M, Later.same ag k, ?_⟩
    have : xs = [] := List.eq_nil_of_length_eq_zero (by omega)
    subst this
    rw [rdv1 rfl]
    exact ⟨_, rfl, so.a, so.cap, by rw [slV, h0']; rfl, ⟨by simp, by simp⟩, .inl rfl⟩
  · refine ⟨MxL M h [b], MxL.later ag k (fun x hx => by simp at hx; omega), ?_⟩
    rw [rdv1 rfl, slV, e1, hl]
    refine RowC.rd (cs := cs) (rowC_ints _ xs) (MxL.at (by simp) e3) ?_ ⟨hn, by omega⟩
    rw [← e5, hl]; rfl
set_option maxRecDepth 100000 in
set_option maxHeartbeats 800000 in
theorem leads_pc {gl : Fr} (hg : GL gl) {v : Tr} (hv : Sm v) (ho : allT nodeOk v = true) {p : List ByteArray} (hp : SL p) {R : List Int × Tr × Bool → Prop} (hR : R ((stepsP v p).map (fun q => (q.1 : Int)), lastT v (stepsP v p), decide ((stepsP v p).length = p.length))) :
    PC Tryz.prog gl 46 [Arg.mk .tree v, Arg.mk (.row .str) p] [.row (.int .i64), .tree, .bool] R := by
  intro h M vs hM ag ha
  match vs, ha with
  | [u, w], ⟨hu, hw, _⟩ =>
    have hu : RdV M .tree v u := hu
    obtain ⟨sk, si, rfl, rk, ri⟩ := rdTree hu
    obtain ⟨sp, rfl, hr⟩ := rdRow hw
    have hr : Rd M (.row .str) p [slV sp] := hr
    obtain ⟨hlen, hb1, hb2⟩ := rowLen hr
    have hpn := hp.n
    apply PX.of
    obtain ⟨RR, hRR⟩ : ∃ RR : Value → Heap → Prop, RR = fun v h' => ∃ M' r, Later h M h' M' ∧ RetV M' [.row (.int .i64), .tree, .bool] r v ∧ R r := ⟨_, rfl⟩
    refine XC.mono (R := RR) ?_ (fun v h' hx => by rw [hRR] at hx; exact hx)
    refine XC_range (P := Tryz.prog) Tryz.mixed (ro := ropsOf (codeOf Tryz.f46)) (n := 27) (rs := [.tmp 4, .cell 5 34, .tmp 6]) Tryz.func46 (by kernel_rfl) (by kernel_rfl) (by kernel_rfl) (by kernel_rfl) (by kernel_rfl) (by kernel_rfl) (by decide) [.agg #[.int .i64 v.kind, .string v.text, slV sk, slV si], slV sp] (by kernel_rfl) ?_
    refine hd_pointer_leads v.kind v.text sk si sp h _ ?_
    intro h1 h2 h3
    have z1 : h1.size = h.size + 1 := Array.size_push _
    have z2 : h2.size = h1.size + 1 := Array.size_push _
    have z3 : h3.size = h2.size + 1 := Array.size_push _
    have k1 : Keep h.size h h1 := Keep.push _ _ (Nat.le_refl _)
    have k2 : Keep h1.size h1 h2 := Keep.push _ _ (Nat.le_refl _)
    have k3 : Keep h2.size h2 h3 := Keep.push _ _ (Nat.le_refl _)
    have b1 : Blk h1 h.size (tcells v.kind v.text sk si).toArray := Blk.new _ _ _
    have b2 : Blk h2 h1.size (tcells 0 ⟨#[]⟩ ⟨none, 0, 0⟩ ⟨none, 0, 0⟩).toArray := Blk.new _ _ _
    have b3 : Blk h3 h2.size #[slV ⟨none, 0, 0⟩] := Blk.new _ _ _
    clear_value h1 h2 h3
    refine ⟨v.kind, v.text, sk, si, ((b1.ofKeep k2).ofKeep k3).ld (cs := tcells v.kind v.text sk si), ?_⟩
    apply sh_pointer_walk v.kind v.text sk si sp
    intro h4 h5
    have z4 : h4.size = h3.size + 1 := Array.size_push _
    have z5 : h5.size = h4.size + 1 := Array.size_push _
    have k4 : Keep h3.size h3 h4 := Keep.push _ _ (Nat.le_refl _)
    have k5 : Keep h4.size h4 h5 := Keep.push _ _ (Nat.le_refl _)
    have b4 : Blk h4 h3.size (tcells v.kind v.text sk si).toArray := Blk.new _ _ _
    have b5 : Blk h5 h4.size #[slV sp] := Blk.new _ _ _
    clear_value h4 h5
    have e1 : h1.size = h.size + 1 := z1
    have e2 : h2.size = h.size + 2 := by omega
    have e3 : h3.size = h.size + 3 := by omega
    have e4 : h4.size = h.size + 4 := by omega
    have e5 : h5.size = h.size + 5 := by omega
    refine ⟨_, rfl, _, _, _, _, _, _, rfl, by kernel_rfl, ?_⟩
    rw [e1, e2, e3, e4, e5, show h.size + 5 + 1 = h.size + 6 from rfl]
    intro rec hY
    have K0 : Keep h.size h h5 := (((k1.trans k2 (by omega)).trans k3 (by omega)).trans k4 (by omega)).trans k5 (by omega)
    obtain ⟨g6, hg6⟩ : ∃ g6, (h5.push (.deferred (some []))).push (.loop (rec .ready none)) = g6 := ⟨_, rfl⟩
    have z6 : g6.size = h.size + 7 := by rw [← hg6, Array.size_push, Array.size_push]; omega
    have k6 : Keep h5.size h5 g6 := by
      rw [← hg6]
      exact (Keep.push h5 (.deferred (some [])) (Nat.le_refl _)).trans (Keep.push _ _ (by rw [Array.size_push]; omega)) (Nat.le_refl _)
    have I0 : LI h M rec sp v v [] g6 := by
      refine ⟨K0.trans k6 (by omega), by omega, ⟨sk, si, (((b1.ofKeep k2).ofKeep k3).ofKeep k4 |>.ofKeep k5).ofKeep k6, rk, ri⟩, ?_, ⟨⟨none, 0, 0⟩, ?_, Owns.nil _ _ _ _, rfl⟩, ⟨sk, si, ?_, rk, ri⟩, ?_, ?_, ?_⟩
      · rw [← e1]; exact ((b2.ofKeep k3).ofKeep k4 |>.ofKeep k5).ofKeep k6
      · rw [← e2]; exact ((b3.ofKeep k4).ofKeep k5).ofKeep k6
      · rw [← e3]; exact (b4.ofKeep k5).ofKeep k6
      · rw [← e4]; exact b5.ofKeep k6
      · rw [← hg6, Array.getElem?_push, if_neg (by rw [Array.size_push]; omega), ← e5]; exact get_push _ _
      · rw [← hg6]
        have := get_push (h5.push (.deferred (some []))) (.loop (rec .ready none))
        rw [Array.size_push, e5] at this; exact this
    rw [hg6]
    clear hg6
    have fin : ∀ (w : Tr) (done : List (Nat × Tr)) (g : Heap), stepsP v p = done → lastT v done = w → LI h M rec sp w w (done.map fun q => (q.1 : Int)) g →
        (g[h.size + 6]? = some (.loop (rec .ready none)) ∧ tailF Tryz.prog 27 (ropsOf (codeOf Tryz.f46)) 6 [.tmp 4, .cell 5 34, .tmp 6] (h.size + 5) RR
          [(1, [], .slice sp.a sp.len sp.cap), (2, [], .pointer (some ⟨h.size, 0, none⟩)), (5, [], .pointer (some ⟨h.size + 1, 0, none⟩)), (7, [], .pointer (some ⟨h.size + 2, 0, none⟩))] (g.setIfInBounds (h.size + 6) (.loop (rec .exhausted none)))) := by
      intro w done g hdone hlast I
      refine ⟨I.l, ?_⟩
      have hs := I.size
      obtain ⟨so, o1, o2, o3⟩ := I.o
      obtain ⟨vk, vi, v1, v2, v3⟩ := I.v
      obtain ⟨G, hG⟩ : ∃ G, g.setIfInBounds (h.size + 6) (.loop (rec .exhausted none)) = G := ⟨_, rfl⟩
      have zG : G.size = g.size := by rw [← hG, Array.size_setIfInBounds]
      have gG : ∀ i, i ≠ h.size + 6 → G[i]? = g[i]? := fun i hi => by rw [← hG]; exact set_ne' hi
      rw [hG]
      unfold tailF
      refine tl_pointer_leads sp ⟨h.size, 0, none⟩ ⟨h.size + 1, 0, none⟩ ⟨h.size + 2, 0, none⟩ G (fun h1 => h1[h.size + 5]? = some (.deferred (some []))) (fun h1 => h1.setIfInBounds (h.size + 5) (.deferred none)) RR ?_
      have oG : Blk G (h.size + 2) #[slV so] := o1.keep (gG _ (by omega))
      refine ⟨so, oG.cell (o := 0) rfl, w.kind, w.text, vk, vi, (v1.keep (gG _ (by omega))).ld (cs := tcells w.kind w.text vk vi), so, oG.cell (o := 0) rfl, ?_⟩
      refine storeTree (I.z.keep (gG _ (by omega))) rfl _ _ _ _ fun h30 b30 z30 f30 => ?_
      refine ⟨⟨f30 _ (by show h.size + 2 ≠ _; omega), trivial⟩, (f30 _ (by omega)).trans ((gG _ (by omega)).trans I.d), w.kind, w.text, vk, vi, (b30.keep (set_ne' (by omega))).ld (cs := tcells w.kind w.text vk vi), ?_⟩
      have KF : Keep h.size h (h30.setIfInBounds (h.size + 5) (.deferred none)) := ⟨by rw [Array.size_setIfInBounds]; have := I.keep.size; omega, fun i hi => by rw [set_ne' (by omega), f30 _ (by omega), gG _ (by omega)]; exact I.keep.get i hi⟩
      have OF : Owns (h30.setIfInBounds (h.size + 5) (.deferred none)) (h.size + 7) 3 1 so (intV (done.map fun q => (q.1 : Int))) := o2.keep fun q hq => by
        have := o2.base_le q hq
        rw [set_ne' (by omega), f30 _ (by omega), gG _ (by omega)]
      have hdl := stepsP_len v p
      rw [hdone] at hdl
      obtain ⟨M', L', hrd⟩ := intsRd ag KF (by omega) OF o3 (by rw [List.length_map]; omega)
      rw [hRR]
      refine ⟨M', (done.map (fun q => (q.1 : Int)), w, decide (done.length = p.length)), L', ⟨[slV so, .agg #[.int .i64 w.kind, .string w.text, slV vk, slV vi], .bool (decide (done.length = p.length))], ⟨_, _, rfl, hrd, _, _, rfl, rdTree_mk (Rd.mono L'.le v2) (Rd.mono L'.le v3), _, rfl, rdBool _⟩, ?_⟩, ?_⟩
      · have hbq : (((so.len : Nat) : Int) == ((sp.len : Nat) : Int)) = decide (done.length = p.length) := by
          rw [o3, hlen, List.length_map, Bool.eq_iff_iff]; simp; omega
        rw [hbq]; rfl
      · rw [hdone, hlast] at hR; exact hR
    show XCI Tryz.prog 98 #[.func (.yield (h.size + 6)) #[] #[], .pointer (some ⟨h.size + 4, 0, none⟩), .pointer (some ⟨h.size + 3, 0, none⟩)] g6 _
    refine yi_pointer_walk_1 (h.size + 6) ⟨h.size + 4, 0, none⟩ ⟨h.size + 3, 0, none⟩ g6 _ ?_
    refine ⟨sp, I0.p.cell (o := 0) rfl, fun i g => ∃ (k : Nat) (w : Tr) (done : List (Nat × Tr)), i = k ∧ k ≤ p.length ∧ Sm w ∧ allT nodeOk w = true ∧ done.length = k ∧ stepsP v p = done ++ stepsP w (p.drop k) ∧ lastT v done = w ∧ LI h M rec sp w w (done.map fun q => (q.1 : Int)) g, fun i _ => p.length - i.toNat, ⟨0, v, [], rfl, by omega, hv, ho, rfl, by simp, rfl, I0⟩, ?_⟩
    rintro i g ⟨k, w, done, rfl, hk, hw, how, hdl, hst, hla, I⟩
    refine ⟨fun hc => ?_, fun hc => ?_⟩
    · have hc' : k < p.length := by simp at hc; omega
      have agg : AgM M g := ag.keep I.keep
      refine strAt agg hr hc' rfl rfl ?_
      obtain ⟨ck, ci, c1, c2, c3⟩ := I.c
      refine ⟨w.kind, w.text, ck, ci, c1.ld (cs := tcells w.kind w.text ck ci), ?_⟩
      have hpk := hp.s _ (List.getElem_mem hc')
      have hit : PC Tryz.prog gl 99 [Arg.mk .tree w, Arg.mk .str p[k]] [.int .i64] (fun r => r = stepP w p[k]) := item_pc hg hpk rfl
      refine hit.go (vs := [.agg #[.int .i64 w.kind, .string w.text, slV ck, slV ci], .string p[k]]) hM agg (args1 (rdTree_mk c2 c3) (args1 (rdStr _) args0)) fun q g13 M13 r L13 hret hrr => ?_
      have hrr : r = stepP w p[k] := hrr
      subst hrr
      have I13 := I.frame L13.keep
      have hdrop : p.drop k = p[k] :: p.drop (k + 1) := List.drop_eq_getElem_cons hc'
      refine ⟨stepP w p[k], retI hret, fun hneg => ?_, fun hpos => ?_⟩
      · have hneg' : stepP w p[k] < 0 := by simpa using hneg
        rw [hdrop, stepsP_no hneg', List.append_nil] at hst
        exact fin w done g13 hst hla I13
      · have hpos' : ¬ stepP w p[k] < 0 := by simpa using hpos
        obtain ⟨j, hj, hjl⟩ : ∃ j : Nat, stepP w p[k] = j ∧ j < w.items.length := by
          rcases stepP_ok (allT_here how) p[k] with e | e
          · omega
          · exact e
        have c1' := c1.ofKeep L13.keep
        have ag13 : AgM M g13 := ag.keep I13.keep
        obtain ⟨hcl, _, _⟩ := rowLen c3
        obtain ⟨a, xk, xi, ea, xld, xk', xi'⟩ := treeAt ag13 c3 hjl
        have hm : w.items[j] ∈ w.items := List.getElem_mem hjl
        rw [hj]
        refine ⟨ci, c1'.cellAdd (o := 0) (k := 3) rfl, a, ⟨ea, by omega, by omega⟩, w.items[j].kind, w.items[j].text, xk, xi, by rw [Int.toNat_natCast]; exact xld, ?_⟩
        refine storeTree c1' rfl _ _ _ _ fun g21 b21 z21 f21 => ?_
        have I21 : LI h M rec sp w w.items[j] (done.map fun q => (q.1 : Int)) g21 := I13.setC z21 f21 b21 xk' xi'
        refine ⟨w.items[j].kind, w.items[j].text, xk, xi, b21.ld (cs := tcells w.items[j].kind w.items[j].text xk xi), ?_⟩
        have key : ∀ K : Value → Heap → Prop, (∀ h', LI h M rec sp w.items[j] w.items[j] ((done.map fun q => (q.1 : Int)) ++ [(j : Int)]) h' → K (.bool true) h') → YX Tryz.prog (h.size + 6) #[.int .i64 (j : Int), .agg #[.int .i64 w.items[j].kind, .string w.items[j].text, .slice xk.a xk.len xk.cap, .slice xi.a xi.len xi.cap]] g21 K := fun K hK =>
          @hY _ _ _ K I21.l (round_ok (K := K) I21 (j : Int) (by rw [List.length_map]; omega) xk' xi' hK)
        refine key _ fun g27 I27 => ⟨true, rfl, fun hx => (by cases hx), fun _ => ?_⟩
        have hw2 := wsucc hc' (by omega)
        rw [hw2]
        refine ⟨⟨k + 1, w.items[j], done ++ [(j, w.items[j])], rfl, by omega, hw.item hm, allT_item how hm, by simp [hdl], ?_, by unfold lastT; simp, by rw [List.map_append]; exact I27⟩, by simp only [Int.toNat_natCast]; omega⟩
        rw [hst, hdrop, stepsP_yes hj hjl]; simp
    · have hc' : k = p.length := by simp at hc; omega
      subst hc'
      rw [List.drop_length] at hst
      have : stepsP w [] = [] := by simp [stepsP]
      rw [this, List.append_nil] at hst
      exact fin w done g hst hla I
end Go.Proofs.YtaoceiiakcpbaaaGreatDoor
end
section
namespace Go.Proofs.YtaoceiiakcpbaaaGreatDoor
open Go Go.X Go.Proofs
set_option linter.unusedVariables false
theorem Copy_pc {gl : Fr} (hg : GL gl) {v : Tr} (hv : Sm v) (ho : openT v = true) {R : Tr → Prop} (hR : R v) : PC Tryz.prog gl 47 [Arg.mk .tree v] [.tree] R := by
  intro h M vs hM ag ha
  match vs, ha with
  | [u], ⟨hu, _⟩ =>
    have hu : RdV M .tree v u := hu
    have hu0 := hu
    obtain ⟨sk, si, rfl, rk, ri⟩ := rdTree hu
    apply PX.of
    apply sh_value_Copy v.kind v.text sk si
    intro h1 h2
    have z1 : h1.size = h.size + 1 := Array.size_push _
    have z2 : h2.size = h1.size + 1 := Array.size_push _
    have k1 : Keep h.size h h1 := Keep.push _ _ (Nat.le_refl _)
    have k2 : Keep h1.size h1 h2 := Keep.push _ _ (Nat.le_refl _)
    have b1 : Blk h1 h.size (tcells v.kind v.text sk si).toArray := Blk.new _ _ _
    have b2 : Blk h2 h1.size (tcells 0 ⟨#[]⟩ ⟨none, 0, 0⟩ ⟨none, 0, 0⟩).toArray := Blk.new _ _ _
    clear_value h1 h2
    have K2 : Keep h.size h h2 := k1.trans k2 (by omega)
    have ag2 := ag.keep K2
    refine ⟨v.kind, v.text, sk, si, (b1.ofKeep k2).ld (cs := tcells v.kind v.text sk si), ?_⟩
    have hopen : PC Tryz.prog gl 45 [Arg.mk .tree v] [.bool] (fun r => r = openT v) := Open_pc hg hv rfl
    refine hopen.go (vs := [.agg #[.int .i64 v.kind, .string v.text, slV sk, slV si]]) hM ag2 (args1 hu0 args0) fun w h3 M3 r L3 hret hr => ?_
    have hr : r = openT v := hr
    refine ⟨r, retB hret, fun hx => ?_, fun hx => ?_⟩
    · rw [hr, ho] at hx; cases hx
    · refine ⟨v.kind, v.text, sk, si, ((b1.ofKeep k2).ofKeep L3.keep).ld (cs := tcells v.kind v.text sk si), ?_⟩
      have K3 : Keep h.size h h3 := K2.trans L3.keep (by have := K2.size; omega)
      refine (clone_on (tsz v) v (Nat.le_refl _) hv (ag.keep K3) hu0).mono ?_
      rintro w' h4 ⟨k4, bs, ck, ci, rfl, ot, hbs⟩
      have z3 := L3.keep.size
      have z4 := k4.size
      refine ⟨v.kind, v.text, ck, ci, rfl, ?_⟩
      refine storeTree (((b2.ofKeep L3.keep).ofKeep k4)) rfl _ _ _ _ fun h5 b5 z5 f5 => ?_
      have K5 : Keep h.size h h5 := ⟨by have := K3.size; omega, fun i hi => by rw [f5 i (by omega), k4.get i (by have := K3.size; omega)]; exact K3.get i hi⟩
      have ot5 := ot.frame fun b hb => f5 b (by have := hbs b hb; omega)
      have hsz := K3.size
      exact ⟨v.kind, v.text, ck, ci, b5.ld (cs := tcells v.kind v.text ck ci), MxL M h5 bs, v, MxL.later ag K5 (fun b hb => by have := hbs b hb; omega), ret1.2 ot5.rdv, hR⟩
theorem sized_item {v x : Tr} (h : sizedT v = true) (hx : x ∈ v.items) : sizedT x = true := by
  unfold sizedT at h ⊢
  simp at h ⊢
  have h1 := tsz_item hx
  have h2 : tdp x ≤ tdpL v.items := by
    have gen : ∀ l : List Tr, x ∈ l → tdp x ≤ tdpL l := by
      intro l
      induction l with
      | nil => intro hm; cases hm
      | cons y l ih =>
        intro hm
        rw [tdpL]
        rcases List.mem_cons.1 hm with rfl | hm
        · omega
        · have := ih hm; omega
    exact gen _ hx
  have h3 := tdp_eq v
  omega
theorem open_item {v x : Tr} (h : openT v = true) (hx : x ∈ v.items) : openT x = true := by
  unfold openT at h ⊢
  rw [Bool.and_eq_true] at h ⊢
  exact ⟨sized_item h.1 hx, allT_item h.2 hx⟩
theorem open_all {v : Tr} (h : openT v = true) : allT nodeOk v = true := by unfold openT at h; rw [Bool.and_eq_true] at h; exact h.2
theorem open_last (n : Nat) : ∀ (v : Tr) (p : List ByteArray), p.length ≤ n → openT v = true → Sm v → openT (lastT v (stepsP v p)) = true ∧ Sm (lastT v (stepsP v p)) := by
  induction n with
  | zero =>
    intro v p hp ho hs
    have : p = [] := List.eq_nil_of_length_eq_zero (by omega)
    subst this
    exact ⟨ho, hs⟩
  | succ n ih =>
    intro v p hp ho hs
    match p with
    | [] => exact ⟨ho, hs⟩
    | s :: p =>
      rcases stepP_ok (allT_here (open_all ho)) s with e | ⟨k, e, hk⟩
      · rw [stepsP_no (by omega)]; exact ⟨ho, hs⟩
      · rw [stepsP_yes e hk, lastT_cons]
        have hm := List.getElem_mem hk
        exact ih v.items[k] p (by simpa using hp) (open_item ho hm) (hs.item hm)
theorem Find_pc {gl : Fr} (hg : GL gl) {v : Tr} (hv : Sm v) {p : List ByteArray} (hp : SL p) {R : Tr × Bool → Prop} (hR : R (findR v p)) : PC Tryz.prog gl 16 [Arg.mk .tree v, Arg.mk (.row .str) p] [.tree, .bool] R := by
  apply pu_pointer_Find
  rw [tr_eta]
  unfold findR at hR
  refine Open_pc hg hv ⟨fun b => b = rightP p, fun _ => Right_pc hg hp rfl, fun b hb => ?_⟩
  cases ho : openT v with
  | false =>
    rw [ho] at hR
    exact ⟨fun _ => hR, fun hx => by cases hx⟩
  | true =>
    have hb' : b = rightP p := hb (by rw [ho]; rfl)
    subst hb'
    cases hr : rightP p with
    | false =>
      rw [ho, hr] at hR
      exact ⟨fun _ => hR, fun hx => by cases hx⟩
    | true =>
      rw [ho, hr, Bool.and_true, if_pos rfl] at hR
      refine ⟨fun hx => (by cases hx), fun _ => ?_⟩
      refine leads_pc hg hv (open_all ho) hp ⟨fun hx => ?_, fun hx => ?_⟩
      · have : findP v p = none := by unfold findP; rw [if_neg (by simpa using hx)]
        rw [this] at hR; exact hR
      · have : findP v p = some (lastT v (stepsP v p)) := by unfold findP; rw [if_pos (by simpa using hx)]
        rw [this] at hR
        obtain ⟨h1, h2⟩ := open_last p.length v p (Nat.le_refl _) ho hv
        rw [tr_eta]
        refine Copy_pc hg h2 h1 ?_
        rw [show Tr.mk (lastT v (stepsP v p)).kind (lastT v (stepsP v p)).text (lastT v (stepsP v p)).keys (lastT v (stepsP v p)).items = lastT v (stepsP v p) from tr_eta _]
        exact hR
end Go.Proofs.YtaoceiiakcpbaaaGreatDoor
end
section
namespace Go.Proofs.YtaoceiiakcpbaaaGreatDoor
open Go Go.X Go.Proofs
set_option linter.unusedVariables false
theorem num1 : nmText (numParse (Lib.itoa 1)).1 = [49] := by kernel_rfl
theorem num2 : nmText (numParse (Lib.itoa 2)).1 = [50] := by kernel_rfl
theorem ps_a : prsP [97] = ([], 2) := by kernel_rfl
theorem ps_t : prsP [47, 126, 50] = ([], 2) := by kernel_rfl
theorem ps_n : prsP [] = ([], 0) := by kernel_rfl
theorem rp_1 : rightP [⟨#[97, 47, 98]⟩, ⟨#[126]⟩, ⟨#[]⟩] = true := by kernel_rfl
def smT : Tr := .mk 6 ⟨#[]⟩ [⟨#[97]⟩] [.mk 5 ⟨#[]⟩ [] [.mk 3 (bl [49]) [] [], .mk 3 (bl [50]) [] []]]
theorem fd_1 : findR smT [⟨#[97]⟩, ⟨#[49]⟩] = (.mk 3 (bl [50]) [] [], true) := by kernel_rfl
theorem fd_2 : (findR smT [⟨#[97]⟩, ⟨#[48, 49]⟩]).2 = false := by kernel_rfl
theorem tx_1 : bl (txtP (([⟨#[97, 47, 98]⟩, ⟨#[126]⟩, ⟨#[]⟩] : List ByteArray).map lb)) = ⟨#[47, 97, 126, 49, 98, 47, 126, 48, 47]⟩ := by kernel_rfl
theorem smT_sm : Sm smT := by
  refine Sm.few ?_ ?_
  · have : tks smT = 5 := by kernel_rfl
    omega
  · have leaf : ∀ b : Bs, b.length ≤ 2048 → txS (.mk 3 (bl b) [] []) := fun b hb => by
      rw [txS, txSL]; exact ⟨⟨by rw [bl_size]; exact hb, by simp⟩, trivial⟩
    unfold smT
    rw [txS, txSL, txSL, txS, txSL, txSL, txSL]
    exact ⟨⟨by decide, by decide⟩, ⟨⟨by decide, by simp⟩, leaf _ (by decide), leaf _ (by decide), trivial⟩, trivial⟩
theorem sl_small {l : List ByteArray} (h : l.length ≤ 1000000) (h2 : ∀ x ∈ l, x.size ≤ 1048576) : SL l := ⟨h, fun x hx => by rw [lb_len]; exact h2 x hx⟩
theorem small_pc {gl : Fr} (hg : GL gl) {R : Bool → Prop} (hR : R true) : PC Tryz.prog gl 9 [] [.bool] R := by
  apply pu_scarflaw07_small
  refine Text_pc hg (sl_small (by decide) (by decide)) (fun _ => ?_) (fun hx => by rw [rp_1] at hx; cases hx)
  rw [tx_1]
  refine Parse_pc hg (s := [97]) (by decide) ?_
  rw [ps_a]
  refine Parse_pc hg (s := [47, 126, 50]) (by decide) ?_
  rw [ps_t]
  refine Parse_pc hg (s := []) (by decide) ?_
  rw [ps_n]
  refine Num_pc hg (by decide) (by decide) ?_
  refine Num_pc hg (by decide) (by decide) ?_
  rw [num1, num2]
  refine Row_pc ?_
  refine Map_pc ?_
  refine Find_pc hg (v := smT) smT_sm (sl_small (by decide) (by decide)) ?_
  rw [fd_1]
  refine Find_pc hg (v := smT) smT_sm (sl_small (by decide) (by decide)) ?_
  rw [fd_2]
  have key : ∀ b, b = true → R b := fun b hb => hb ▸ hR
  exact key _ (by kernel_rfl)
end Go.Proofs.YtaoceiiakcpbaaaGreatDoor
end
section
namespace Go.Proofs.YtaoceiiakcpbaaaGreatDoor
open Go Go.X Go.Proofs
set_option linter.unusedVariables false
theorem OT.zero (h : Heap) : OT h zT [] (tcells 0 ⟨#[]⟩ ⟨none, 0, 0⟩ ⟨none, 0, 0⟩) :=
  OT.mk (k := 0) (s := ⟨#[]⟩) (ks := []) (xs := []) (sk := ⟨none, 0, 0⟩) (si := ⟨none, 0, 0⟩) (bk := []) (bb := []) (b := 0) (cs := #[]) (bf := fun _ => []) ⟨rfl, by simp, by simp, .inl ⟨rfl, rfl⟩⟩ ⟨rfl, by simp, by simp⟩ (.inl ⟨rfl, rfl⟩) (fun i hi => absurd hi (by simp)) (by simp)
end Go.Proofs.YtaoceiiakcpbaaaGreatDoor
end
section
namespace Go.Proofs.YtaoceiiakcpbaaaGreatDoor
open Go Go.X Go.Proofs
set_option linter.unusedVariables false
theorem findP_full {v : Tr} {p : List ByteArray} (h : (stepsP v p).length = p.length) : findP v p = some (lastT v (stepsP v p)) := by unfold findP; rw [if_pos h]
theorem findP_len {v : Tr} {p : List ByteArray} {x : Tr} (h : findP v p = some x) : (stepsP v p).length = p.length := by
  unfold findP at h
  split at h
  · assumption
  · cases h
end Go.Proofs.YtaoceiiakcpbaaaGreatDoor
end
section
namespace Go.Proofs.YtaoceiiakcpbaaaGreatDoor
open Go Go.X Go.Proofs
set_option linter.unusedVariables false
def But (bs : List Nat) (h h' : Heap) : Prop := h.size ≤ h'.size ∧ ∀ i, i < h.size → i ∉ bs → h'[i]? = h[i]?
theorem But.refl (bs : List Nat) (h : Heap) : But bs h h := ⟨Nat.le_refl _, fun _ _ _ => rfl⟩
theorem But.trans {bs : List Nat} {a b c : Heap} (x : But bs a b) (y : But bs b c) : But bs a c := ⟨Nat.le_trans x.1 y.1, fun i hi hn => (y.2 i (by have := x.1; omega) hn).trans (x.2 i hi hn)⟩
end Go.Proofs.YtaoceiiakcpbaaaGreatDoor
end
section
namespace Go.Proofs.YtaoceiiakcpbaaaGreatDoor
open Go Go.X Go.Proofs
set_option linter.unusedVariables false
theorem findP_app : ∀ (p q : List ByteArray) (v : Tr), allT nodeOk v = true → findP v (p ++ q) = (findP v p).bind fun x => findP x q
  | [], q, v, _ => by rw [findP_nil]; rfl
  | s :: p, q, v, h => by
    rcases stepP_ok (allT_here h) s with e | ⟨k, e, hk⟩
    · rw [List.cons_append, findP_no (by omega), findP_no (by omega)]; rfl
    · rw [List.cons_append, findP_yes e hk, findP_yes e hk]
      exact findP_app p q _ (allT_item h (List.getElem_mem hk))
theorem rightP_app {p q : List ByteArray} (h : p.length + q.length ≤ 64) : rightP (p ++ q) = (rightP p && rightP q) := by
  unfold rightP
  have h1 : p.length ≤ 64 := by omega
  have h2 : q.length ≤ 64 := by omega
  rw [List.length_append, List.all_append]
  simp [h, h1, h2]
theorem findR_cases (v : Tr) (p : List ByteArray) : (findR v p = (zT, false) ∧ (openT v = true → rightP p = true → findP v p = none)) ∨ ∃ x, findR v p = (x, true) ∧ openT v = true ∧ rightP p = true ∧ findP v p = some x := by
  unfold findR
  cases ho : openT v with
  | false => exact .inl ⟨rfl, fun h => by cases h⟩
  | true =>
    cases hr : rightP p with
    | false => exact .inl ⟨rfl, fun _ h => by cases h⟩
    | true =>
      simp only [Bool.and_self, if_true]
      cases hf : findP v p with
      | none => exact .inl ⟨rfl, fun _ _ => rfl⟩
      | some x => exact .inr ⟨x, rfl, trivial, trivial, rfl⟩
theorem sm_zT : Sm zT := Sm.few (by decide) (by simp only [zT, txS, txSL]; exact ⟨⟨by decide, fun _ h => (by cases h)⟩, trivial⟩)
theorem findR_Sm {v : Tr} (hv : Sm v) (p : List ByteArray) : Sm (findR v p).1 := by
  rcases findR_cases v p with ⟨e, _⟩ | ⟨x, e, ho, hr, hf⟩
  · rw [e]; exact sm_zT
  · rw [e]
    have := (open_last p.length v p (Nat.le_refl _) ho hv).2
    rw [findP_full (findP_len hf)] at hf
    cases hf
    exact this
theorem find_walks {v : Tr} (hv : Sm v) {p q : List ByteArray} (hl : p.length + q.length ≤ 64) :
    ((findR v p).2 = false → (findR v (p ++ q)).2 = false) ∧ ((findR v p).2 = true → findR v (p ++ q) = findR (findR v p).1 q) := by
  rcases findR_cases v p with ⟨e, h⟩ | ⟨x, e, ho, hr, hf⟩
  · refine ⟨fun _ => ?_, fun h => by rw [e] at h; cases h⟩
    rcases findR_cases v (p ++ q) with ⟨e2, _⟩ | ⟨y, e2, ho, hr, hf⟩
    · rw [e2]
    · rw [rightP_app hl, Bool.and_eq_true] at hr
      rw [findP_app p q v (open_all ho), h ho hr.1] at hf
      cases hf
  · refine ⟨fun h => (by rw [e] at h; cases h), fun _ => ?_⟩
    rw [e]
    have hx : openT x = true := by
      have := (open_last p.length v p (Nat.le_refl _) ho hv).1
      rw [findP_full (findP_len hf)] at hf
      cases hf
      exact this
    unfold findR
    rw [rightP_app hl, ho, hr, hx, findP_app p q v (open_all ho), hf]
    simp
set_option maxHeartbeats 1000000 in
theorem Walks_pc {gl : Fr} (hg : GL gl) {v : Tr} {p q : List ByteArray} {R : Bool → Prop} (hR : R true) : PC Tryz.prog gl 4 [Arg.mk .tree v, Arg.mk (.row .str) p, Arg.mk (.row .str) q] [.bool] R := by
  apply pu_scarflaw07_PointerWalks
  rw [tr_eta]
  refine small_pc hg (Few_pc (by decide) fun b1 hb1 => ⟨fun b => b = true → PS p, fun _ => Short_pc fun b hb => hb, fun b2 hb2 => ⟨fun b => b = true → PS q, fun _ => Short_pc fun b hb => hb, fun b3 hb3 => ⟨fun _ => hR, fun hx => ?_⟩⟩⟩)
  have hx' : b1 = true ∧ b2 = true ∧ b3 = true := by
    cases b1 <;> cases b2 <;> cases b3 <;> first | exact ⟨rfl, rfl, rfl⟩ | cases hx
  obtain ⟨rfl, rfl, rfl⟩ := hx'
  obtain ⟨hv0, hv⟩ := hb1 rfl
  have hpp := hb2 rfl rfl
  have hqq := hb3 rfl rfl
  have hl : p.length + q.length ≤ 64 := by
    have h1 := hpp.n
    have h2 := hqq.n
    simp only [cond_true, Bool.not_true, cond_false, decide_eq_false_iff_not] at hx
    rw [w64 (by omega)] at hx
    omega
  have hp := PS.sl hpp
  have hq := PS.sl hqq
  have hpq : SL (p ++ q) := ⟨by rw [List.length_append]; omega, fun x hx => (List.mem_append.1 hx).elim (hp.s x) (hq.s x)⟩
  obtain ⟨w1, w2⟩ := find_walks hv hl
  refine Find_pc hg hv hp ?_
  simp only [tr_eta]
  refine Find_pc hg (findR_Sm hv p) hq ⟨?_, ?_, ?_⟩
  · simp; omega
  · simp; omega
  · simp only [tr_eta, List.nil_append]
    refine Find_pc hg hv hpq ⟨fun h => ?_, fun h => ?_⟩
    · have := w1 (by simpa using h)
      rw [this]; exact hR
    · have h1 : (findR v p).2 = true := by simpa using h
      rw [w2 h1]
      simp only [beq_self_eq_true, cond_true]
      refine ⟨fun b => b = true, fun _ => rEqual_pc _ _ (findR_Sm (findR_Sm hv p) q).sz fun r hr => hr.2 rfl, fun b hb => ?_⟩
      rw [hb trivial]
      exact hR
end Go.Proofs.YtaoceiiakcpbaaaGreatDoor
end
