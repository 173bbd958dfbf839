/- A part of the proof: nothing is stated here for its own sake. -/
import Derived.Test.YtaoceiiakcpbaaaGreatDoorPeD
import Derived.Lib.ParseIntB
import Derived.Lib.Repeat
import Derived.Test.YtaoceiiakcpbaaaGreatDoorRows
import Derived.Test.YtaoceiiakcpbaaaGreatDoorTie
import Derived.Test.YtaoceiiakcpbaaaGreatDoorCards
import Derived.PinnedBridge
import Derived.Lay
import Derived.HandedShaped
import Derived.Shelf.Vars
import Derived.ChangeVars
import Derived.JoinedOf
import Derived.RowKitTokens
import Derived.LaidLaws
import Derived.MakeChecks
import Derived.SevenTiedAt
import Derived.Stop.Joined
import Derived.Lib.SplitLaws
import Derived.Lib.AtoiAll
import Derived.Lib.IndexAny
import Derived.Lib.SlicesS
section
namespace Go.Proofs.YtaoceiiakcpbaaaGreatDoor
open Go Go.X Go.Proofs
set_option linter.unusedVariables false
theorem u8toI (c : UInt8) : (((c.toNat : Int)).toNat).toUInt8 = c := by simp
theorem cut_pc {gl : Fr} {l sep : Bs} {p : UInt8 → Bool} (hp : ∀ c, p c = true ↔ c ∈ sep) (hl : l.length ≤ 4611686018427387904) {R : ByteArray × ByteArray × Bool → Prop} (h : R (bl (cutAt p l).1, bl (cutAt p l).2.1, (cutAt p l).2.2)) :
    PC Tryz.prog gl 139 [Arg.mk .str (bl l), Arg.mk .str (bl sep)] [.str, .str, .bool] R := by
  apply pu_number_cut
  simp only [bl_size, bl_byteAt, bl_extract]
  refine ⟨fun i => ∃ k : Nat, i = k ∧ k ≤ l.length ∧ ∀ j (hj : j < l.length), j < k → p l[j] = false, fun i => l.length - i.toNat, ⟨0, rfl, by omega, fun j _ h => by omega⟩, ?_⟩
  rintro i ⟨k, rfl, hk, h2⟩
  refine ⟨fun hc => ?_, fun hc => ?_⟩
  · have hc' : k < l.length := by simpa using hc
    simp only [Int.toNat_natCast, getDlt hc']
    refine ⟨by omega, IndexByte_pc ?_⟩
    rw [u8toI, lb_bl]
    have hm := (indexByte_mem l[k] sep).2
    rw [wsucc hc' hl]
    refine ⟨fun hx => ⟨by omega, by omega, ?_⟩, fun hx => ⟨⟨k + 1, rfl, by omega, fun j hj hjk => ?_⟩, by simp; omega⟩⟩
    · have hpk : p l[k] = true := (hp _).2 (hm.1 (by simpa using hx))
      rw [cutAt_at hc' (fun j hj => h2 j (by omega) hj) hpk] at h
      simp only [Int.toNat_natCast, Int.toNat_zero, List.drop_zero, Nat.sub_zero]
      rw [List.take_of_length_le (l := l.drop (k + 1)) (by simp)]
      exact h
    · by_cases e : j = k
      · subst e
        cases hpj : p l[j] with
        | false => rfl
        | true => exact absurd (hm.2 ((hp _).1 hpj)) (by simpa using hx)
      · exact h2 j hj (by omega)
  · have hc' : ¬ k < l.length := by simpa using hc
    rw [cutAt_none (fun c hc2 => by
      obtain ⟨j, hj, rfl⟩ := List.getElem_of_mem hc2
      exact h2 j hj (by omega))] at h
    exact h
theorem CutPrefix1 {gl : Fr} {l : Bs} {c : UInt8} {R : ByteArray × Bool → Prop} (h : R (bl (if l.head? == some c then l.tail else l), l.head? == some c)) : PC Tryz.prog gl 138 [Arg.mk .str (bl l), Arg.mk .str (bl [c])] [.str, .bool] R := by
  refine CutPrefix_pc ?_
  rw [lb_bl, lb_bl, trimPrefix_one, hasPrefix_one]; exact h
theorem TrimPrefix1 {gl : Fr} {l : Bs} {c : UInt8} {R : ByteArray → Prop} (h : R (bl (if l.head? == some c then l.tail else l))) : PC Tryz.prog gl 140 [Arg.mk .str (bl l), Arg.mk .str (bl [c])] [.str] R := by
  refine TrimPrefix_pc ?_
  rw [lb_bl, lb_bl, trimPrefix_one]; exact h
theorem TrimLeft0 {gl : Fr} {l : Bs} {R : ByteArray → Prop} (h : R (bl (l.dropWhile (· == 48)))) : PC Tryz.prog gl 117 [Arg.mk .str (bl l), Arg.mk .str (bl [48])] [.str] R := by
  refine TrimLeft_pc (c := 48) (by decide) ?_
  rw [lb_bl]; exact h
theorem TrimRight0 {gl : Fr} {l : Bs} (hl : l.length ≤ 4611686018427387904) {R : ByteArray → Prop} (h : R (bl (l.reverse.dropWhile (· == 48)).reverse)) : PC Tryz.prog gl 118 [Arg.mk .str (bl l), Arg.mk .str (bl [48])] [.str] R := by
  refine TrimRight_pc (c := 48) (by decide) (by rw [bl_size]; omega) ?_
  rw [lb_bl]; exact h
theorem read_pc {gl : Fr} {s : Bs} (hs : s.length ≤ 4611686018427387904) {R : (Bool × Bool × ByteArray × ByteArray × ByteArray) × Bool → Prop}
    (h1 : litOk s = true → R (((litOf s).neg, (litOf s).low, bl (litOf s).whole, bl (litOf s).rest, bl (litOf s).exp), true)) (h2 : litOk s = false → ∀ a b c d e, R ((a, b, bl c, bl d, bl e), false)) :
    PC Tryz.prog gl 116 [Arg.mk .str (bl s)] [.pair .bool (.pair .bool (.pair .str (.pair .str .str))), .bool] R := by
  apply pu_number_read
  refine CutPrefix1 (c := 45) ?_
  dsimp only
  have hS : (litS s).length ≤ s.length := by unfold litS; split <;> simp
  have hM := cutAt_len2 isE (litS s)
  refine cut_pc (l := litS s) (sep := [101, 69]) (p := isE) (fun c => by simp [isE]) (by omega) ?_
  dsimp only
  have hM' : (litM s).1.length + (litM s).2.1.length ≤ (litS s).length := hM
  have tail : ∀ (e : Bs) (low : Bool), ((litM s).2.2 = true → digs (litE s) = true ∧ low = litLow s ∧ e = litE s) → ((litM s).2.2 = false → low = false ∧ e = []) →
      PC Tryz.prog gl 139 [Arg.mk .str (bl (litM s).1), Arg.mk .str (bl [46])] [.str, .str, .bool] (fun r_20 : ByteArray × ByteArray × Bool => PC Tryz.prog gl 114 [Arg.mk .str r_20.1] [.bool] (fun r_21 : Bool => ∃ J_22 : Bool → Prop, (((!(!r_21)) && r_20.2.2) = true → PC Tryz.prog gl 114 [Arg.mk .str r_20.2.1] [.bool] J_22) ∧
            ∀ r_23 : Bool, (((!(!r_21)) && r_20.2.2) = true → J_22 r_23) → ((bif (!r_21) then true else (bif r_20.2.2 then (!r_23) else false)) = true → R ((s.head? == some 45, (low, (r_20.1, (r_20.2.1, bl e)))), false)) ∧
            ((bif (!r_21) then true else (bif r_20.2.2 then (!r_23) else false)) = false → ((!((r_20.1 : ByteArray).toList == ((⟨#[48]⟩ : ByteArray) : ByteArray).toList)) = true → (0 ≤ (0 : Int) ∧ (0 : Int) < ((r_20.1).size : Int))) ∧
              R ((s.head? == some 45, (low, (r_20.1, (r_20.2.1, bl e)))), bif ((r_20.1 : ByteArray).toList == ((⟨#[48]⟩ : ByteArray) : ByteArray).toList) then true else ((byteAt r_20.1 (0 : Int).toNat : Int) != 48))))) := by
    intro e low k1 k2
    have hok : (!(litM s).2.2 || digs (litE s)) = true ∧ litLow s = low ∧ (if (litM s).2.2 then litE s else []) = e := by
      cases hm : (litM s).2.2 with
      | true => obtain ⟨a, b, c⟩ := k1 hm; exact ⟨by simp [a], b.symm, by simp [c]⟩
      | false => obtain ⟨a, b⟩ := k2 hm; exact ⟨rfl, by unfold litLow; rw [hm, a]; rfl, by simp [b]⟩
    refine cut_pc (l := (litM s).1) (sep := [46]) (p := isDot) (fun c => by simp [isDot]) (by omega) ?_
    refine digits_pc ⟨fun x => digs (litW s).2.1 = x, fun _ => digits_pc rfl, fun y hy => ?_⟩
    dsimp only
    simp only [show (⟨#[48]⟩ : ByteArray) = bl [48] from rfl, bl_eq, bl_size, bl_byteAt]
    change (_ → digs (litW s).2.1 = y) at hy
    show ((bif (!digs (litW s).1) then true else (bif (litW s).2.2 then (!y) else false)) = true → R ((s.head? == some 45, (low, (bl (litW s).1, (bl (litW s).2.1, bl e)))), false)) ∧
            ((bif (!digs (litW s).1) then true else (bif (litW s).2.2 then (!y) else false)) = false → ((!decide ((litW s).1 = [48])) = true → (0 ≤ (0 : Int) ∧ (0 : Int) < ((litW s).1.length : Int))) ∧
              R ((s.head? == some 45, (low, (bl (litW s).1, (bl (litW s).2.1, bl e)))), bif decide ((litW s).1 = [48]) then true else (((((litW s).1[(0 : Int).toNat]?).getD 0).toNat : Int) != 48)))
    have hy' : digs (litW s).1 = true → (litW s).2.2 = true → digs (litW s).2.1 = y := fun a b => hy (by
      show ((!(!digs (litW s).1)) && (litW s).2.2) = true
      rw [a, b]; rfl)
    refine ⟨fun hx => h2 ?_ _ _ _ _ _, fun hx => ⟨fun _ => ?_, ?_⟩⟩
    · unfold litOk
      cases hd : digs (litW s).1 with
      | false => simp
      | true =>
        rw [hd] at hx
        cases hw : (litW s).2.2 with
        | false => rw [hw] at hx; simp at hx
        | true =>
          rw [hw] at hx
          have := hy' hd hw
          rw [this]
          simp at hx; simp [hx]
    all_goals
      have hd : digs (litW s).1 = true := by
        cases hd : digs (litW s).1 with
        | true => rfl
        | false => rw [hd] at hx; simp at hx
      have hp := digs_pos hd
    · omega
    · have h3 : (!(litW s).2.2 || digs (litW s).2.1) = true := by
        cases hw : (litW s).2.2 with
        | false => rfl
        | true =>
          rw [hd, hw] at hx
          have := hy' hd hw
          rw [this]; simpa using hx
      have h4 : (bif decide ((litW s).1 = [48]) then true else (((((litW s).1[(0 : Int).toNat]?).getD 0).toNat : Int) != 48)) = ((litW s).1 == [48] || (litW s).1.head? != some 48) := by
        rw [show (0 : Int).toNat = 0 from rfl, head_idx hp, Bool.cond_true_left, Bool.eq_iff_iff]; simp
      have hlit : litOk s = ((litW s).1 == [48] || (litW s).1.head? != some 48) := by
        unfold litOk; rw [hok.1, hd, h3]; simp
      rw [h4]
      cases ho : ((litW s).1 == [48] || (litW s).1.head? != some 48) with
      | true =>
        have := h1 (hlit.trans ho)
        unfold litOf at this
        rw [hok.2.1, hok.2.2] at this
        exact this
      | false => exact h2 (hlit.trans ho) _ _ _ _ _
  intro K hK
  refine ⟨fun hm => ?_, fun hm => ?_⟩
  · have hm' : (litM s).2.2 = true := hm
    refine CutPrefix1 (c := 45) (l := (litM s).2.1) ?_
    dsimp only
    intro K2 hK2
    have step : ∀ low e, low = litLow s → e = litE s → K2 (bl e) (s.head? == some 45) low (bl []) (bl []) (bl []) := by
      intro low e he1 he2
      refine hK2 _ _ _ _ _ _ (digits_pc ⟨fun hx => ?_, fun hx => ?_⟩)
      · refine h2 ?_ _ _ [] [] []
        unfold litOk; rw [hm', ← he2]
        have : digs e = false := by simpa using hx
        rw [this]; rfl
      · refine hK _ _ _ _ _ _ (tail e low (fun _ => ⟨by rw [← he2]; simpa using hx, he1, he2⟩) fun h => by rw [hm'] at h; cases h)
    have hlow : litLow s = ((litM s).2.1.head? == some 45) := by unfold litLow; rw [hm']; rfl
    refine ⟨fun hx => ?_, fun hx => ?_⟩
    · have hx' : ((litM s).2.1.head? == some 45) = false := by simpa using hx
      rw [hx']
      refine TrimPrefix1 (c := 43) ?_
      simp only [Bool.false_eq_true, if_false]
      refine step false _ (by rw [hlow, hx']) ?_
      unfold litE; rw [hlow, hx']; simp
    · have hx' : ((litM s).2.1.head? == some 45) = true := by simpa using hx
      rw [hx']
      simp only [if_true]
      refine step true _ (by rw [hlow, hx']) ?_
      unfold litE; rw [hlow, hx']; simp
  · have hm' : (litM s).2.2 = false := hm
    have he : (litM s).2.1 = [] := (cutAt_miss hm').2
    have := tail [] false (fun h => by rw [hm'] at h; cases h) fun _ => ⟨rfl, rfl⟩
    show K (bl (litM s).2.1) _ _ _ _ _
    rw [he]
    exact hK _ _ _ _ _ _ this
theorem joinI4 {α β γ δ : Type} {B : α → β → γ → δ → Prop} {c : Bool} {a b : α} {x : β} {y : γ} {z : δ} (h : ∀ e, e = (bif c then a else b) → B e x y z) : ∀ K : α → β → γ → δ → Prop, (∀ e x y z, B e x y z → K e x y z) → (c = true → K a x y z) ∧ (c = false → K b x y z) :=
  fun K hK => ⟨fun hc => hK _ _ _ _ (h _ (by subst hc; rfl)), fun hc => hK _ _ _ _ (h _ (by subst hc; rfl))⟩
theorem w64 {n : Int} (h : -4611686018427387904 ≤ n ∧ n ≤ 4611686018427387904) : IntKind.wrap .i64 n = n := wrap64 (by omega) (by omega)
set_option maxHeartbeats 1000000 in
theorem parse_pc {gl : Fr} {s : Bs} (hs : s.length ≤ 1152921504606846976) {R : (Bool × ByteArray × Int) × Int → Prop} (h : R (nmB (numParse s).1, (numParse s).2)) : PC Tryz.prog gl 82 [Arg.mk .str (bl s)] [tN, .int .i64] R := by
  apply pu_number_Parse
  refine read_pc (by omega) (fun hok => ?_) (fun hok a b c d e => ?_)
  rotate_left
  · refine TrimLeft0 ⟨fun _ => ?_, fun hx => by cases hx⟩
    have : numLit s = none := by unfold numLit; simp [hok]
    unfold numParse at h
    rw [this] at h; exact h
  · have hlit : numLit s = some (litOf s) := by unfold numLit; simp [hok]
    have hlen := numLit_len hlit
    obtain ⟨d1, d2, d3⟩ := numLit_digs hlit
    unfold numParse at h
    rw [hlit] at h
    simp only at h
    generalize litOf s = x at *
    refine TrimLeft0 ⟨fun hx => (by cases hx), fun _ => ?_⟩
    simp only [bl_size]
    rw [w64 (by omega)]
    refine ⟨fun hx => ?_, fun hx => ?_⟩
    · rw [if_pos (by simp at hx; omega)] at h; exact h
    · rw [if_neg (by simp at hx; omega)] at h
      refine ⟨fun hx2 => ?_, fun hx2 => ?_⟩
      · rw [if_pos (by simp at hx2; omega)] at h; exact h
      · rw [if_neg (by simp at hx2; omega)] at h
        have hx' : x.whole.length + x.rest.length ≤ 1000 := by simp at hx; omega
        have hex : x.exp.all isDig = true := d3
        generalize hE : x.exp.dropWhile (· == 48) = E at *
        have hEd : E.all isDig = true := by rw [← hE]; exact dropWhile_all d3
        have hEl : E.length ≤ 9 := by simp at hx2; omega
        have hEv : decVal E < 10 ^ 9 := decVal_le hEl hEd
        refine ⟨fun e _ _ _ p => p.1 = bl E ∧ p.2 ≤ E.length ∧ e = (decVal (E.take p.2) : Int), fun _ _ _ _ p => E.length - p.2, ⟨rfl, by omega, by simp [decVal]⟩, ?_⟩
        rintro e b1 b2 b3 ⟨_, p⟩ ⟨rfl, hp, rfl⟩
        simp only at hp ⊢
        rw [nxB_bl, nxR_bl]
        refine ⟨fun hc => ⟨hc, ?_⟩, fun hc => ?_⟩
        · have hc' : p < E.length := by simpa using hc
          have hd := dig_at hEd hc'
          have hdr : E.drop p = E[p] :: E.drop (p + 1) := List.drop_eq_getElem_cons hc'
          rw [nxP_bl E p hc', hdr, dec_ascii (by omega)]
          have hle := decVal_le (n := 9) (l := E.take p) (by simp; omega) (all_take hEd p)
          rw [wrap32' (by omega) (by omega), w64 (n := 10 * _) (by omega), w64 (n := (_ : Int) - 48) (by omega), w64 (by omega)]
          simp only
          refine ⟨⟨trivial, by omega, ?_⟩, by omega⟩
          rw [decVal_take hc']; omega
        · have hc' : ¬ p < E.length := by simpa using hc
          have hpe : p = E.length := by omega
          subst hpe
          rw [List.take_length]
          apply joinI4
          intro e7 he7
          refine ⟨by unfold fits63; omega, ?_⟩
          rw [bl_append]
          refine TrimLeft0 ?_
          rw [show (⟨#[]⟩ : ByteArray) = bl [] from rfl]
          simp only [bl_eq]
          have hD : (x.whole ++ x.rest).all isDig = true := by rw [List.all_append, digs_all d1, d2]; rfl
          refine ⟨fun hx3 => ?_, fun hx3 => ?_⟩
          · rw [if_pos (by simpa using hx3)] at h; exact h
          · have hne : (x.whole ++ x.rest).dropWhile (· == 48) ≠ [] := by simpa using hx3
            rw [if_neg hne] at h
            have hdl := dropWhile_len (x.whole ++ x.rest) (· == 48)
            rw [List.length_append] at hdl
            refine TrimRight0 (by omega) ?_
            have hsl := (shortOf_facts hD hne).2.1
            have hsr := shortRight hD hne (by rw [List.length_append]; exact hx')
            simp only [bl_size, show ((List.dropWhile (fun x => x == 48) (x.whole ++ x.rest)).reverse.dropWhile (fun x => x == 48)).reverse = shortOf (x.whole ++ x.rest) from rfl]
            have hev : e7 = if x.low then - (decVal E : Int) else (decVal E : Int) := by rw [he7]; cases x.low <;> simp; exact w64 (by omega)
            have hb : -1000000000 ≤ e7 ∧ e7 ≤ 1000000000 := by rw [hev]; split <;> omega
            rw [w64 (n := e7 - _) (by omega), w64 (n := e7 - _ + _) (by omega), w64 (by omega)]
            refine right_pc (n := (x.neg, shortOf (x.whole ++ x.rest), e7 - (x.rest.length : Int) + (((x.whole ++ x.rest).dropWhile (· == 48)).length : Int) - ((shortOf (x.whole ++ x.rest)).length : Int))) (by simp only; omega) ?_
            rw [hsr]
            change R (nmB (if -1000000 ≤ (if x.low = true then - (decVal E : Int) else (decVal E : Int)) - (x.rest.length : Int) + (((x.whole ++ x.rest).dropWhile (· == 48)).length : Int) - ((shortOf (x.whole ++ x.rest)).length : Int) ∧ (if x.low = true then - (decVal E : Int) else (decVal E : Int)) - (x.rest.length : Int) + (((x.whole ++ x.rest).dropWhile (· == 48)).length : Int) - ((shortOf (x.whole ++ x.rest)).length : Int) ≤ 1000000 then ((x.neg, shortOf (x.whole ++ x.rest), (if x.low = true then - (decVal E : Int) else (decVal E : Int)) - (x.rest.length : Int) + (((x.whole ++ x.rest).dropWhile (· == 48)).length : Int) - ((shortOf (x.whole ++ x.rest)).length : Int)), 0) else ((false, [], 0), 4)).1, _) at h
            rw [← hev] at h
            refine ⟨fun hx4 => ?_, fun hx4 => ?_⟩
            · rw [if_neg (by simp at hx4; omega)] at h; exact h
            · rw [if_pos (by simp at hx4; omega)] at h; exact h
end Go.Proofs.YtaoceiiakcpbaaaGreatDoor
end
section
namespace Go.Proofs.YtaoceiiakcpbaaaGreatDoor
open Go Go.X Go.Proofs
set_option linter.unusedVariables false
theorem fits2 {a b : Bs} (h : a.length + b.length ≤ 4611686018427387904) : fits63 ((bl a).size + (bl b).size) := by
  unfold fits63; rw [bl_size, bl_size]; omega
theorem text_pc {gl : Fr} (hg : Pow gl) {n : Nm} (hn : n.2.1.length ≤ 4611686018427387904) {R : ByteArray → Prop} (h : R (bl (nmText n))) : PC Tryz.prog gl 55 [Arg.mk tN (nmB n)] [.str] R := by
  apply pu_number_Text
  refine right_pc hn ⟨fun hx => ?_, fun hx => ?_⟩
  · have : nmRight n = false := by simpa using hx
    have e : nmText n = [] := by unfold nmText; simp [this]
    rw [e] at h; exact h
  · have hr : nmRight n = true := by simpa using hx
    obtain ⟨hl, he1, he2⟩ := nmRight_len hr
    unfold nmText at h
    rw [if_pos hr] at h
    simp only [show (⟨#[]⟩ : ByteArray) = bl [] from rfl, bl_eq]
    refine ⟨fun hx2 => ?_, fun hx2 => ?_⟩
    · rw [if_pos (by simpa using hx2)] at h; exact h
    · rw [if_neg (by simpa using hx2)] at h
      intro K hK
      have key : ∀ t : Bs, t = (if n.1 then [45] else []) ++ n.2.1 → K (bl t) := by
        intro t ht
        have htl : t.length ≤ 1001 := by rw [ht]; split <;> simp <;> omega
        rw [← ht] at h
        refine hK _ ⟨fun hx3 => ?_, fun hx3 => ?_⟩
        · rw [if_neg (by simpa using hx3)] at h
          have hil := Go.X.itoa_len n.2.2
          refine Itoa_pc hg (by omega) (by omega) ?_
          refine ⟨fits2 (a := [101]) (by simp; omega), ?_⟩
          rw [show (⟨#[101]⟩ : ByteArray) = bl [101] from rfl, bl_append, bl_append]
          exact ⟨fits2 (by simp; omega), h⟩
        · rw [if_pos (by simpa using hx3), List.append_nil] at h; exact h
      refine ⟨fun hx3 => ⟨fits2 (a := [45]) (by simp; omega), ?_⟩, fun hx3 => ?_⟩
      · rw [show (⟨#[45]⟩ : ByteArray) = bl [45] from rfl, bl_append]
        exact key _ (by rw [if_pos (by simpa using hx3)])
      · exact key _ (by rw [if_neg (by simpa using hx3)]; rfl)
theorem ext1 {k : Nat} (h : k < 10) : (bl [48, 49, 50, 51, 52, 53, 54, 55, 56, 57]).extract k (k + 1) = bl [UInt8.ofNat (48 + k)] := by
  rw [bl_extract, Go.X.dig_ext k h]
theorem itoa_pos {n : Int} (h : 10 ≤ n) : Lib.itoa n = Lib.itoa (n / 10) ++ [UInt8.ofNat (48 + (n % 10).toNat)] := by
  unfold Lib.itoa
  rw [if_neg (by omega), if_neg (by omega), Lib.decDigits, dif_neg (by omega)]
  congr 3
  · omega
  · omega
theorem itoa_neg {n : Int} (h : n ≤ -10) : Lib.itoa n = Lib.itoa (n.tdiv 10) ++ [UInt8.ofNat (48 + (-(n.tmod 10)).toNat)] := by
  obtain ⟨m, rfl⟩ : ∃ m : Nat, n = -(m : Int) := ⟨n.natAbs, by omega⟩
  have e1 : (-(m : Int)).tdiv 10 = -((m / 10 : Nat) : Int) := by rw [Int.neg_tdiv]; rfl
  have e2 : (-(m : Int)).tmod 10 = -((m % 10 : Nat) : Int) := by rw [Int.neg_tmod]; rfl
  rw [e1, e2]
  unfold Lib.itoa
  rw [if_pos (by omega), if_pos (by omega)]
  have a1 : (-(m : Int)).natAbs = m := by omega
  have a2 : (-((m / 10 : Nat) : Int)).natAbs = m / 10 := by omega
  rw [a1, a2]
  conv => lhs; rw [Lib.decDigits, dif_neg (by omega)]
  rw [List.cons_append]
  congr 4
  omega
theorem decimal_pc {gl : Fr} {n : Int} (h1 : -9223372036854775808 ≤ n) (h2 : n ≤ 9223372036854775807) {R : ByteArray → Prop} (h : R (bl (Lib.itoa n))) : PC Tryz.prog gl 170 [Arg.mk (.int .i64) n] [.str] R := by
  apply pu_scarfref02_Decimal
  have hD : (⟨#[48, 49, 50, 51, 52, 53, 54, 55, 56, 57]⟩ : ByteArray) = bl [48, 49, 50, 51, 52, 53, 54, 55, 56, 57] := rfl
  simp only [hD]
  have hsz : (bl [48, 49, 50, 51, 52, 53, 54, 55, 56, 57]).size = 10 := by rw [bl_size]; rfl
  refine ⟨fun hx => ?_, fun hx => ⟨fun hx2 => ?_, fun hx2 => ⟨fun hx3 => ?_, fun hx3 => ?_⟩⟩⟩
  · have hn : 0 ≤ n ∧ n < 10 := by simpa [Bool.cond_false_right] using hx
    rw [w64 (by omega), hsz]
    refine ⟨by omega, ?_⟩
    have e : (n + 1).toNat = n.toNat + 1 := by omega
    rw [e, ext1 (by omega)]
    have : Lib.itoa n = [UInt8.ofNat (48 + n.toNat)] := by unfold Lib.itoa; rw [if_neg (by omega), Lib.decDigits, dif_pos (by omega)]
    rw [← this]; exact h
  · have hn : 10 ≤ n := by
      have : ¬ (0 ≤ n ∧ n < 10) := by simpa [Bool.cond_false_right] using hx
      have : n > 0 := by simpa using hx2
      omega
    have e1 : n.tdiv 10 = n / 10 := Int.tdiv_eq_ediv_of_nonneg (by omega)
    have e2 : n.tmod 10 = n % 10 := Int.tmod_eq_emod_of_nonneg (by omega)
    rw [e1, e2, w64 (n := n % 10 + 1) (by omega), w64 (n := n / 10) (by omega), hsz]
    refine ⟨trivial, by omega, trivial, by omega, trivial, by omega, by omega, decimal_pc (n := n / 10) (by omega) (by omega) ?_⟩
    have e : (n % 10 + 1).toNat = (n % 10).toNat + 1 := by omega
    rw [e, ext1 (by omega)]
    refine ⟨fits2 ?_, ?_⟩
    · have := Go.X.itoa_len (n / 10); simp; omega
    · rw [bl_append, ← itoa_pos hn]; exact h
  · have hn : -10 < n ∧ n < 0 := by
      have : ¬ (0 ≤ n ∧ n < 10) := by simpa [Bool.cond_false_right] using hx
      have : ¬ n > 0 := by simpa using hx2
      have : n > -10 := by simpa using hx3
      omega
    have hz : (0 : Int) - n = -n := by omega
    rw [hz, w64 (n := -n) (by omega), w64 (n := -n + 1) (by omega), hsz]
    have e : (-n + 1).toNat = (-n).toNat + 1 := by omega
    rw [e, ext1 (by omega)]
    refine ⟨by omega, fits2 (a := [45]) (by simp), ?_⟩
    rw [show (⟨#[45]⟩ : ByteArray) = bl [45] from rfl, bl_append]
    have : Lib.itoa n = [45] ++ [UInt8.ofNat (48 + (-n).toNat)] := by
      unfold Lib.itoa; rw [if_pos (by omega), Lib.decDigits, dif_pos (by omega)]
      have : n.natAbs = (-n).toNat := by omega
      rw [this]; rfl
    rw [← this]; exact h
  · have hn : n ≤ -10 := by
      have : ¬ (0 ≤ n ∧ n < 10) := by simpa [Bool.cond_false_right] using hx
      have : ¬ n > 0 := by simpa using hx2
      have : ¬ n > -10 := by simpa using hx3
      omega
    have hd : n.tdiv 10 = -((-n) / 10) := by
      have := Int.neg_tdiv (-n) 10
      rw [Int.neg_neg] at this
      rw [this, Int.tdiv_eq_ediv_of_nonneg (by omega)]
    have hm : n.tmod 10 = -((-n) % 10) := by
      have := Int.neg_tmod (-n) 10
      rw [Int.neg_neg] at this
      rw [this, Int.tmod_eq_emod_of_nonneg (by omega)]
    have hz : (0 : Int) - n.tmod 10 = -(n.tmod 10) := by omega
    rw [hz, w64 (n := -(n.tmod 10)) (by omega), w64 (n := -(n.tmod 10) + 1) (by omega), w64 (n := n.tdiv 10) (by omega), hsz]
    have e : (-(n.tmod 10) + 1).toNat = (-(n.tmod 10)).toNat + 1 := by omega
    rw [e, ext1 (by omega)]
    refine ⟨trivial, by omega, trivial, by omega, trivial, by omega, by omega, decimal_pc (n := n.tdiv 10) (by omega) (by omega) ?_⟩
    refine ⟨fits2 ?_, ?_⟩
    · have := Go.X.itoa_len (n.tdiv 10); simp; omega
    · rw [bl_append, ← itoa_neg hn]; exact h
termination_by n.natAbs
decreasing_by all_goals omega
theorem refText_pc {gl : Fr} {n : Nm} (hn : n.2.1.length ≤ 4611686018427387904) {R : ByteArray → Prop} (h : R (bl (nmText n))) : PC Tryz.prog gl 153 [Arg.mk tN (nmB n)] [.str] R := by
  apply pu_scarfref02_Text
  refine refRight_pc hn ⟨fun hx => ?_, fun hx => ?_⟩
  · have : nmRight n = false := by simpa using hx
    have e : nmText n = [] := by unfold nmText; simp [this]
    rw [e] at h; exact h
  · have hr : nmRight n = true := by simpa using hx
    obtain ⟨hl, he1, he2⟩ := nmRight_len hr
    unfold nmText at h
    rw [if_pos hr] at h
    refine nought_pc (n := n) ⟨fun hx2 => ?_, fun hx2 => ?_⟩
    · have : n.2.1 = [] := by
        unfold nought at hx2
        simp at hx2; exact hx2.2.1
      rw [if_pos this] at h; exact h
    · have : ¬ n.2.1 = [] := fun e => by have := nmRight_nil hr e; rw [this] at hx2; cases hx2
      rw [if_neg this] at h
      intro K hK
      have key : ∀ t : Bs, t = (if n.1 then [45] else []) ++ n.2.1 → K (bl t) := by
        intro t ht
        have htl : t.length ≤ 1001 := by rw [ht]; split <;> simp <;> omega
        rw [← ht] at h
        refine hK _ ⟨fun hx3 => ?_, fun hx3 => ?_⟩
        · rw [if_neg (by simpa using hx3)] at h
          have hil := Go.X.itoa_len n.2.2
          refine ⟨fits2 (b := [101]) (by simp; omega), decimal_pc (n := n.2.2) (by omega) (by omega) ?_⟩
          rw [show (⟨#[101]⟩ : ByteArray) = bl [101] from rfl, bl_append, bl_append]
          exact ⟨fits2 (by simp; omega), by rw [List.append_assoc]; exact h⟩
        · rw [if_pos (by simpa using hx3), List.append_nil] at h; exact h
      refine ⟨fun hx3 => ⟨fits2 (a := [45]) (by simp; omega), ?_⟩, fun hx3 => ?_⟩
      · rw [show (⟨#[45]⟩ : ByteArray) = bl [45] from rfl, bl_append]
        exact key _ (by rw [if_pos (by simpa using hx3)])
      · exact key _ (by rw [if_neg (by simpa using hx3)]; rfl)
theorem of_pc {gl : Fr} (hg : Pow gl) {n : Int} (h1 : -9223372036854775808 ≤ n) (h2 : n ≤ 9223372036854775807) {R : Bool × ByteArray × Int → Prop} (h : R (nmB (numParse (Lib.itoa n)).1)) : PC Tryz.prog gl 56 [Arg.mk (.int .i64) n] [tN] R := by
  apply pu_number_Of
  refine Itoa_pc hg h1 h2 (parse_pc ?_ h)
  have := Go.X.itoa_len n
  have h20 : ∀ u : Nat, u < 10 ^ 20 → (Lib.decDigits u).length ≤ 20 := by
    have : ∀ (k u : Nat), u < 10 ^ (k + 1) → (Lib.decDigits u).length ≤ k + 1 := by
      intro k
      induction k with
      | zero => intro u hu; rw [Lib.decDigits, dif_pos (by simpa using hu)]; simp
      | succ k ih =>
        intro u hu
        rw [Lib.decDigits]
        split
        · simp
        · have := ih (u / 10) (by rw [Nat.pow_succ] at hu; omega)
          simp; omega
    exact this 19
  have : (Lib.itoa n).length ≤ 21 := by
    unfold Lib.itoa
    split
    · have := h20 n.natAbs (by omega); simp; omega
    · have := h20 n.toNat (by omega); omega
  omega
end Go.Proofs.YtaoceiiakcpbaaaGreatDoor
end
section
namespace Go.Proofs.YtaoceiiakcpbaaaGreatDoor
open Go Go.X Go.Proofs
set_option linter.unusedVariables false
theorem headI {l : Bs} {c : UInt8} {n : Int} (hn : n = (c.toNat : Int)) : (bif decide ((l.length : Int) > 0) then (((l[0]?.getD 0).toNat : Int) == n) else false) = (l.head? == some c) := by
  subst hn
  cases l with
  | nil => rfl
  | cons b t =>
    have : decide (((b :: t).length : Int) > 0) = true := by simp
    rw [this, cond_true]
    show ((b.toNat : Int) == (c.toNat : Int)) = (some b == some c)
    rw [Bool.eq_iff_iff]
    simp only [beq_iff_eq, Int.natCast_inj, Option.some.injEq]
    exact ⟨fun h => UInt8.toNat_inj.1 h, fun h => by rw [h]⟩
theorem tailD {l : Bs} : bl ((l.drop (1 : Int).toNat).take (((l.length : Int)).toNat - (1 : Int).toNat)) = bl l.tail := by
  rw [Int.toNat_natCast, show (1 : Int).toNat = 1 from rfl, List.drop_one, List.take_of_length_le (by simp)]
theorem bne_byte {c : UInt8} {n : Int} (d : UInt8) (hn : n = (d.toNat : Int)) : ((c.toNat : Int) != n) = !(c == d) := by
  subst hn
  rw [Bool.eq_iff_iff]
  simp only [bne_iff_ne, ne_eq, Int.natCast_inj, Bool.not_eq_true', beq_eq_false_iff_ne]
  exact ⟨fun h e => h (by rw [e]), fun h e => h (UInt8.toNat_inj.1 e)⟩
set_option maxHeartbeats 1000000 in
theorem parts_pc {gl : Fr} {s : Bs} (hs : s.length ≤ 1152921504606846976) {R : Bool × ByteArray × ByteArray × Bool × ByteArray × Bool → Prop}
    (h1 : litOk s = true → R ((litOf s).neg, bl (litOf s).whole, bl (litOf s).rest, (litOf s).low, bl (if (litM s).2.2 then (litOf s).exp else [48]), true)) (h2 : litOk s = false → ∀ a b c d e, R (a, bl b, bl c, d, bl e, false)) :
    PC Tryz.prog gl 168 [Arg.mk .str (bl s)] [.bool, .str, .str, .bool, .str, .bool] R := by
  apply pu_scarfref02_parts
  simp only [bl_size, bl_byteAt, show (0 : Int).toNat = 0 from rfl, headI (l := s) (c := 45) (n := 45) rfl]
  refine ⟨fun hx => by simp at hx; omega, ?_⟩
  have hS : (litS s).length ≤ s.length := by unfold litS; split <;> simp
  have first : ∀ K : ByteArray → Prop, K (bl (litS s)) → (((s.head? == some 45) = true → (0 ≤ (1 : Int) ∧ (1 : Int) ≤ (s.length : Int) ∧ ((s.length : Int)) ≤ (s.length : Int)) ∧ K ((bl s).extract (1 : Int).toNat ((s.length : Int)).toNat)) ∧ ((s.head? == some 45) = false → K (bl s))) := by
    intro K hK
    unfold litS at hK
    refine ⟨fun hx => ⟨?_, ?_⟩, fun hx => ?_⟩
    · cases s with
      | nil => simp at hx
      | cons => simp; omega
    · rw [hx, if_pos rfl] at hK
      rw [bl_extract, tailD]; exact hK
    · rw [hx, if_neg (by simp)] at hK; exact hK
  intro K hK
  refine first K (hK _ ?_)
  clear hK first K
  generalize hs1 : litS s = s1 at *
  simp only [bl_size, bl_byteAt]
  have hM : cutAt isE s1 = litM s := by rw [litM, hs1]
  refine ⟨fun i => ∃ k : Nat, i = k ∧ k ≤ s1.length ∧ ∀ j (hj : j < s1.length), j < k → isE s1[j] = false, fun i => s1.length - i.toNat, ⟨0, rfl, by omega, fun j _ h => by omega⟩, ?_⟩
  rintro i ⟨k, rfl, hk, hb⟩
  have stop : ∀ hk : k < s1.length, (bif (bif decide ((k : Int) < (s1.length : Int)) then ((((s1[((k : Int)).toNat]?).getD 0).toNat : Int) != 101) else false) then ((((s1[((k : Int)).toNat]?).getD 0).toNat : Int) != 69) else false) = !isE s1[k] := by
    intro hk
    rw [Int.toNat_natCast, getDlt hk]
    have : decide ((k : Int) < (s1.length : Int)) = true := by simpa using hk
    rw [this, cond_true, bne_byte (n := 101) 101 rfl, bne_byte (n := 69) 69 rfl, isE]
    cases s1[k] == 101 <;> simp
  refine ⟨fun hc => ?_, fun hc => ?_, fun hc => ?_, fun hc => ?_⟩
  · have : k < s1.length := by simpa using hc
    omega
  · have : k < s1.length := by simp at hc; omega
    omega
  · have hk' : k < s1.length := by simp at hc; omega
    rw [stop hk'] at hc
    rw [wsucc hk' (by omega)]
    refine ⟨⟨k + 1, rfl, by omega, fun j hj hjk => ?_⟩, by simp only [Int.toNat_natCast]; omega⟩
    by_cases e : j = k
    · subst e; simpa using hc
    · exact hb j hj (by omega)
  · -- the whole and the point
    have hm : litM s = if hk : k < s1.length then (s1.take k, s1.drop (k + 1), true) else (s1, [], false) := by
      rw [← hM]
      split
      · rename_i hk'
        rw [stop hk'] at hc
        exact cutAt_at hk' (fun j hj => hb j (by omega) hj) (by simpa using hc)
      · exact cutAt_none fun c hc2 => by
          obtain ⟨j, hj, rfl⟩ := List.getElem_of_mem hc2
          exact hb j hj (by omega)
    have hfront : s1.take k = (litM s).1 := by
      rw [hm]; split
      · rfl
      · rw [List.take_of_length_le (by omega)]
    have rest : ∀ (e : Bs) (low : Bool), low = litLow s → e = (if (litM s).2.2 then litE s else [48]) →
        ∀ K32 : ByteArray → Bool → Prop, (∀ exp10_30 : ByteArray, ∀ minus11_31 : Bool, exp10_30 = bl e → minus11_31 = low → K32 exp10_30 minus11_31) → K32 (bl e) low := fun e low _ _ K32 h => h _ _ rfl rfl
    intro K32 hK32
    have fin : ∀ (e : Bs) (low : Bool), low = litLow s → e = (if (litM s).2.2 then litE s else [48]) → K32 (bl e) low := by
      intro e low he1 he2
      refine hK32 _ _ ⟨by omega, ?_⟩
      have hex : (bl s1).extract 0 ((k : Int)).toNat = bl (litM s).1 := by rw [Int.toNat_natCast, bl_extract, List.drop_zero, Nat.sub_zero, hfront]
      rw [hex]
      generalize hm1 : (litM s).1 = m1 at *
      have hm1l : m1.length ≤ s1.length := by rw [← hfront]; simp; omega
      have hw : cutAt isDot m1 = litW s := by rw [litW, hm1]
      simp only [bl_size, bl_byteAt]
      refine ⟨fun i => ∃ k : Nat, i = k ∧ k ≤ m1.length ∧ ∀ j (hj : j < m1.length), j < k → isDot m1[j] = false, fun i => m1.length - i.toNat, ⟨0, rfl, by omega, fun j _ h => by omega⟩, ?_⟩
      rintro i ⟨q, rfl, hq, hqb⟩
      have stop2 : ∀ hq : q < m1.length, (bif decide ((q : Int) < (m1.length : Int)) then ((((m1[((q : Int)).toNat]?).getD 0).toNat : Int) != 46) else false) = !isDot m1[q] := by
        intro hq
        rw [Int.toNat_natCast, getDlt hq]
        have : decide ((q : Int) < (m1.length : Int)) = true := by simpa using hq
        rw [this, cond_true, bne_byte (n := 46) 46 rfl, isDot]
      refine ⟨fun hc => ?_, fun hc => ?_, fun hc => ⟨?_, ?_⟩⟩
      · have : q < m1.length := by simpa using hc
        omega
      · have hq' : q < m1.length := by simp at hc; omega
        rw [stop2 hq'] at hc
        rw [wsucc hq' (by omega)]
        refine ⟨⟨q + 1, rfl, by omega, fun j hj hjk => ?_⟩, by simp only [Int.toNat_natCast]; omega⟩
        by_cases e : j = q
        · subst e; simpa using hc
        · exact hqb j hj (by omega)
      · omega
      · have hwv : litW s = if hq : q < m1.length then (m1.take q, m1.drop (q + 1), true) else (m1, [], false) := by
          rw [← hw]
          split
          · rename_i hq'
            rw [stop2 hq'] at hc
            exact cutAt_at hq' (fun j hj => hqb j (by omega) hj) (by simpa using hc)
          · exact cutAt_none fun c hc2 => by
              obtain ⟨j, hj, rfl⟩ := List.getElem_of_mem hc2
              exact hqb j hj (by omega)
        have hwh : (bl m1).extract 0 ((q : Int)).toNat = bl (litW s).1 := by
          rw [Int.toNat_natCast, bl_extract, List.drop_zero, Nat.sub_zero, hwv]
          split
          · rfl
          · rw [List.take_of_length_le (by omega)]
        rw [hwh]
        have hwl : (litW s).1.length ≤ s.length := by rw [hwv]; split <;> simp <;> omega
        have hwr : (litW s).2.1.length ≤ s.length := by rw [hwv]; split <;> simp <;> omega
        have hel : e.length ≤ s.length + 1 := by
          rw [he2]
          split
          · rename_i hmm
            have : (litE s).length ≤ (litM s).2.1.length := by
              unfold litE; split
              · simp
              · split <;> simp
            have : (litM s).2.1.length ≤ s1.length := by rw [hm]; split <;> simp
            omega
          · simp
        have fin2 : ∀ (K46 : ByteArray → Prop), (∀ r : ByteArray, r = bl (if (litW s).2.2 then (litW s).2.1 else [48]) → K46 r) → ((decide ((q : Int) < (m1.length : Int))) = true → (0 ≤ (IntKind.wrap .i64 ((q : Int) + 1)) ∧ (IntKind.wrap .i64 ((q : Int) + 1)) ≤ (m1.length : Int) ∧ ((m1.length : Int)) ≤ (m1.length : Int)) ∧ K46 ((bl m1).extract (IntKind.wrap .i64 ((q : Int) + 1)).toNat ((m1.length : Int)).toNat)) ∧ ((decide ((q : Int) < (m1.length : Int))) = false → K46 (bl [48])) := by
          intro K46 hK46
          refine ⟨fun hx => ?_, fun hx => ?_⟩
          · have hq' : q < m1.length := by simpa using hx
            rw [wsucc hq' (by omega)]
            refine ⟨by omega, hK46 _ ?_⟩
            rw [hwv, dif_pos hq', Int.toNat_natCast, Int.toNat_natCast, bl_extract, List.take_of_length_le (by simp)]; rfl
          · have hq' : ¬ q < m1.length := by simpa using hx
            refine hK46 _ ?_
            rw [hwv, dif_neg hq']; rfl
        intro K46 hK46
        refine fin2 K46 fun r hr => hK46 r ?_
        subst hr
        clear hK46 fin2
        have hqeq : ((q : Int) == (m1.length : Int)) = !(litW s).2.2 := by
          rw [hwv, Bool.eq_iff_iff]
          split
          · simp; omega
          · simp; omega
        refine refDigits_pc (l := (litW s).1) (by omega) ⟨fun x => digs (if (litW s).2.2 then (litW s).2.1 else [48]) = x, fun _ => refDigits_pc (by split <;> first | omega | simp) rfl, fun y hy => ?_⟩
        refine ⟨fun x => digs e = x, fun _ => refDigits_pc (by omega) rfl, fun z hz => ?_⟩
        rw [show (⟨#[48]⟩ : ByteArray) = bl [48] from rfl]
        simp only [bl_eq, bl_size, bl_byteAt]
        generalize hd1 : digs (litW s).1 = d1 at *
        have hdot : digs (if (litW s).2.2 then (litW s).2.1 else [48]) = (!(litW s).2.2 || digs (litW s).2.1) := by
          cases (litW s).2.2 <;> simp; decide
        have hexp : digs e = (!(litM s).2.2 || digs (litE s)) := by
          rw [he2]; cases (litM s).2.2 <;> simp; decide
        have hlit : litOk s = ((bif (bif d1 then y else false) then z else false) && ((litW s).1 == [48] || (litW s).1.head? != some 48)) := by
          unfold litOk
          rw [hd1, ← hdot, ← hexp]
          cases hd : d1 with
          | false => simp
          | true =>
            have hy' := hy hd
            rw [hy']
            cases hyv : y with
            | false => simp
            | true =>
              have hz' := hz (by rw [hd, hyv]; rfl)
              rw [hz']; cases z <;> simp
        refine ⟨fun hx => ?_, ?_⟩
        · have : d1 = true := by simp at hx; exact hx.1.1.1
          have := digs_pos (hd1.trans this)
          omega
        · intro K53 hK53
          have fin3 : K53 (bl (litW s).2.1) := by
            refine hK53 _ ?_
            have h4 : ∀ hd : d1 = true, (bif decide ((litW s).1 = [48]) then true else (((((litW s).1[0]?).getD 0).toNat : Int) != 48)) = ((litW s).1 == [48] || (litW s).1.head? != some 48) := by
              intro hd
              rw [head_idx (digs_pos (hd1.trans hd)), Bool.cond_true_left, Bool.eq_iff_iff]; simp
            cases ho : litOk s with
            | true =>
              rw [ho] at hlit
              have hd : d1 = true := by cases d1 <;> simp at hlit; rfl
              rw [h4 hd]
              have hyz : (bif (bif d1 then y else false) then z else false) = true := by
                cases hb : (bif (bif d1 then y else false) then z else false) with
                | true => rfl
                | false => rw [hb] at hlit; simp at hlit
              rw [hyz] at hlit ⊢
              rw [cond_true]
              rw [Bool.true_and] at hlit
              rw [← hlit]
              have := h1 ho
              unfold litOf at this
              simp only at this
              rw [he1, he2]
              have e5 : (if (litM s).2.2 then (if (litM s).2.2 then litE s else []) else [48]) = (if (litM s).2.2 then litE s else [48]) := by cases (litM s).2.2 <;> rfl
              rw [e5] at this
              exact this
            | false =>
              rw [ho] at hlit
              have hv : (bif (bif (bif d1 then y else false) then z else false) then (bif decide ((litW s).1 = [48]) then true else (((((litW s).1[0]?).getD 0).toNat : Int) != 48)) else false) = false := by
                cases hd : d1 with
                | false => rfl
                | true =>
                  rw [h4 hd]
                  rw [hd] at hlit
                  rw [Bool.cond_false_right]; exact hlit.symm
              rw [hv]
              exact h2 ho _ _ _ _ _
          refine ⟨fun hx => ?_, fun hx => ?_⟩
          · rw [hqeq] at hx
            have hw0 : (litW s).2.2 = false := by simpa using hx
            have : (litW s).2.1 = [] := (cutAt_miss hw0).2
            rw [this] at fin3; exact fin3
          · rw [hqeq] at hx
            have hw1 : (litW s).2.2 = true := by simpa using hx
            rw [hw1] ; exact fin3
    refine ⟨fun hx => ?_, fun hx => ?_⟩
    · have hk' : k < s1.length := by simpa using hx
      rw [wsucc hk' (by omega)]
      have hE : (litM s).2.1 = s1.drop (k + 1) := by rw [hm, dif_pos hk']
      have hM2 : (litM s).2.2 = true := by rw [hm, dif_pos hk']
      have hext : (bl s1).extract ((k + 1 : Nat) : Int).toNat ((s1.length : Int)).toNat = bl (litM s).2.1 := by
        rw [Int.toNat_natCast, Int.toNat_natCast, bl_extract, List.take_of_length_le (by simp), hE]
      rw [hext]
      simp only [bl_size, bl_byteAt]
      rw [headI (l := (litM s).2.1) (c := 45) (n := 45) rfl, headI (l := (litM s).2.1) (c := 43) (n := 43) rfl]
      have hlow : ((litM s).2.1.head? == some 45) = litLow s := by unfold litLow; rw [hM2]; rfl
      rw [hlow]
      refine ⟨by omega, fun hy => by simp at hy; omega, fun hy => by simp at hy; omega, fun hy => ⟨?_, ?_⟩, fun hy => ?_⟩
      · have : 0 < (litM s).2.1.length := by
          cases hl : (litM s).2.1 with
          | nil => rw [← hlow, hl] at hy; simp at hy
          | cons => simp
        omega
      · rw [bl_extract, tailD]
        refine fin _ _ rfl ?_
        rw [hM2, if_pos rfl, litE]
        cases hl : litLow s with
        | true => simp
        | false => rw [hl] at hy; simp at hy; simp [hy]
      · refine fin _ _ rfl ?_
        rw [hM2, if_pos rfl, litE]
        cases hl : litLow s with
        | true => rw [hl] at hy; simp at hy
        | false => rw [hl] at hy; simp at hy; simp [hy]
    · have hk' : ¬ k < s1.length := by simpa using hx
      refine fin [48] false ?_ ?_
      · unfold litLow; rw [hm, dif_neg hk']; rfl
      · rw [hm, dif_neg hk']; rfl
end Go.Proofs.YtaoceiiakcpbaaaGreatDoor
end
section
namespace Go.Proofs.YtaoceiiakcpbaaaGreatDoor
open Go Go.X Go.Proofs
set_option linter.unusedVariables false
theorem dropWhile_id {l : Bs} (h : (l.head? == some 48) = false) : l.dropWhile (· == 48) = l := by
  cases l with
  | nil => rfl
  | cons b t =>
    rw [List.dropWhile_cons, if_neg]
    simpa using h
theorem dropWhile_tail {l : Bs} (h : (l.head? == some 48) = true) : l.tail.dropWhile (· == 48) = l.dropWhile (· == 48) := by
  cases l with
  | nil => rfl
  | cons b t =>
    have : b = 48 := by simpa using h
    subst this; rfl
theorem decVal_cons0 (l : Bs) : decVal (48 :: l) = decVal l := rfl
theorem decVal_drop (l : Bs) : decVal (l.dropWhile (· == 48)) = decVal l := by
  induction l with
  | nil => rfl
  | cons b t ih =>
    rw [List.dropWhile_cons]
    split
    · rename_i h
      have : b = 48 := by simpa using h
      subst this; rw [ih, decVal_cons0]
    · rfl
theorem wrapU8 {n : Int} (h1 : 0 ≤ n) (h2 : n < 256) : IntKind.wrap .u8 n = n := by
  unfold IntKind.wrap
  have e : (2 : Int) ^ IntKind.bits .u8 = 256 := by decide
  simp only [e]
  have hs : IntKind.signed .u8 = false := rfl
  simp only [hs, Bool.false_and, Bool.false_eq_true, if_false]
  omega
theorem headI0 {l : Bs} {m : Int} (hm : 0 ≤ m) : (bif decide ((l.length : Int) > m) then (((l[0]?.getD 0).toNat : Int) == 48) else false) = (decide ((l.length : Int) > m) && l.head? == some 48) := by
  cases hd : decide ((l.length : Int) > m) with
  | false => rfl
  | true =>
    have hl : 0 < l.length := by simp at hd; omega
    rw [cond_true, Bool.true_and]
    have := headI (l := l) (c := 48) (n := 48) rfl
    rw [show decide ((l.length : Int) > 0) = true by simp; omega, cond_true] at this
    exact this
def stripR (l : Bs) : Bs := (l.reverse.dropWhile (· == 48)).reverse
theorem stripR_last {l : Bs} {c : UInt8} (h : c = 48) : stripR (l ++ [c]) = stripR l := by
  subst h; unfold stripR; rw [List.reverse_append]; rfl
theorem stripR_id {l : Bs} {c : UInt8} (h : ¬ c = 48) : stripR (l ++ [c]) = l ++ [c] := by
  unfold stripR; rw [List.reverse_append, List.reverse_singleton, List.singleton_append, List.dropWhile_cons, if_neg (by simpa using h)]; simp
theorem joinI4' {α β γ δ : Type} {B : α → β → γ → δ → Prop} {c : Bool} {a b : α} {x : β} {y : γ} {z : δ} (h : ∀ e, e = (bif c then a else b) → B e x y z) : ∀ K : α → β → γ → δ → Prop, (∀ e x y z, B e x y z → K e x y z) → (c = true → K a x y z) ∧ (c = false → K b x y z) :=
  fun K hK => ⟨fun hc => hK _ _ _ _ (h _ (by subst hc; rfl)), fun hc => hK _ _ _ _ (h _ (by subst hc; rfl))⟩
set_option maxHeartbeats 1000000 in
theorem refParse_pc {gl : Fr} {s : Bs} (hs : s.length ≤ 1152921504606846976) {R : (Bool × ByteArray × Int) × Int → Prop} (h : R (nmB (numParse s).1, (numParse s).2)) : PC Tryz.prog gl 152 [Arg.mk .str (bl s)] [tN, .int .i64] R := by
  apply pu_scarfref02_Parse
  refine parts_pc hs (fun hok => ?_) (fun hok a b c d e => ?_)
  rotate_left
  · refine ⟨fun _ => ?_, fun hx => by cases hx⟩
    have : numLit s = none := by unfold numLit; simp [hok]
    unfold numParse at h
    rw [this] at h; exact h
  · have hlit : numLit s = some (litOf s) := by unfold numLit; simp [hok]
    have hlen := numLit_len hlit
    obtain ⟨d1, d2, d3⟩ := numLit_digs hlit
    unfold numParse at h
    rw [hlit] at h
    simp only at h
    obtain ⟨E1, hE1, hE1d, hE1v⟩ : ∃ E1, (if (litM s).2.2 then (litOf s).exp else [48]) = E1 ∧ E1.all isDig = true ∧ E1.dropWhile (· == 48) = (litOf s).exp.dropWhile (· == 48) := by
      refine ⟨_, rfl, ?_, ?_⟩
      · split
        · exact d3
        · rfl
      · cases hm : (litM s).2.2 with
        | true => rfl
        | false => simp [litOf, hm]
    have hE1l : E1.length ≤ s.length + 1 := by
      rw [← hE1]; split
      · omega
      · simp only [List.length_singleton]; omega
    rw [hE1]
    generalize litOf s = x at *
    refine ⟨fun hx => (by cases hx), fun _ => ?_⟩
    simp only [bl_size]
    rw [w64 (by omega)]
    refine ⟨fun hx => ?_, fun hx => ?_⟩
    · rw [if_pos (by simp at hx; omega)] at h; exact h
    · rw [if_neg (by simp at hx; omega)] at h
      have hx' : x.whole.length + x.rest.length ≤ 1000 := by simp at hx; omega
      refine ⟨fun e8 _ _ _ => ∃ E : Bs, e8 = bl E ∧ E.all isDig = true ∧ E.dropWhile (· == 48) = x.exp.dropWhile (· == 48), fun e8 _ _ _ => e8.size, ⟨E1, rfl, hE1d, hE1v⟩, ?_⟩
      rintro e8 b1 b2 b3 ⟨E, rfl, hEd, hEv⟩
      simp only [bl_size, bl_byteAt, show (0 : Int).toNat = 0 from rfl, headI0 (l := E) (m := 1) (by omega)]
      refine ⟨fun hy => by simp at hy; omega, fun hy => ?_, fun hy => ?_⟩
      · have hy1 : 1 < E.length ∧ (E.head? == some 48) = true := by
          have : (1 : Int) < (E.length : Int) ∧ E.head? = some 48 := by simpa using hy
          exact ⟨by omega, by simp [this.2]⟩
        rw [bl_extract, tailD]
        refine ⟨by omega, ⟨E.tail, rfl, ?_, ?_⟩, by rw [bl_size, List.length_tail]; omega⟩
        · rw [← List.drop_one]; exact all_drop hEd 1
        · rw [dropWhile_tail hy1.2, hEv]
      · have hEx : (E.length ≤ 1 ∨ E.dropWhile (· == 48) = E) := by
          cases hh : (E.head? == some 48) with
          | false => exact .inr (dropWhile_id hh)
          | true => rw [hh] at hy; simp at hy; exact .inl (by omega)
        have hdl := dropWhile_len E (· == 48)
        have hlen9 : E.length > 9 ↔ (x.exp.dropWhile (· == 48)).length > 9 := by
          rw [← hEv]
          rcases hEx with hx | hx
          · omega
          · rw [hx]
        refine ⟨fun hz => ?_, fun hz => ?_⟩
        · rw [if_pos (hlen9.1 (by simp at hz; omega))] at h; exact h
        · have hE9 : E.length ≤ 9 := by simp at hz; omega
          rw [if_neg (fun hh => by have := hlen9.2 hh; omega)] at h
          have hval : decVal (x.exp.dropWhile (· == 48)) = decVal E := by rw [← hEv, decVal_drop]
          rw [hval] at h
          have hvb : decVal E < 10 ^ 9 := decVal_le hE9 hEd
          refine ⟨fun e i _ _ _ => ∃ k : Nat, i = k ∧ k ≤ E.length ∧ e = (decVal (E.take k) : Int), fun _ i _ _ _ => E.length - i.toNat, ⟨0, rfl, by omega, by simp [decVal]⟩, ?_⟩
          rintro e i b1 b2 b3 ⟨k, rfl, hk, rfl⟩
          refine ⟨fun hc => ?_, fun hc => ?_⟩
          · have hc' : k < E.length := by simpa using hc
            have hd := dig_at hEd hc'
            simp only [Int.toNat_natCast, getDlt hc']
            have hle := decVal_le (n := 9) (l := E.take k) (by simp; omega) (all_take hEd k)
            rw [wrapU8 (by omega) (by omega), wsucc hc' (by omega), w64 (n := 10 * _) (by omega), w64 (n := (_ : Int) - 48) (by omega), w64 (n := _ + _) (by omega)]
            refine ⟨by omega, ⟨k + 1, rfl, by omega, ?_⟩, by simp only [Int.toNat_natCast]; omega⟩
            rw [decVal_take hc']; omega
          · have hc' : ¬ k < E.length := by simpa using hc
            rw [List.take_of_length_le (by omega)]
            apply joinI4'
            intro e7 he7
            refine ⟨by unfold fits63; omega, ?_⟩
            rw [bl_append]
            have hD : (x.whole ++ x.rest).all isDig = true := by rw [List.all_append, digs_all d1, d2]; rfl
            have hev : e7 = if x.low then - (decVal E : Int) else (decVal E : Int) := by rw [he7]; cases x.low <;> simp; exact w64 (by omega)
            rw [← hev] at h
            have hb : -1000000000 ≤ e7 ∧ e7 ≤ 1000000000 := by rw [hev]; split <;> omega
            refine ⟨fun d _ _ _ => ∃ D : Bs, d = bl D ∧ D.dropWhile (· == 48) = (x.whole ++ x.rest).dropWhile (· == 48) ∧ D.length ≤ 1000, fun d _ _ _ => d.size, ⟨_, rfl, rfl, by rw [List.length_append]; exact hx'⟩, ?_⟩
            rintro d b1 b2 b3 ⟨D, rfl, hDv, hDl⟩
            simp only [bl_size, bl_byteAt, show (0 : Int).toNat = 0 from rfl, headI (l := D) (c := 48) (n := 48) rfl]
            refine ⟨fun hy => by simp at hy; omega, fun hy => ?_, fun hy => ?_⟩
            · have hp : 0 < D.length := by
                cases D with
                | nil => simp at hy
                | cons => simp
              rw [bl_extract, tailD]
              exact ⟨by omega, ⟨D.tail, rfl, by rw [dropWhile_tail hy, hDv], by rw [List.length_tail]; omega⟩, by rw [bl_size, List.length_tail]; omega⟩
            · have hDe := dropWhile_id hy
              rw [hDv] at hDe
              rw [show (⟨#[]⟩ : ByteArray) = bl [] from rfl]
              simp only [bl_eq]
              rw [hDe] at h
              refine ⟨fun hz => ?_, fun hz => ?_⟩
              · rw [if_pos (by simpa using hz)] at h; exact h
              · have hne : D ≠ [] := by simpa using hz
                rw [if_neg hne] at h
                have hsh : shortOf (x.whole ++ x.rest) = stripR D := by unfold shortOf stripR; rw [hDe]
                have hsl : (stripR D).length ≤ D.length := by
                  have := (shortOf_facts hD (by rw [hDe]; exact hne)).2.1
                  rw [hsh, hDe] at this; exact this
                have hsne : stripR D ≠ [] := by
                  have := (shortOf_facts hD (by rw [hDe]; exact hne)).1
                  rw [hsh] at this
                  intro e; rw [e] at this; cases this
                rw [hsh] at h
                rw [w64 (n := e7 - _) (by omega)]
                refine ⟨fun e d _ _ _ => ∃ D' : Bs, d = bl D' ∧ D'.length ≤ 1000 ∧ stripR D' = stripR D ∧ e + D'.length = e7 - (x.rest.length : Int) + D.length, fun _ d _ _ _ => d.size, ⟨D, rfl, hDl, rfl, rfl⟩, ?_⟩
                rintro e d b1 b2 b3 ⟨D', rfl, hl', hs', he'⟩
                have hne' : D' ≠ [] := by
                  rintro rfl
                  rw [← hs'] at hsne; exact hsne rfl
                have hp : 0 < D'.length := List.length_pos_iff.2 hne'
                simp only [bl_size, bl_byteAt]
                rw [wpred hp (by omega)]
                have hlast : D' = D'.take (D'.length - 1) ++ [D'[D'.length - 1]] := by
                  rw [← List.take_succ_eq_append_getElem (by omega), show D'.length - 1 + 1 = D'.length by omega, List.take_length]
                simp only [Int.toNat_natCast, getDlt (show D'.length - 1 < D'.length by omega)]
                refine ⟨by omega, fun hq => ?_, fun hq => ?_⟩
                · have hc48 : D'[D'.length - 1] = 48 := UInt8.toNat_inj.1 (by have : (D'[D'.length - 1].toNat : Int) = 48 := by simpa using hq
                                                                              have : D'[D'.length - 1].toNat = 48 := by omega
                                                                              rw [this]; rfl)
                  rw [w64 (n := e + 1) (by omega), bl_extract]
                  refine ⟨by omega, ⟨D'.take (D'.length - 1), by simp, by simp; omega, ?_, by simp; omega⟩, by rw [bl_size]; simp; omega⟩
                  rw [← hs']
                  conv => rhs; rw [hlast]
                  rw [stripR_last hc48]
                · have hc48 : ¬ D'[D'.length - 1] = 48 := fun e => by rw [e] at hq; simp at hq
                  have hfin : D' = stripR D := by
                    rw [← hs']
                    conv => rhs; rw [hlast]
                    rw [stripR_id hc48, ← hlast]
                  have hee : e = e7 - (x.rest.length : Int) + (D.length : Int) - ((stripR D).length : Int) := by rw [← hfin]; omega
                  rw [hee, hfin]
                  refine ⟨fun hw => ?_, fun hw => ?_⟩
                  · rw [if_neg (by rw [Bool.cond_true_left] at hw; simp at hw; omega)] at h; exact h
                  · rw [if_pos (by rw [Bool.cond_true_left] at hw; simp at hw; omega)] at h; exact h
end Go.Proofs.YtaoceiiakcpbaaaGreatDoor
end
section
namespace Go.X
open Go Go.Lib
set_option linter.unusedVariables false
theorem foldl_dec (l : Bs) (a : Nat) : l.foldl (fun n c => 10 * n + (c.toNat - 48)) a = a * 10 ^ l.length + decVal l := by
  induction l generalizing a with
  | nil => simp [decVal]
  | cons c t ih =>
    simp only [List.foldl_cons, List.length_cons, decVal]
    rw [ih, ih (10 * 0 + (c.toNat - 48)), Nat.pow_succ]
    have : (10 * a + (c.toNat - 48)) * 10 ^ t.length = a * (10 ^ t.length * 10) + (c.toNat - 48) * 10 ^ t.length := by
      rw [Nat.add_mul, Nat.mul_comm 10 a, Nat.mul_assoc, Nat.mul_comm 10 (10 ^ t.length)]
    rw [this]; simp; omega
theorem decVal_append (a b : Bs) : decVal (a ++ b) = decVal a * 10 ^ b.length + decVal b := by
  rw [decVal, List.foldl_append, foldl_dec]; rfl
theorem decVal_zeros (n : Nat) : decVal (List.replicate n 48) = 0 := by
  induction n with
  | zero => rfl
  | succ n ih => rw [List.replicate_succ]; exact ih
theorem parseM_ok : ∀ (l : Bs) (acc : Nat), l.all isDig = true → acc * 10 ^ l.length + decVal l < 10 ^ 19 → parseUintM (2 ^ 64 - 1) acc l = .ok (acc * 10 ^ l.length + decVal l)
  | [], acc, _, _ => by simp [parseUintM, decVal]
  | c :: t, acc, hd, hl => by
    rw [List.all_cons, Bool.and_eq_true] at hd
    have hc : 48 ≤ c.toNat ∧ c.toNat ≤ 57 := by simpa [isDig] using hd.1
    have e : decVal (c :: t) = (c.toNat - 48) * 10 ^ t.length + decVal t := by
      have := decVal_append [c] t
      rw [List.singleton_append] at this
      rw [this]; simp [decVal]
    have e2 : (acc * 10 + (c.toNat - 48)) * 10 ^ t.length + decVal t = acc * 10 ^ (c :: t).length + decVal (c :: t) := by
      rw [e, List.length_cons, Nat.pow_succ, Nat.add_mul, Nat.mul_assoc, Nat.mul_comm 10 (10 ^ t.length)]; omega
    have hp : 1 ≤ 10 ^ t.length := Nat.one_le_pow _ _ (by decide)
    have hb : acc * 10 + (c.toNat - 48) ≤ acc * 10 ^ (c :: t).length + decVal (c :: t) := by
      rw [← e2]
      calc acc * 10 + (c.toNat - 48) = (acc * 10 + (c.toNat - 48)) * 1 := by omega
        _ ≤ (acc * 10 + (c.toNat - 48)) * 10 ^ t.length := Nat.mul_le_mul_left _ hp
        _ ≤ _ := by omega
    rw [parseUintM, if_pos hc, if_neg (by omega), if_neg (by omega), parseM_ok t _ hd.2 (by rw [e2]; exact hl), e2]
def intDig (n : Nm) : Bs := n.2.1 ++ List.replicate n.2.2.toNat 48
theorem intDig_val (n : Nm) : decVal (intDig n) = decVal n.2.1 * 10 ^ n.2.2.toNat := by
  rw [intDig, decVal_append, decVal_zeros, List.length_replicate, Nat.add_zero]
theorem nmRight_all {n : Nm} (h : nmRight n = true) : n.2.1.all isDig = true := by
  unfold nmRight nought at h
  rcases Bool.or_eq_true _ _ ▸ h with h | h
  · simp at h; rw [h.2.1]; rfl
  · simp only [Bool.and_eq_true] at h; exact digs_all h.1.1.1.1.1
theorem intDig_all {n : Nm} (h : nmRight n = true) : (intDig n).all isDig = true := by
  rw [intDig, List.all_append, nmRight_all h, Bool.true_and, List.all_eq_true]
  intro x hx
  rw [List.mem_replicate] at hx
  rw [hx.2]; rfl
theorem parse_int {l : Bs} (neg : Bool) (hd : l.all isDig = true) (hl : l.length ≤ 19) (hne : l ≠ []) :
    parseIntB 64 ((if neg then [45] else []) ++ l) = if neg then (if decVal l ≤ 9223372036854775808 then .ok (-(decVal l : Int)) else .range) else (if decVal l ≤ 9223372036854775807 then .ok (decVal l : Int) else .range) := by
  have hv : decVal l < 10 ^ 19 := decVal_le hl hd
  have hp := parseM_ok l 0 hd (by rw [Nat.zero_mul]; omega)
  rw [Nat.zero_mul, Nat.zero_add] at hp
  cases neg with
  | true =>
    simp only [if_true, List.singleton_append]
    unfold parseIntB
    simp only [show (45 : UInt8).toNat = 45 from rfl, or_true, if_true]
    unfold parseUintB
    rw [if_neg hne, hp]
    simp only [not_true_eq_false, false_and, if_false, true_and]
    split
    · rename_i h; rw [if_neg (by omega)]
    · rename_i h; rw [if_pos (by omega)]
  | false =>
    simp only [Bool.false_eq_true, if_false, List.nil_append]
    obtain ⟨c, t, rfl⟩ := List.exists_cons_of_ne_nil hne
    have hc : 48 ≤ c.toNat ∧ c.toNat ≤ 57 := by
      rw [List.all_cons, Bool.and_eq_true] at hd
      simpa [isDig] using hd.1
    unfold parseIntB
    simp only
    rw [if_neg (by omega)]
    unfold parseUintB
    rw [if_neg (by simp), hp]
    have h45 : ¬ c.toNat = 45 := by omega
    simp only [h45, not_false_eq_true, true_and, false_and, if_false]
    split
    · rename_i h; rw [if_neg (by omega)]
    · rename_i h; rw [if_pos (by omega)]
theorem or64 {a b : Nat} (ha : a < 18446744073709551616) (hb : b < 18446744073709551616) : IntKind.wrap .u64 (((BitVec.ofInt (IntKind.bits .u64) (a : Int)) ||| (BitVec.ofInt (IntKind.bits .u64) (b : Int))).toNat : Int) = ((a ||| b : Nat) : Int) := by
  have hbits : IntKind.bits .u64 = 64 := rfl
  have e : ((BitVec.ofInt (IntKind.bits .u64) (a : Int)) ||| (BitVec.ofInt (IntKind.bits .u64) (b : Int))).toNat = a ||| b := by
    rw [BitVec.toNat_or, BitVec.ofInt_natCast, BitVec.ofInt_natCast, BitVec.toNat_ofNat, BitVec.toNat_ofNat, hbits, Nat.mod_eq_of_lt (by omega), Nat.mod_eq_of_lt (by omega)]
  rw [e]
  have hlt : a ||| b < 2 ^ 64 := Nat.or_lt_two_pow (by omega) (by omega)
  unfold IntKind.wrap
  have e1 : (2 : Int) ^ IntKind.bits .u64 = 18446744073709551616 := by decide
  simp only [e1]
  have hs : IntKind.signed .u64 = false := rfl
  simp only [hs, Bool.false_and, Bool.false_eq_true, if_false]
  omega
theorem and64 {a b : Nat} (ha : a < 18446744073709551616) (hb : b < 18446744073709551616) : IntKind.wrap .u64 (((BitVec.ofInt (IntKind.bits .u64) (a : Int)) &&& (BitVec.ofInt (IntKind.bits .u64) (b : Int))).toNat : Int) = ((a &&& b : Nat) : Int) := by
  have hbits : IntKind.bits .u64 = 64 := rfl
  have e : ((BitVec.ofInt (IntKind.bits .u64) (a : Int)) &&& (BitVec.ofInt (IntKind.bits .u64) (b : Int))).toNat = a &&& b := by
    rw [BitVec.toNat_and, BitVec.ofInt_natCast, BitVec.ofInt_natCast, BitVec.toNat_ofNat, BitVec.toNat_ofNat, hbits, Nat.mod_eq_of_lt (by omega), Nat.mod_eq_of_lt (by omega)]
  rw [e]
  have hlt : a &&& b < 2 ^ 64 := Nat.and_lt_two_pow _ (by omega)
  unfold IntKind.wrap
  have e1 : (2 : Int) ^ IntKind.bits .u64 = 18446744073709551616 := by decide
  simp only [e1]
  have hs : IntKind.signed .u64 = false := rfl
  simp only [hs, Bool.false_and, Bool.false_eq_true, if_false]
  omega
theorem wrapu64 {n : Int} (h1 : 0 ≤ n) (h2 : n < 18446744073709551616) : IntKind.wrap .u64 n = n := by
  unfold IntKind.wrap
  have e1 : (2 : Int) ^ IntKind.bits .u64 = 18446744073709551616 := by decide
  simp only [e1]
  have hs : IntKind.signed .u64 = false := rfl
  simp only [hs, Bool.false_and, Bool.false_eq_true, if_false]
  omega
theorem u8_bit7 {n : Nat} (h : n < 256) : n.testBit 7 = false ↔ n < 128 := by
  rw [Nat.testBit_eq_decide_div_mod_eq]
  simp; omega
def MASK : Nat := 9259542123273814144
theorem mask_bit : ∀ i, i < 8 → MASK.testBit (8 * i + 7) = true := by decide
theorem and_mask {w : Nat} (h : w &&& MASK = 0) : ∀ i, i < 8 → w.testBit (8 * i + 7) = false := by
  intro i hi
  have := congrArg (fun x => x.testBit (8 * i + 7)) h
  simp only [Nat.testBit_and, mask_bit i hi, Bool.and_true, Nat.zero_testBit] at this
  exact this
def word8 (b0 b1 b2 b3 b4 b5 b6 b7 : Nat) : Nat := ((((((b0 ||| b1 * 2 ^ 8) ||| b2 * 2 ^ 16) ||| b3 * 2 ^ 24) ||| b4 * 2 ^ 32) ||| b5 * 2 ^ 40) ||| b6 * 2 ^ 48) ||| b7 * 2 ^ 56
theorem mulbit (b k j : Nat) : (b * 2 ^ k).testBit j = (decide (k ≤ j) && b.testBit (j - k)) := by
  rw [Nat.testBit_mul_two_pow]
theorem word8_bits {b0 b1 b2 b3 b4 b5 b6 b7 : Nat} {j : Nat} : (word8 b0 b1 b2 b3 b4 b5 b6 b7).testBit j = (b0.testBit j || (decide (8 ≤ j) && b1.testBit (j - 8)) || (decide (16 ≤ j) && b2.testBit (j - 16)) || (decide (24 ≤ j) && b3.testBit (j - 24)) || (decide (32 ≤ j) && b4.testBit (j - 32)) || (decide (40 ≤ j) && b5.testBit (j - 40)) || (decide (48 ≤ j) && b6.testBit (j - 48)) || (decide (56 ≤ j) && b7.testBit (j - 56))) := by
  unfold word8
  simp only [Nat.testBit_or, mulbit]
theorem word8_small {b0 b1 b2 b3 b4 b5 b6 b7 : Nat} (h : ∀ i, i < 8 → (word8 b0 b1 b2 b3 b4 b5 b6 b7).testBit (8 * i + 7) = false) (r0 : b0 < 256) (r1 : b1 < 256) (r2 : b2 < 256) (r3 : b3 < 256) (r4 : b4 < 256) (r5 : b5 < 256) (r6 : b6 < 256) (r7 : b7 < 256) :
    b0 < 128 ∧ b1 < 128 ∧ b2 < 128 ∧ b3 < 128 ∧ b4 < 128 ∧ b5 < 128 ∧ b6 < 128 ∧ b7 < 128 := by
  have h0 := h 0 (by decide); have h1 := h 1 (by decide); have h2 := h 2 (by decide); have h3 := h 3 (by decide)
  have h4 := h 4 (by decide); have h5 := h 5 (by decide); have h6 := h 6 (by decide); have h7 := h 7 (by decide)
  rw [word8_bits] at h0 h1 h2 h3 h4 h5 h6 h7
  simp only [Bool.or_eq_false_iff, Bool.and_eq_false_iff] at h0 h1 h2 h3 h4 h5 h6 h7
  refine ⟨(u8_bit7 r0).1 ?_, (u8_bit7 r1).1 ?_, (u8_bit7 r2).1 ?_, (u8_bit7 r3).1 ?_, (u8_bit7 r4).1 ?_, (u8_bit7 r5).1 ?_, (u8_bit7 r6).1 ?_, (u8_bit7 r7).1 ?_⟩
  · exact h0.1.1.1.1.1.1.1
  · rcases h1.1.1.1.1.1.1.2 with h | h
    · simp at h
    · simpa using h
  · rcases h2.1.1.1.1.1.2 with h | h
    · simp at h
    · simpa using h
  · rcases h3.1.1.1.1.2 with h | h
    · simp at h
    · simpa using h
  · rcases h4.1.1.1.2 with h | h
    · simp at h
    · simpa using h
  · rcases h5.1.1.2 with h | h
    · simp at h
    · simpa using h
  · rcases h6.1.2 with h | h
    · simp at h
    · simpa using h
  · rcases h7.2 with h | h
    · simp at h
    · simpa using h
theorem u8ok_ascii_n {l : Bs} : ∀ {n : Nat}, n ≤ l.length → (∀ i (hi : i < l.length), i < n → l[i].toNat < 128) → u8ok l = u8ok (l.drop n)
  | 0, _, _ => by simp
  | n + 1, hn, h => by
    rw [u8ok_ascii_n (n := n) (by omega) (fun i hi hi2 => h i hi (by omega))]
    rw [List.drop_eq_getElem_cons (show n < l.length by omega), u8ok_ascii (h n (by omega) (by omega))]
end Go.X
end
section
namespace Go.Proofs.YtaoceiiakcpbaaaGreatDoor
open Go Go.X Go.Proofs
set_option linter.unusedVariables false
def bN (l : Bs) (i : Nat) : Nat := (l[i]?.getD 0).toNat
theorem bN_lt (l : Bs) (i : Nat) : bN l i < 256 := (l[i]?.getD 0).toNat_lt
theorem bl_byteN (l : Bs) (i : Nat) : byteAt (bl l) i = ((bN l i : Nat) : Int) := bl_byteAt l i
def wordN (l : Bs) : Nat := word8 (bN l 0) (bN l 1) (bN l 2) (bN l 3) (bN l 4) (bN l 5) (bN l 6) (bN l 7)
theorem wordN_lt (l : Bs) : wordN l < 18446744073709551616 := by
  have h := bN_lt l
  have o : ∀ a b : Nat, a < 2 ^ 64 → b < 2 ^ 64 → a ||| b < 2 ^ 64 := fun a b ha hb => Nat.or_lt_two_pow ha hb
  show _ < 2 ^ 64
  unfold wordN word8
  refine o _ _ (o _ _ (o _ _ (o _ _ (o _ _ (o _ _ (o _ _ ?_ ?_) ?_) ?_) ?_) ?_) ?_) ?_
  · have := h 0; omega
  · have := h 1; omega
  · have := h 2; omega
  · have := h 3; omega
  · have := h 4; omega
  · have := h 5; omega
  · have := h 6; omega
  · have := h 7; omega
theorem mulcast (a k : Nat) (c : Int) (hc : c = ((2 ^ k : Nat) : Int)) : (a : Int) * c = ((a * 2 ^ k : Nat) : Int) := by rw [hc]; omega
theorem word_pc {gl : Fr} {l : Bs} (hl : 8 ≤ l.length) {R : Int → Prop} (h : R (wordN l : Int)) : PC Tryz.prog gl 121 [Arg.mk .str (bl l)] [.int .u64] R := by
  apply pu_unicode_utf8_word_string
  refine ⟨fun hx => (by cases hx), fun _ => ?_⟩
  simp only [bl_size, bl_byteN, show (0 : Int).toNat = 0 from rfl, show (1 : Int).toNat = 1 from rfl, show (2 : Int).toNat = 2 from rfl, show (3 : Int).toNat = 3 from rfl, show (4 : Int).toNat = 4 from rfl, show (5 : Int).toNat = 5 from rfl, show (6 : Int).toNat = 6 from rfl, show (7 : Int).toNat = 7 from rfl]
  refine ⟨by omega, by omega, by omega, by omega, by omega, by omega, by omega, by omega, ?_⟩
  have r := bN_lt l
  have r0 := r 0; have r1 := r 1; have r2 := r 2; have r3 := r 3; have r4 := r 4; have r5 := r 5; have r6 := r 6; have r7 := r 7
  have m1 := mulcast (bN l 1) 8 (2 ^ 8) (by decide); have m2 := mulcast (bN l 2) 16 (2 ^ 16) (by decide); have m3 := mulcast (bN l 3) 24 (2 ^ 24) (by decide); have m4 := mulcast (bN l 4) 32 (2 ^ 32) (by decide)
  have m5 := mulcast (bN l 5) 40 (2 ^ 40) (by decide); have m6 := mulcast (bN l 6) 48 (2 ^ 48) (by decide); have m7 := mulcast (bN l 7) 56 (2 ^ 56) (by decide)
  have o : ∀ a b : Nat, a < 18446744073709551616 → b < 18446744073709551616 → a ||| b < 18446744073709551616 := fun a b ha hb => Nat.or_lt_two_pow (n := 64) ha hb
  have w : ∀ n : Nat, n < 18446744073709551616 → IntKind.wrap .u64 (n : Int) = (n : Int) := fun n hn => wrapu64 (by omega) (by omega)
  rw [w (bN l 0) (by omega), w (bN l 1) (by omega), w (bN l 2) (by omega), w (bN l 3) (by omega), w (bN l 4) (by omega), w (bN l 5) (by omega), w (bN l 6) (by omega), w (bN l 7) (by omega), m1, m2, m3, m4, m5, m6, m7]
  rw [w (bN l 1 * 2 ^ 8) (by omega), w (bN l 2 * 2 ^ 16) (by omega), w (bN l 3 * 2 ^ 24) (by omega), w (bN l 4 * 2 ^ 32) (by omega), w (bN l 5 * 2 ^ 40) (by omega), w (bN l 6 * 2 ^ 48) (by omega), w (bN l 7 * 2 ^ 56) (by omega)]
  have q1 : bN l 0 ||| bN l 1 * 2 ^ 8 < 18446744073709551616 := o _ _ (by omega) (by omega)
  have q2 := o _ (bN l 2 * 2 ^ 16) q1 (by omega)
  have q3 := o _ (bN l 3 * 2 ^ 24) q2 (by omega)
  have q4 := o _ (bN l 4 * 2 ^ 32) q3 (by omega)
  have q5 := o _ (bN l 5 * 2 ^ 40) q4 (by omega)
  have q6 := o _ (bN l 6 * 2 ^ 48) q5 (by omega)
  rw [or64 (by omega) (by omega), or64 q1 (by omega), or64 q2 (by omega), or64 q3 (by omega), or64 q4 (by omega), or64 q5 (by omega), or64 q6 (by omega)]
  exact h
theorem word_clear {l : Bs} (hl : 8 ≤ l.length) (h : wordN l &&& MASK = 0) : u8ok l = u8ok (l.drop 8) := by
  have hs := word8_small (and_mask h) (bN_lt l 0) (bN_lt l 1) (bN_lt l 2) (bN_lt l 3) (bN_lt l 4) (bN_lt l 5) (bN_lt l 6) (bN_lt l 7)
  refine u8ok_ascii_n hl fun i hi hi8 => ?_
  have e : ∀ j (hj : j < l.length), bN l j = l[j].toNat := fun j hj => by unfold bN; rw [getDlt hj]
  obtain ⟨s0, s1, s2, s3, s4, s5, s6, s7⟩ := hs
  have hi' : i = 0 ∨ i = 1 ∨ i = 2 ∨ i = 3 ∨ i = 4 ∨ i = 5 ∨ i = 6 ∨ i = 7 := by omega
  rw [← e i hi]
  rcases hi' with rfl | rfl | rfl | rfl | rfl | rfl | rfl | rfl <;> assumption
theorem or_zero {a b : Nat} (h : (a ||| b) &&& MASK = 0) : a &&& MASK = 0 ∧ b &&& MASK = 0 := by
  have key : ∀ x y : Nat, x ||| y = 0 → x = 0 := by
    intro x y hxy
    apply Nat.eq_of_testBit_eq
    intro i
    have := congrArg (fun z => z.testBit i) hxy
    simp only [Nat.testBit_or, Nat.zero_testBit, Bool.or_eq_false_iff] at this
    rw [this.1, Nat.zero_testBit]
  have e : (a ||| b) &&& MASK = (a &&& MASK) ||| (b &&& MASK) := by
    apply Nat.eq_of_testBit_eq
    intro i
    simp only [Nat.testBit_and, Nat.testBit_or, Bool.and_or_distrib_right]
  rw [e] at h
  exact ⟨key _ _ h, key _ _ (by rw [Nat.or_comm]; exact h)⟩
theorem extD {l : Bs} {n : Int} {k : Nat} (hn : n = (k : Int)) : (bl l).extract n.toNat ((l.length : Int)).toNat = bl (l.drop k) := by
  subst hn
  rw [Int.toNat_natCast, Int.toNat_natCast, bl_extract, List.take_of_length_le (by simp)]
theorem Tabs.first {gl : Fr} (h : Tabs gl) {c : Nat} (hc : c < 256) : cellG gl 1 (0 + c * 1) (.int .u8 (Lib.firstT c)) := by
  obtain ⟨⟨cs, a, b⟩, _⟩ := h
  exact ⟨cs, a, by rw [Nat.zero_add, Nat.mul_one]; exact b c hc⟩
theorem Tabs.acc {gl : Fr} (h : Tabs gl) {i : Nat} (hi : i < 16) : cellG gl 2 (0 + i * 2) (.int .u8 (Lib.accLo i)) ∧ cellG gl 2 (0 + i * 2 + 1) (.int .u8 (Lib.accHi i)) := by
  obtain ⟨_, cs, a, b⟩ := h
  exact ⟨⟨cs, a, by rw [Nat.zero_add, Nat.mul_comm]; exact (b i hi).1⟩, ⟨cs, a, by rw [Nat.zero_add, Nat.mul_comm]; exact (b i hi).2⟩⟩
end Go.Proofs.YtaoceiiakcpbaaaGreatDoor
end
section
namespace Go.Proofs.YtaoceiiakcpbaaaGreatDoor
open Go Go.X Go.Proofs
set_option linter.unusedVariables false
theorem dec_bN {m : Bs} (h : m ≠ []) : dec m = Lib.decodeN m.length (bN m 0) (bN m 1) (bN m 2) (bN m 3) := by
  simp only [dec, bN, List.getD_eq_getElem?_getD]
theorem ok0 {m : Bs} (h : m ≠ []) (hb : 128 ≤ bN m 0 ∧ bN m 0 < 194 ∨ 245 ≤ bN m 0 ∧ bN m 0 < 256) : u8ok m = false := by
  rw [u8ok_step h, dec_bN h, dec0 hb]; rfl
theorem ok2 {m : Bs} (h : m ≠ []) (hb : 194 ≤ bN m 0 ∧ bN m 0 < 224) : u8ok m = (decide (2 ≤ m.length ∧ 128 ≤ bN m 1 ∧ bN m 1 ≤ 191) && u8ok (m.drop 2)) := by
  rw [u8ok_step h, dec_bN h, dec2 hb (bN_lt m 1)]
  by_cases hc : 2 ≤ m.length ∧ 128 ≤ bN m 1 ∧ bN m 1 ≤ 191
  · rw [if_pos hc]; simp [badD, hc]
  · rw [if_neg hc]; simp [badD, hc]
theorem ifc {α : Type} {p q : Prop} [Decidable p] [Decidable q] {a b : α} (h : p ↔ q) : (if p then a else b) = if q then a else b := by
  by_cases hp : p
  · rw [if_pos hp, if_pos (h.1 hp)]
  · rw [if_neg hp, if_neg (fun hq => hp (h.2 hq))]
theorem dec3' {n b0 b1 b2 b3 lo hi : Nat} (h : 224 ≤ b0 ∧ b0 < 240) (h1 : b1 < 256) (h2 : b2 < 256) (hlo : lo = if b0 = 224 then 160 else 128) (hhi : hi = if b0 = 237 then 159 else 191) : Lib.decodeN n b0 b1 b2 b3 =
    if 3 ≤ n ∧ (lo ≤ b1 ∧ b1 ≤ hi) ∧ 128 ≤ b2 ∧ b2 ≤ 191 then (((b0 - 224) * 64 + (b1 - 128)) * 64 + (b2 - 128), 3) else (65533, 1) := by
  rw [dec3 h h1 h2]
  refine ifc ?_
  split at hlo <;> split at hhi <;> omega
theorem dec4' {n b0 b1 b2 b3 lo hi : Nat} (h : 240 ≤ b0 ∧ b0 < 245) (h1 : b1 < 256) (h2 : b2 < 256) (h3 : b3 < 256) (hlo : lo = if b0 = 240 then 144 else 128) (hhi : hi = if b0 = 244 then 143 else 191) : Lib.decodeN n b0 b1 b2 b3 =
    if 4 ≤ n ∧ (lo ≤ b1 ∧ b1 ≤ hi) ∧ (128 ≤ b2 ∧ b2 ≤ 191) ∧ 128 ≤ b3 ∧ b3 ≤ 191 then ((((b0 - 240) * 64 + (b1 - 128)) * 64 + (b2 - 128)) * 64 + (b3 - 128), 4) else (65533, 1) := by
  rw [dec4 h h1 h2 h3]
  refine ifc ?_
  split at hlo <;> split at hhi <;> omega
theorem ok3 {m : Bs} (h : m ≠ []) (hb : 224 ≤ bN m 0 ∧ bN m 0 < 240) {lo hi : Nat} (hlo : lo = if bN m 0 = 224 then 160 else 128) (hhi : hi = if bN m 0 = 237 then 159 else 191) :
    u8ok m = (decide (3 ≤ m.length ∧ (lo ≤ bN m 1 ∧ bN m 1 ≤ hi) ∧ 128 ≤ bN m 2 ∧ bN m 2 ≤ 191) && u8ok (m.drop 3)) := by
  rw [u8ok_step h, dec_bN h, dec3' hb (bN_lt m 1) (bN_lt m 2) hlo hhi]
  by_cases hc : 3 ≤ m.length ∧ (lo ≤ bN m 1 ∧ bN m 1 ≤ hi) ∧ 128 ≤ bN m 2 ∧ bN m 2 ≤ 191
  · rw [if_pos hc]; simp [badD, hc]
  · rw [if_neg hc]; simp [badD, hc]
theorem ok4 {m : Bs} (h : m ≠ []) (hb : 240 ≤ bN m 0 ∧ bN m 0 < 245) {lo hi : Nat} (hlo : lo = if bN m 0 = 240 then 144 else 128) (hhi : hi = if bN m 0 = 244 then 143 else 191) :
    u8ok m = (decide (4 ≤ m.length ∧ (lo ≤ bN m 1 ∧ bN m 1 ≤ hi) ∧ (128 ≤ bN m 2 ∧ bN m 2 ≤ 191) ∧ 128 ≤ bN m 3 ∧ bN m 3 ≤ 191) && u8ok (m.drop 4)) := by
  rw [u8ok_step h, dec_bN h, dec4' hb (bN_lt m 1) (bN_lt m 2) (bN_lt m 3) hlo hhi]
  by_cases hc : 4 ≤ m.length ∧ (lo ≤ bN m 1 ∧ bN m 1 ≤ hi) ∧ (128 ≤ bN m 2 ∧ bN m 2 ≤ 191) ∧ 128 ≤ bN m 3 ∧ bN m 3 ≤ 191
  · rw [if_pos hc]; simp [badD, hc]
  · rw [if_neg hc]; simp [badD, hc]
set_option maxHeartbeats 2000000 in
theorem ValidString_pc {gl : Fr} (hg : Tabs gl) {l : Bs} (hl : l.length ≤ 4611686018427387904) {R : Bool → Prop} (h : R (u8ok l)) : PC Tryz.prog gl 86 [Arg.mk .str (bl l)] [.bool] R := by
  apply pu_unicode_utf8_ValidString
  refine ⟨fun s => ∃ m : Bs, s = bl m ∧ u8ok m = u8ok l ∧ m.length ≤ l.length, fun s => s.size, ⟨l, rfl, rfl, Nat.le_refl _⟩, ?_⟩
  rintro s ⟨m, rfl, hm, hml⟩
  simp only [bl_size, bl_byteN, show (0 : Int).toNat = 0 from rfl, extD (l := m) (n := 1) (k := 1) rfl, extD (l := m) (n := 2) (k := 2) rfl, extD (l := m) (n := 3) (k := 3) rfl, extD (l := m) (n := 4) (k := 4) rfl]
  refine ⟨fun hc => ?_, fun hc => ?_⟩
  rotate_left
  · have : m = [] := by
      have : ¬ (m.length : Int) > 0 := by simpa using hc
      exact List.eq_nil_of_length_eq_zero (by omega)
    subst this
    rw [u8ok_nil] at hm
    rw [← hm] at h; exact h
  have hp : 0 < m.length := by simp at hc; omega
  have hne : m ≠ [] := List.length_pos_iff.1 hp
  refine ⟨by omega, fun ha => ⟨by omega, ?_⟩, fun ha => ?_⟩
  · have hb : bN m 0 < 128 := by simp at ha; omega
    obtain ⟨c, t, rfl⟩ := List.exists_cons_of_ne_nil hne
    simp only [List.drop_one, List.tail_cons]
    have hm' : u8ok t = u8ok l := by rw [← hm]; exact (u8ok_ascii hb).symm
    simp only [List.length_cons] at hml ⊢
    simp only [extD (l := t) (n := 8) (k := 8) rfl, bl_size]
    refine ⟨fun r => r = (wordN t : Int), fun hq => word_pc (by simp at hq; omega) rfl, fun r hr => ⟨fun hx => ?_, fun hx => ⟨⟨t, rfl, hm', by omega⟩, by omega⟩⟩⟩
    have h8 : 8 < t.length := by
      cases hd : decide ((t.length : Int) > 8) with
      | true => simp at hd; omega
      | false => rw [hd] at hx; cases hx
    have hd8 : decide ((t.length : Int) > 8) = true := by simp; omega
    have hr' := hr hd8
    rw [hd8, cond_true, hr', show (9259542123273814144 : Int) = ((MASK : Nat) : Int) from rfl, and64 (wordN_lt t) (by decide)] at hx
    have hz : wordN t &&& MASK = 0 := by
      have : ((wordN t &&& MASK : Nat) : Int) = 0 := by simpa using hx
      omega
    have hm2 : u8ok (t.drop 8) = u8ok l := by rw [← hm', word_clear (by omega) hz]
    have hul : (t.drop 8).length + 8 = t.length := by simp; omega
    generalize t.drop 8 = u at *
    simp only [extD (l := u) (n := 8) (k := 8) rfl, extD (l := u) (n := 16) (k := 16) rfl]
    refine ⟨by omega, fun hq => by simp at hq; omega, fun r => r = (wordN u : Int), fun hq => word_pc (by simp at hq; omega) rfl, fun r35 hr35 => ⟨fun r => r = (wordN (u.drop 8) : Int), fun hq => word_pc (by simp at hq ⊢; omega) rfl, fun r37 hr37 => ⟨fun hx2 => ?_, fun hx2 => ⟨⟨u, rfl, hm2, by omega⟩, by omega⟩⟩⟩⟩
    have h16 : 16 < u.length := by
      cases hd : decide ((u.length : Int) > 16) with
      | true => simp at hd; omega
      | false => rw [hd] at hx2; cases hx2
    have hd16 : decide ((u.length : Int) > 16) = true := by simp; omega
    rw [hd16, cond_true, hr35 hd16, hr37 hd16, or64 (wordN_lt _) (wordN_lt _), show (9259542123273814144 : Int) = ((MASK : Nat) : Int) from rfl, and64 (Nat.or_lt_two_pow (n := 64) (wordN_lt _) (wordN_lt _)) (by decide)] at hx2
    have hz2 : (wordN u ||| wordN (u.drop 8)) &&& MASK = 0 := by
      have : (((wordN u ||| wordN (u.drop 8)) &&& MASK : Nat) : Int) = 0 := by simpa using hx2
      omega
    obtain ⟨z1, z2⟩ := or_zero hz2
    have hm3 : u8ok (u.drop 16) = u8ok l := by
      rw [← hm2, word_clear (by omega) z1, word_clear (l := u.drop 8) (by simp; omega) z2, List.drop_drop]
    refine ⟨by omega, fun s => ∃ m' : Bs, s = bl m' ∧ u8ok m' = u8ok l ∧ m'.length < (c :: t).length, fun s => s.size, ⟨u.drop 16, rfl, hm3, by simp; omega⟩, ?_⟩
    rintro s ⟨v, rfl, hv, hvl⟩
    simp only [List.length_cons] at hvl
    simp only [bl_size, extD (l := v) (n := 8) (k := 8) rfl, extD (l := v) (n := 16) (k := 16) rfl, extD (l := v) (n := 24) (k := 24) rfl, extD (l := v) (n := 32) (k := 32) rfl]
    refine ⟨fun hq => by simp at hq; omega, fun hq => by simp at hq; omega, fun hq => by simp at hq; omega, fun r => r = (wordN v : Int), fun hq => word_pc (by simp at hq; omega) rfl, fun r50 hr50 => ⟨fun r => r = (wordN (v.drop 8) : Int), fun hq => word_pc (by simp at hq ⊢; omega) rfl, fun r52 hr52 =>
      ⟨fun r => r = (wordN (v.drop 16) : Int), fun hq => word_pc (by simp at hq ⊢; omega) rfl, fun r54 hr54 => ⟨fun r => r = (wordN (v.drop 24) : Int), fun hq => word_pc (by simp at hq ⊢; omega) rfl, fun r56 hr56 => ⟨fun hx3 => ?_, fun hx3 => ⟨⟨v, rfl, hv, by omega⟩, by omega⟩⟩⟩⟩⟩⟩
    have h32 : 32 < v.length := by
      cases hd : decide ((v.length : Int) > 32) with
      | true => simp at hd; omega
      | false => rw [hd] at hx3; cases hx3
    have hd32 : decide ((v.length : Int) > 32) = true := by simp; omega
    have o2 : ∀ a b : Nat, a < 18446744073709551616 → b < 18446744073709551616 → a ||| b < 18446744073709551616 := fun a b ha hb => Nat.or_lt_two_pow (n := 64) ha hb
    rw [hd32, cond_true, hr50 hd32, hr52 hd32, hr54 hd32, hr56 hd32, or64 (wordN_lt _) (wordN_lt _), or64 (wordN_lt _) (wordN_lt _), or64 (o2 _ _ (wordN_lt _) (wordN_lt _)) (o2 _ _ (wordN_lt _) (wordN_lt _)), show (9259542123273814144 : Int) = ((MASK : Nat) : Int) from rfl,
      and64 (o2 _ _ (o2 _ _ (wordN_lt _) (wordN_lt _)) (o2 _ _ (wordN_lt _) (wordN_lt _))) (by decide)] at hx3
    have hz3 : ((wordN v ||| wordN (v.drop 8)) ||| (wordN (v.drop 16) ||| wordN (v.drop 24))) &&& MASK = 0 := by
      have : ((((wordN v ||| wordN (v.drop 8)) ||| (wordN (v.drop 16) ||| wordN (v.drop 24))) &&& MASK : Nat) : Int) = 0 := by simpa using hx3
      omega
    obtain ⟨y1, y2⟩ := or_zero hz3
    obtain ⟨x1, x2⟩ := or_zero y1
    obtain ⟨x3, x4⟩ := or_zero y2
    refine ⟨by omega, ⟨v.drop 32, rfl, ?_, by simp; omega⟩, by simp; omega⟩
    rw [← hv, word_clear (by omega) x1, word_clear (l := v.drop 8) (by simp; omega) x2, List.drop_drop, word_clear (l := v.drop (8 + 8)) (by simp; omega) x3, List.drop_drop, word_clear (l := v.drop (8 + 8 + 8)) (by simp; omega) x4, List.drop_drop]
  · have hb : 128 ≤ bN m 0 := by simp at ha; omega
    have hb2 := bN_lt m 0
    have hX := Lib.firstT_cases (bN m 0)
    have hr1 := bN_lt m 1; have hr2 := bN_lt m 2; have hr3 := bN_lt m 3
    refine ⟨by omega, (Lib.firstT (bN m 0) : Int), by simpa using hg.first hb2, ?_⟩
    obtain ⟨i, lo, hi, k, e2, e3, e4, e5, e6, k1, k2, k3, k4, hk⟩ : ∃ i lo hi k : Nat, ((Lib.firstT (bN m 0) : Int).fdiv (2 ^ 4)) = (i : Int) ∧ i < 16 ∧ Lib.accLo i = lo ∧ Lib.accHi i = hi ∧
        (IntKind.wrap .i64 (IntKind.wrap .u8 (((BitVec.ofInt (IntKind.bits .u8) (Lib.firstT (bN m 0) : Int)) &&& (BitVec.ofInt (IntKind.bits .u8) 7)).toNat : Int)) : Int) = (k : Int) ∧
        (k = 1 → u8ok m = false) ∧ (k = 2 → u8ok m = (decide (2 ≤ m.length ∧ lo ≤ bN m 1 ∧ bN m 1 ≤ hi) && u8ok (m.drop 2))) ∧
        (k = 3 → u8ok m = (decide (3 ≤ m.length ∧ (lo ≤ bN m 1 ∧ bN m 1 ≤ hi) ∧ 128 ≤ bN m 2 ∧ bN m 2 ≤ 191) && u8ok (m.drop 3))) ∧
        (k = 4 → u8ok m = (decide (4 ≤ m.length ∧ (lo ≤ bN m 1 ∧ bN m 1 ≤ hi) ∧ (128 ≤ bN m 2 ∧ bN m 2 ≤ 191) ∧ 128 ≤ bN m 3 ∧ bN m 3 ≤ 191) && u8ok (m.drop 4))) ∧ (k = 1 ∨ k = 2 ∨ k = 3 ∨ k = 4) := by
      have cls : ∀ v, Lib.firstT (bN m 0) = v → (v = 241 → (128 ≤ bN m 0 ∧ bN m 0 < 194) ∨ (245 ≤ bN m 0 ∧ bN m 0 < 256)) ∧ (v = 2 → 194 ≤ bN m 0 ∧ bN m 0 < 224) ∧ (v = 19 → bN m 0 = 224) ∧ (v = 3 → (225 ≤ bN m 0 ∧ bN m 0 < 240 ∧ bN m 0 ≠ 237)) ∧ (v = 35 → bN m 0 = 237) ∧ (v = 52 → bN m 0 = 240) ∧ (v = 4 → 241 ≤ bN m 0 ∧ bN m 0 < 244) ∧ (v = 68 → bN m 0 = 244) ∧ v ≠ 240 := by
        intro v hv
        unfold Lib.firstT at hv
        repeat' split at hv
        all_goals omega
      have cl := cls _ rfl
      rcases hX with hX | hX | hX | hX | hX | hX | hX | hX | hX
      · exact absurd hX cl.2.2.2.2.2.2.2.2
      · exact ⟨15, 0, 0, 1, by rw [hX]; decide, (by decide), rfl, rfl, by rw [hX]; decide, (fun _ => ok0 hne (cl.1 hX)), (fun e => by omega), (fun e => by omega), (fun e => by omega), (by omega)⟩
      · exact ⟨0, 128, 191, 2, by rw [hX]; decide, (by decide), rfl, rfl, by rw [hX]; decide, (fun e => by omega), (fun _ => ok2 hne (cl.2.1 hX)), (fun e => by omega), (fun e => by omega), (by omega)⟩
      · have c := cl.2.2.1 hX
        exact ⟨1, 160, 191, 3, by rw [hX]; decide, (by decide), rfl, rfl, by rw [hX]; decide, (fun e => by omega), (fun e => by omega), (fun _ => ok3 hne (by omega) (by rw [if_pos c]) (by rw [if_neg (by omega)])), (fun e => by omega), (by omega)⟩
      · have c := cl.2.2.2.1 hX
        exact ⟨0, 128, 191, 3, by rw [hX]; decide, (by decide), rfl, rfl, by rw [hX]; decide, (fun e => by omega), (fun e => by omega), (fun _ => ok3 hne (by omega) (by rw [if_neg (by omega)]) (by rw [if_neg (by omega)])), (fun e => by omega), (by omega)⟩
      · have c := cl.2.2.2.2.1 hX
        exact ⟨2, 128, 159, 3, by rw [hX]; decide, (by decide), rfl, rfl, by rw [hX]; decide, (fun e => by omega), (fun e => by omega), (fun _ => ok3 hne (by omega) (by rw [if_neg (by omega)]) (by rw [if_pos c])), (fun e => by omega), (by omega)⟩
      · have c := cl.2.2.2.2.2.1 hX
        exact ⟨3, 144, 191, 4, by rw [hX]; decide, (by decide), rfl, rfl, by rw [hX]; decide, (fun e => by omega), (fun e => by omega), (fun e => by omega), (fun _ => ok4 hne (by omega) (by rw [if_pos c]) (by rw [if_neg (by omega)])), (by omega)⟩
      · have c := cl.2.2.2.2.2.2.1 hX
        exact ⟨0, 128, 191, 4, by rw [hX]; decide, (by decide), rfl, rfl, by rw [hX]; decide, (fun e => by omega), (fun e => by omega), (fun e => by omega), (fun _ => ok4 hne (by omega) (by rw [if_neg (by omega)]) (by rw [if_neg (by omega)])), (by omega)⟩
      · have c := cl.2.2.2.2.2.2.2.1 hX
        exact ⟨4, 128, 143, 4, by rw [hX]; decide, (by decide), rfl, rfl, by rw [hX]; decide, (fun e => by omega), (fun e => by omega), (fun e => by omega), (fun _ => ok4 hne (by omega) (by rw [if_neg (by omega)]) (by rw [if_pos c])), (by omega)⟩
    generalize Lib.firstT (bN m 0) = x at *
    rw [e2, e6]
    have ac := hg.acc e3
    rw [e4, e5] at ac
    simp only [show (1 : Int).toNat = 1 from rfl, show (2 : Int).toNat = 2 from rfl, show (3 : Int).toNat = 3 from rfl]
    have bad : u8ok m = false → R false := fun e => by rw [← hm, e] at h; exact h
    refine ⟨by omega, (lo : Int), by simpa using ac.1, (hi : Int), by simpa using ac.2, ?_, ?_⟩
    · intro hx
      have hk2 : k = 2 := by simp at hx; omega
      have q := k2 hk2
      refine ⟨fun hy => by simp at hy; omega, fun hy => by simp at hy; omega, fun hy => bad ?_, fun hy => ?_⟩
      · simp only [Bool.cond_true_left, Bool.or_eq_true, decide_eq_true_eq] at hy
        rw [q, decide_eq_false (by omega)]; rfl
      · simp only [Bool.cond_true_left, Bool.or_eq_false_iff, decide_eq_false_iff_not] at hy
        refine ⟨by omega, ⟨m.drop 2, rfl, ?_, by simp; omega⟩, by simp; omega⟩
        rw [← hm, q, decide_eq_true (by omega)]; simp
    · intro hx
      refine ⟨fun hx3 => ?_, fun hx3 => ⟨fun hx4 => ?_, fun hx4 => ?_⟩⟩
      · have hk3 : k = 3 := by simp at hx3; omega
        have q := k3 hk3
        refine ⟨fun hy => by simp at hy; omega, fun hy => by simp at hy; omega, fun hy => by simp at hy; omega, fun hy => by simp at hy; omega, fun hy => bad ?_, fun hy => ?_⟩
        · simp only [Bool.cond_true_left, Bool.or_eq_true, decide_eq_true_eq] at hy
          rw [q, decide_eq_false (by omega)]; rfl
        · simp only [Bool.cond_true_left, Bool.or_eq_false_iff, decide_eq_false_iff_not] at hy
          refine ⟨by omega, ⟨m.drop 3, rfl, ?_, by simp; omega⟩, by simp; omega⟩
          rw [← hm, q, decide_eq_true (by omega)]; simp
      · have hk4 : k = 4 := by simp at hx4; omega
        have q := k4 hk4
        refine ⟨fun hy => by simp at hy; omega, fun hy => by simp at hy; omega, fun hy => by simp at hy; omega, fun hy => by simp at hy; omega, fun hy => by simp at hy; omega, fun hy => by simp at hy; omega, fun hy => bad ?_, fun hy => ?_⟩
        · simp only [Bool.cond_true_left, Bool.or_eq_true, decide_eq_true_eq] at hy
          rw [q, decide_eq_false (by omega)]; rfl
        · simp only [Bool.cond_true_left, Bool.or_eq_false_iff, decide_eq_false_iff_not] at hy
          refine ⟨by omega, ⟨m.drop 4, rfl, ?_, by simp; omega⟩, by simp; omega⟩
          rw [← hm, q, decide_eq_true (by omega)]; simp
      · refine bad (k1 ?_)
        simp at hx hx3 hx4; omega
end Go.Proofs.YtaoceiiakcpbaaaGreatDoor
end
section
namespace Go.X
open Go Go.Lib
set_option linter.unusedVariables false
mutual
def tsz : Tr → Nat | .mk _ _ _ xs => 1 + tszL xs
def tszL : List Tr → Nat | [] => 0 | x :: l => tsz x + tszL l
end
mutual
def tdp : Tr → Nat | .mk _ _ _ xs => tdpL xs + 1
def tdpL : List Tr → Nat | [] => 0 | x :: l => max (tdp x) (tdpL l)
end
mutual
def allT (p : Tr → Bool) : Tr → Bool | .mk k s ks xs => p (.mk k s ks xs) && allTL p xs
def allTL (p : Tr → Bool) : List Tr → Bool | [] => true | x :: l => allT p x && allTL p l
end
mutual
def txB (m : Nat) : Tr → Prop | .mk _ s ks xs => (s.size ≤ m ∧ ks.length ≤ m ∧ ∀ k ∈ ks, k.size ≤ m) ∧ txBL m xs
def txBL (m : Nat) : List Tr → Prop | [] => True | x :: l => txB m x ∧ txBL m l
end
theorem tsz_eq (v : Tr) : tsz v = 1 + tszL v.items := by cases v; rw [tsz]
theorem tdp_eq (v : Tr) : tdp v = tdpL v.items + 1 := by cases v; rw [tdp]
theorem allT_eq (p : Tr → Bool) (v : Tr) : allT p v = (p v && allTL p v.items) := by cases v; rw [allT]
theorem txB_eq (m : Nat) (v : Tr) : txB m v ↔ (v.text.size ≤ m ∧ v.keys.length ≤ m ∧ ∀ k ∈ v.keys, k.size ≤ m) ∧ txBL m v.items := by cases v; rw [txB]
theorem txBL_mem {m : Nat} : ∀ {l : List Tr}, txBL m l ↔ ∀ x ∈ l, txB m x
  | [] => by simp [txBL]
  | x :: l => by rw [txBL, txBL_mem]; simp
theorem txB_item {m : Nat} {v x : Tr} (h : txB m v) (hx : x ∈ v.items) : txB m x := txBL_mem.1 ((txB_eq m v).1 h).2 x hx
theorem allTL_all (p : Tr → Bool) : ∀ l : List Tr, allTL p l = l.all (allT p)
  | [] => rfl
  | x :: l => by rw [allTL, allTL_all p l]; rfl
theorem tszL_append : ∀ a b : List Tr, tszL (a ++ b) = tszL a + tszL b
  | [], b => by simp [tszL]
  | x :: l, b => by rw [List.cons_append, tszL, tszL, tszL_append l b]; omega
theorem tdpL_append : ∀ a b : List Tr, tdpL (a ++ b) = max (tdpL a) (tdpL b)
  | [], b => by simp [tdpL]
  | x :: l, b => by rw [List.cons_append, tdpL, tdpL, tdpL_append l b]; omega
theorem tszL_mem {x : Tr} : ∀ {l : List Tr}, x ∈ l → tsz x ≤ tszL l
  | y :: l, h => by
    rw [tszL]
    rcases List.mem_cons.1 h with rfl | h
    · omega
    · have := tszL_mem h; omega
theorem tsz_item {v x : Tr} (h : x ∈ v.items) : tsz x < tsz v := by
  have := tszL_mem h
  rw [tsz_eq v]; omega
theorem tszL_len : ∀ l : List Tr, l.length ≤ tszL l
  | [] => by simp [tszL]
  | x :: l => by
    have := tszL_len l
    rw [tszL, List.length_cons, tsz_eq]; omega
theorem tsz_pos (v : Tr) : 0 < tsz v := by rw [tsz_eq]; omega
theorem tszL_take {l : List Tr} {k : Nat} (hk : k < l.length) : tszL (l.take (k + 1)) = tszL (l.take k) + tsz l[k] := by
  rw [List.take_succ_eq_append_getElem hk, tszL_append]; simp [tszL]
theorem tdpL_take {l : List Tr} {k : Nat} (hk : k < l.length) : tdpL (l.take (k + 1)) = max (tdpL (l.take k)) (tdp l[k]) := by
  rw [List.take_succ_eq_append_getElem hk, tdpL_append]; simp [tdpL]
mutual
theorem tdp_le : ∀ v : Tr, tdp v ≤ tsz v
  | .mk _ _ _ xs => by rw [tdp, tsz]; have := tdpL_le xs; omega
theorem tdpL_le : ∀ l : List Tr, tdpL l ≤ tszL l
  | [] => by simp [tdpL]
  | x :: l => by rw [tdpL, tszL]; have := tdp_le x; have := tdpL_le l; omega
end
def keysOk (ks : List ByteArray) : Bool := ks.all (fun k => u8ok (lb k)) && decide ks.Nodup
def decS (s : Bs) : Nm × Bool := ((numParse s).1, (numParse s).2 == 0 && decide (nmText (numParse s).1 = s))
def holeOk (s : Bs) : Bool := (decS s).2 && (nmInt (decS s).1).2 && decide (0 ≤ (nmInt (decS s).1).1)
def nodeOk (v : Tr) : Bool :=
  if v.kind = 1 then lb v.text == [] && v.keys.isEmpty && v.items.isEmpty
  else if v.kind = 2 then (lb v.text == [116, 114, 117, 101] || lb v.text == [102, 97, 108, 115, 101]) && v.keys.isEmpty && v.items.isEmpty
  else if v.kind = 3 then (decS (lb v.text)).2 && v.keys.isEmpty && v.items.isEmpty
  else if v.kind = 4 then u8ok (lb v.text) && v.keys.isEmpty && v.items.isEmpty
  else if v.kind = 5 then lb v.text == [] && v.keys.isEmpty
  else if v.kind = 6 then keysOk v.keys && decide (v.keys.length = v.items.length) && lb v.text == []
  else if v.kind = 7 then holeOk (lb v.text) && v.keys.isEmpty && v.items.isEmpty
  else false
def sizedT (v : Tr) : Bool := decide (tsz v ≤ 4096) && decide (tdp v ≤ 32)
def openT (v : Tr) : Bool := sizedT v && allT nodeOk v
structure Sm (v : Tr) : Prop where
  sz : tsz v ≤ 1000000000000
  tx : txB 1048576 v
theorem Sm.item {v x : Tr} (h : Sm v) (hx : x ∈ v.items) : Sm x := ⟨by have := tsz_item hx; have := h.sz; omega, txB_item h.tx hx⟩
theorem Sm.text {v : Tr} (h : Sm v) : (lb v.text).length ≤ 1048576 := by rw [lb_len]; exact ((txB_eq _ v).1 h.tx).1.1
theorem Sm.key {v : Tr} (h : Sm v) {k : ByteArray} (hk : k ∈ v.keys) : (lb k).length ≤ 1048576 := by rw [lb_len]; exact ((txB_eq _ v).1 h.tx).1.2.2 k hk
theorem Sm.keys {v : Tr} (h : Sm v) : v.keys.length ≤ 1048576 := ((txB_eq _ v).1 h.tx).1.2.1
theorem Sm.items {v : Tr} (h : Sm v) : v.items.length ≤ 1000000000000 := by have := tszL_len v.items; have := h.sz; rw [tsz_eq] at this; omega
end Go.X
end
section
namespace Go.Proofs.YtaoceiiakcpbaaaGreatDoor
open Go Go.X Go.Proofs
set_option linter.unusedVariables false
theorem Valid_pc {gl : Fr} (hg : Tabs gl) {l : Bs} (hl : l.length ≤ 4611686018427387904) {R : Int × Bool → Prop} (h : ∀ k, R (k, u8ok l)) : PC Tryz.prog gl 60 [Arg.mk .str (bl l)] [.int .i64, .bool] R := by
  apply pu_runes_Valid
  refine ValidString_pc hg hl ⟨fun hx => ?_, fun hx => ?_⟩
  · have := h ((bl l).size : Int); rw [hx] at this; exact this
  · refine ⟨fun p => p.1 = bl l ∧ p.2 ≤ l.length ∧ u8ok (l.drop p.2) = false, fun p => l.length - p.2, ⟨rfl, by omega, by simpa using hx⟩, ?_⟩
    rintro ⟨_, p⟩ ⟨rfl, hp, h2⟩
    simp only at hp h2 ⊢
    rw [nxB_bl, nxR_bl]
    refine ⟨fun hc => ⟨hc, hc, fun hq => ?_, fun hq => ⟨?_, ?_⟩⟩, fun hc => ?_⟩
    · have hc' : p < l.length := by simpa using hc
      have hne : l.drop p ≠ [] := fun e => by have := congrArg List.length e; simp at this; omega
      have hb : badD (dec (l.drop p)) = false := by
        unfold badD
        have : ¬ (dec (l.drop p)).1 = 65533 := fun e => by rw [e] at hq; simp at hq
        simp [this]
      rw [u8ok_step hne, hb] at h2
      simp only [Bool.false_eq_true, if_false, List.drop_drop] at h2
      rw [nxP_bl l p hc']
      have hw := dec_width (l.drop p); have hle := dec_le hne
      simp only [List.length_drop] at hle
      exact ⟨⟨trivial, by omega, h2⟩, by omega⟩
    · have hc' : p < l.length := by simpa using hc
      rw [bl_size]; omega
    · have hc' : p < l.length := by simpa using hc
      have hne : l.drop p ≠ [] := fun e => by have := congrArg List.length e; simp at this; omega
      rw [bl_size, extD (k := p) rfl]
      refine Decode_pc hg ?_
      have hsz : (bl (l.drop p)).size ≠ 0 := by rw [bl_size]; simp; omega
      have hd : Lib.decodeGo (bl (l.drop p)) = dec (l.drop p) := by
        unfold Lib.decodeGo
        rw [if_neg hsz, dec_at, lb_bl, List.drop_zero]
      rw [hd]
      refine ⟨fun hx1 => ?_, fun hx1 => ?_⟩
      · have := h (p : Int)
        have hu : u8ok l = false := hx
        rw [hu] at this; exact this
      · have hb : badD (dec (l.drop p)) = false := by
          unfold badD
          have : ¬ (dec (l.drop p)).2 = 1 := fun e => by rw [e] at hx1; simp at hx1
          simp [this]
        rw [u8ok_step hne, hb] at h2
        simp only [Bool.false_eq_true, if_false, List.drop_drop] at h2
        rw [nxP_bl l p hc']
        have hw := dec_width (l.drop p); have hle := dec_le hne
        simp only [List.length_drop] at hle
        exact ⟨⟨trivial, by omega, h2⟩, by omega⟩
    · have : l.drop p = [] := List.drop_eq_nil_of_le (by have : ¬ p < l.length := by simpa using hc
                                                         omega)
      rw [this, u8ok_nil] at h2; cases h2
theorem plain_pc {gl : Fr} (hg : Tabs gl) {l : Bs} (hl : l.length ≤ 4611686018427387904) {R : Bool → Prop} (h : R (u8ok l)) : PC Tryz.prog gl 39 [Arg.mk .str (bl l)] [.bool] R := by
  apply pu_pointer_plain
  exact Valid_pc hg hl fun k => h
theorem vplain_pc {gl : Fr} (hg : Tabs gl) {l : Bs} (hl : l.length ≤ 4611686018427387904) {R : Bool → Prop} (h : R (u8ok l)) : PC Tryz.prog gl 96 [Arg.mk .str (bl l)] [.bool] R := by
  apply pu_value_plain
  exact Valid_pc hg hl fun k => h
theorem rValid_pc {gl : Fr} {l : Bs} (hl : l.length ≤ 4611686018427387904) {R : Int × Bool → Prop} (h : ∀ k, R (k, u8ok l)) : PC Tryz.prog gl 51 [Arg.mk .str (bl l)] [.int .i64, .bool] R :=
  RefValid_pc (by rw [bl_size]; omega) fun k => by rw [lb_bl]; exact h k
theorem utf_pc {gl : Fr} {l : Bs} (hl : l.length ≤ 4611686018427387904) {R : Bool → Prop} (h : R (u8ok l)) : PC Tryz.prog gl 130 [Arg.mk .str (bl l)] [.bool] R := by
  apply pu_scarfref06_utf
  exact rValid_pc hl fun k => h
structure GL (gl : Fr) : Prop where
  tabs : Tabs gl
  pow : Pow gl
  max : MaxLen gl
  err : ErrVars gl
theorem numParse_len (s : Bs) (hs : s.length ≤ 1152921504606846976) : (numParse s).1.2.1.length ≤ 4611686018427387904 := by
  unfold numParse
  split
  · simp
  · rename_i x hx
    have h1 := numLit_len hx
    split
    · simp
    · split
      · simp
      · simp only
        generalize (if x.low = true then - (decVal (x.exp.dropWhile (· == 48)) : Int) else decVal (x.exp.dropWhile (· == 48))) = e
        split
        · simp
        · rename_i hne
          have h2 : (shortOf (x.whole ++ x.rest)).length ≤ (x.whole ++ x.rest).length := by
            unfold shortOf
            rw [List.length_reverse]
            refine Nat.le_trans (dropWhile_len _ _) ?_
            rw [List.length_reverse]
            exact dropWhile_len _ _
          rw [List.length_append] at h2
          split
          · show (shortOf (x.whole ++ x.rest)).length ≤ _; omega
          · simp
theorem vdecimal_pc {gl : Fr} (hg : GL gl) {s : Bs} (hs : s.length ≤ 1152921504606846976) {R : (Bool × ByteArray × Int) × Bool → Prop} (h : R (nmB (decS s).1, (decS s).2)) : PC Tryz.prog gl 95 [Arg.mk .str (bl s)] [tN, .bool] R := by
  apply pu_value_decimal
  refine parse_pc hs ?_
  refine ⟨fun t => t = bl (nmText (numParse s).1), fun _ => text_pc hg.pow (numParse_len s hs) rfl, fun r hr => ?_⟩
  have e : (bif ((numParse s).2 == 0) then (r.toList == (bl s).toList) else false) = (decS s).2 := by
    unfold decS
    cases hc : ((numParse s).2 == 0) with
    | false => rfl
    | true =>
      rw [hr hc, cond_true, bl_eq]; rfl
  simp only at e ⊢
  rw [e]; exact h
theorem rdecimal_pc {gl : Fr} {s : Bs} (hs : s.length ≤ 1152921504606846976) {R : (Bool × ByteArray × Int) × Bool → Prop} (h : R (nmB (decS s).1, (decS s).2)) : PC Tryz.prog gl 129 [Arg.mk .str (bl s)] [tN, .bool] R := by
  apply pu_scarfref06_decimal
  refine refParse_pc hs ?_
  refine ⟨fun t => t = bl (nmText (numParse s).1), fun _ => refText_pc (numParse_len s hs) rfl, fun r hr => ?_⟩
  have e : (bif ((numParse s).2 == 0) then (r.toList == (bl s).toList) else false) = (decS s).2 := by
    unfold decS
    cases hc : ((numParse s).2 == 0) with
    | false => rfl
    | true =>
      rw [hr hc, cond_true, bl_eq]; rfl
  simp only at e ⊢
  rw [e]; exact h
theorem repeat0 (n : Nat) : Lib.repeatL [48] n = List.replicate n 48 := by
  induction n with
  | zero => rfl
  | succ n ih => rw [Lib.repeatL, ih]; rfl
theorem int_pc {gl : Fr} (hg : GL gl) {n : Nm} (hn : n.2.1.length ≤ 4611686018427387904) {R : Int × Bool → Prop} (h : R (nmInt n)) : PC Tryz.prog gl 127 [Arg.mk tN (nmB n)] [.int .i64, .bool] R := by
  apply pu_number_Int
  refine right_pc hn ?_
  unfold nmInt at h
  cases hr : nmRight n with
  | false =>
    rw [hr] at h
    exact ⟨fun _ => by simpa using h, fun hx => by simp at hx⟩
  | true =>
    obtain ⟨hl, he1, he2⟩ := nmRight_len hr
    rw [hr] at h
    simp only [Bool.true_and] at h
    simp only [bl_size]
    rw [w64 (by omega)]
    refine ⟨fun hx => ?_, fun hx => ?_⟩
    · rw [if_neg] at h
      · exact h
      · simp at hx ⊢; omega
    · have hx' : 0 ≤ n.2.2 ∧ (n.2.1.length : Int) + n.2.2 ≤ 19 := by simp at hx; omega
      rw [if_pos (by simp; omega)] at h
      rw [← intDig_val] at h
      obtain ⟨e, hE⟩ : ∃ e : Nat, n.2.2 = (e : Int) := ⟨n.2.2.toNat, by omega⟩
      show PC Tryz.prog gl 150 [Arg.mk .str (bl [48]), Arg.mk (.int .i64) n.2.2] [.str] _
      rw [hE]
      refine Repeat_pc (by omega) (by rw [bl_size]; simp; omega) ?_
      rw [lb_bl, repeat0, bl_append]
      have hid : n.2.1 ++ List.replicate e 48 = intDig n := by rw [intDig, hE, Int.toNat_natCast]
      have hidl : (intDig n).length ≤ 19 := by rw [← hid]; simp; omega
      have hda := intDig_all hr
      rw [hid]
      refine ⟨fits2 (a := n.2.1) (by rw [List.length_replicate]; omega), ?_⟩
      rw [show (⟨#[]⟩ : ByteArray) = bl [] from rfl, show (⟨#[45]⟩ : ByteArray) = bl [45] from rfl]
      simp only [bl_append]
      intro K hK
      have key : ∀ t : Bs, t = (if n.1 then [45] else []) ++ intDig n → K (bl t) := by
        intro t ht
        refine hK _ ⟨fun hz => ?_, fun hz => ?_⟩
        · have hte : t = [] := by
            have := bl_eq t []
            rw [this] at hz; simpa using hz
          rw [hte] at ht
          have hn1 : n.1 = false := by cases hb : n.1 <;> simp [hb] at ht; rfl
          have hi0 : intDig n = [] := by simp [hn1] at ht; exact ht
          rw [hn1, hi0] at h
          exact h
        · have hne : t ≠ [] := by
            intro e; rw [e, bl_eq] at hz; simp at hz
          refine ParseInt_pc hg.err (by rw [bl_size, ht]; split <;> simp <;> omega) ?_
          rw [lb_bl, ht]
          have hi0 : intDig n ≠ [] := by
            intro e0
            cases hb : n.1 with
            | false => rw [ht, hb, e0] at hne; exact hne rfl
            | true =>
              have hd : n.2.1 = [] := by rw [intDig] at e0; exact (List.append_eq_nil_iff.1 e0).1
              have := nmRight_nil hr hd
              unfold nought at this; rw [hb] at this; simp at this
          unfold parseIntR
          rw [parse_int n.1 hda hidl hi0]
          cases hb : n.1 with
          | true =>
            rw [hb] at h
            simp only [if_true] at h ⊢
            by_cases hv : decVal (intDig n) ≤ 9223372036854775808
            · rw [if_pos (by omega)] at h
              rw [if_pos hv]
              exact ⟨fun hq => (by cases hq), fun _ => h⟩
            · rw [if_neg (by omega)] at h
              rw [if_neg hv]
              exact ⟨fun _ => h, fun hq => (by cases hq)⟩
          | false =>
            rw [hb] at h
            simp only [Bool.false_eq_true, if_false] at h ⊢
            by_cases hv : decVal (intDig n) ≤ 9223372036854775807
            · rw [if_pos (by omega)] at h
              rw [if_pos hv]
              exact ⟨fun hq => (by cases hq), fun _ => h⟩
            · rw [if_neg (by omega)] at h
              rw [if_neg hv]
              exact ⟨fun _ => h, fun hq => (by cases hq)⟩
      refine ⟨fun hx3 => ⟨fits2 (a := [45]) (by simp; omega), ?_⟩, fun hx3 => ?_⟩
      · exact key _ (by rw [if_pos (by simpa using hx3)])
      · exact key _ (by rw [if_neg (by simpa using hx3)]; rfl)
end Go.Proofs.YtaoceiiakcpbaaaGreatDoor
end
section
namespace Go.Proofs.YtaoceiiakcpbaaaGreatDoor
open Go Go.X Go.ChangeShapes Go.WideShapes Go.ChangeAt Go.RowKit Go.Lib
open Go.ChangeMaps (open_string shut_string)
set_option linter.unusedVariables false
theorem Tryz.own : ownKnob Tryz.prog.godebug = none := by kernel_rfl
theorem Tryz.laidOut : laidOutB Tryz.prog = true := by kernel_rfl
theorem handed_shaped {H : Type} {enc : TypeId × Value → H} {a : Assume} {C : Checked} {os : Os} {f : FuncId} {fn : Func} {s : ChangeSpec} {conds : List PathCond} {apart fresh handsOn again : Bool} {X : World → Array Value → Prop}
    (hX : ∀ (w w' : World) (args : Array Value), w.heap = w'.heap → X w args → X w' args)
    (own : ownKnob C.prog.godebug = none) (started : os.Started) (noInit : C.prog.inits.idxOf? f = none) (hfn : C.prog.funcs[f]? = some fn)
    (witness : ∃ (w : World) (tape : Tape) (i : Input), w.os = os ∧ (w.forCall tape i).Shaped C.prog ∧ i.vars = [] ∧ Input.okWide C.prog (w.forCall tape i) .any w.heap.size f i ∧
      ((s.pre enc C.prog fn conds apart (w.forCall tape i).memory i.args ∧ X (w.forCall tape i).memory i.args) ∧ sizedMet enc C.prog fn (OpenSpec.ofChange s) apart (w.forCall tape i).memory i.args) ∧ a.holds C.prog (lone (Frame.enter C.prog f i.args .normal) [] (w.forCall tape i)))
    (contract : ∀ (W : World) (base : Nat) (args : Array Value) (ds gs : List (DataW H)) (before : List MemPlace),
      (∀ (j : Nat) t v, fn.params[j]? = some t → args[j]? = some v → Value.okWide C.prog W .any base t v) →
      DataW.Whole enc C.prog fn.params.toList s.vars apart W args.toList ds gs before →
      (DataW.weightsEach C.prog (fn.params.toList ++ s.plain.varTypes C.prog) (ds ++ gs)).all (· ≤ reachBytes) = true →
      X W args → W.ShapedOpen C.prog →
      Calls C.prog f args W fun e W' => ∃ v, e = .returned v ∧ s.post enc C.prog fn apart fresh handsOn again W args v W') :
    ReturnsInHanded a C os f .any (fun w args => (s.pre enc C.prog fn conds apart w args ∧ X w args) ∧ sizedMet enc C.prog fn (OpenSpec.ofChange s) apart w args) (s.post enc C.prog fn apart fresh handsOn again) := by
  refine returnsInHanded_of_calls own started noInit witness ?_
  intro w tape i _ hsh _ hok hpre hholds
  obtain ⟨_, _, _, fn', hfn', _, _, _, _, hval⟩ := hok
  have e : fn' = fn := Option.some.inj (hfn'.symm.trans hfn)
  subst e
  obtain ⟨⟨⟨ds, gs, before, hw, hc⟩, hx⟩, hz⟩ := hpre
  have hw' := DataW.Whole.of_heap (w' := w.forCall tape i) (by rfl) hw
  refine (contract (w.forCall tape i) w.heap.size i.args ds gs before hval hw' (hz.weights hw) (hX _ _ _ (by rfl) hx) hsh).mono fun e W' ⟨v, he, hp⟩ => ?_
  subst he
  exact ChangeSpec.post_blind hp
theorem tab_of {P : Program} {W : World} {n : String} {k : IntKind} {zs : List Int} {g : Nat} {t e : TypeId} {m : Nat} (hg : P.globalNamed n = some g) (ht : (P.globals[g]?).map (·.type) = some t) (hu : P.underlying t = some (.array m e)) (he : P.underlying e = some (.int k))
    (hce : P.cellsOf e = 1) (hct : P.cellsOf t = m) (h : VarReads P W n (tabData k zs)) : ∃ cs : Array Value, Fz W g = some cs ∧ cs.toList = zs.map fun z => Value.int k z := by
  obtain ⟨g', t', cs, fuel, p, hg', hty, hvar, hd⟩ := h
  obtain rfl := Option.some.inj (hg.symm.trans hg')
  obtain rfl := Option.some.inj (ht.symm.trans hty)
  exact ⟨cs, Fz.var hg hvar, cells_of_tab hu he hce hct hd⟩
theorem first_of {W : World} (h : VarReads Tryz.prog W "unicode/utf8.first" Pinned.utf8First) : ∃ cs : Array Value, Fz W 1 = some cs ∧ ∀ c, c < 256 → cs[c]? = some (.int .u8 (Lib.firstT c)) := by
  rw [Pinned.utf8First_eq] at h
  obtain ⟨cs, h1, h2⟩ := tab_of (g := 1) (t := 136) (e := 5) (m := 256) (by kernel_rfl) (by kernel_rfl) (by kernel_rfl) (by kernel_rfl) (by kernel_rfl) (by kernel_rfl) h
  refine ⟨cs, h1, fun c hc => ?_⟩
  rw [← Array.getElem?_toList, h2]
  simp [firstTab, hc]
theorem accept_of {W : World} (h : VarReads Tryz.prog W "unicode/utf8.acceptRanges" acceptData) : ∃ cs : Array Value, Fz W 2 = some cs ∧ ∀ i, i < 16 → cs[2 * i]? = some (.int .u8 (Lib.accLo i)) ∧ cs[2 * i + 1]? = some (.int .u8 (Lib.accHi i)) := by
  obtain ⟨g, t, cs, fuel, p, hg, hty, hvar, hd⟩ := h
  obtain rfl := Option.some.inj ((show Tryz.prog.globalNamed "unicode/utf8.acceptRanges" = some 2 by kernel_rfl).symm.trans hg)
  obtain rfl := Option.some.inj ((show (Tryz.prog.globals[2]?).map (·.type) = some 139 by kernel_rfl).symm.trans hty)
  refine ⟨cs, Fz.var hg hvar, fun i hi => ?_⟩
  obtain ⟨fuel', d, q, hdi, he⟩ := array_elem (show Tryz.prog.underlying 139 = some (.array 16 138) by kernel_rfl) hd i hi
  simp only [List.getElem?_map, List.getElem?_range hi, Option.map_some, Option.some.injEq] at hdi
  subst hdi
  have hc : Tryz.prog.cellsOf 138 = 2 := by kernel_rfl
  have c5 : Tryz.prog.cellsOf 5 = 1 := by kernel_rfl
  have u5 : Tryz.prog.underlying 5 = some (.int .u8) := by kernel_rfl
  rw [hc] at he
  have hcs := ints_of_struct Tryz.underlying138 (fun j f hj => by
    match j, hj with
    | 0, hj => simp at hj; subst hj; exact ⟨u5, rfl, c5⟩
    | 1, hj => simp at hj; subst hj; exact ⟨u5, rfl, c5⟩
    | j + 2, hj => simp at hj) (by rw [hc]; rfl) he
  have e0 := congrArg (·[0]?) hcs
  have e1 := congrArg (·[1]?) hcs
  simp only [List.getElem?_take, List.getElem?_drop] at e0 e1
  constructor
  · rw [← Array.getElem?_toList]
    simpa [Nat.mul_comm] using e0
  · rw [← Array.getElem?_toList]
    simpa [Nat.mul_comm] using e1
theorem pow_of {W : World} {d : DataW Unit} (hd : d = tabData .u64 Lib.pow10Tab) (h : VarReads Tryz.prog W "internal/strconv.uint64pow10" d) : Pow (Fz W) := by
  subst hd
  obtain ⟨cs, h1, h2⟩ := tab_of (g := 5) (t := 180) (e := 147) (m := 20) (by kernel_rfl) (by kernel_rfl) (by kernel_rfl) (by kernel_rfl) (by kernel_rfl) (by kernel_rfl) h
  exact ⟨_, cs, by kernel_rfl, h1, by rw [← h2]⟩
theorem err_of {W : World} {n : String} {g : Nat} {t : TypeId} {ms : Array (String × TypeId)} {nm : String} {d : DataW Unit} (hg : Tryz.prog.globalNamed n = some g) (ht : (Tryz.prog.globals[g]?).map (·.type) = some t) (hu : Tryz.prog.underlying t = some (.interface ms)) (h : VarReads Tryz.prog W n (.iface nm d)) :
    ∃ (cs : Array Value) (e : Value), Fz W g = some cs ∧ cs[0]? = some e ∧ (e = .nilIface ∨ ∃ te pe, e = .iface te pe) := by
  obtain ⟨g', t', cs, fuel, p, hg', hty, hvar, hd⟩ := h
  obtain rfl := Option.some.inj (hg.symm.trans hg')
  obtain rfl := Option.some.inj (ht.symm.trans hty)
  obtain ⟨f1, u, v, hcs, _, _⟩ := iface_of_trod hu hd
  exact ⟨cs, .iface u v, Fz.var hg hvar, by rw [← Array.getElem?_toList, hcs]; rfl, .inr ⟨u, v, rfl⟩⟩
theorem max_of {W : World} (h : W.ShapedOpen Tryz.prog) : MaxLen (Fz W) := by
  obtain ⟨m, hm⟩ := cell_of_shapedOpen_int (P := Tryz.prog) (g := 0) (t := 3) (zero := #[.int .i64 0]) (k := .i64) h (by decide +kernel) (by kernel_rfl) rfl (by kernel_rfl) (by kernel_rfl) (by kernel_rfl)
  obtain ⟨b, o, c, e, h1, h2⟩ := Fz.cell hm
  cases e
  exact ⟨c, m, h1, h2⟩
def laidL : List (String × DataW Unit) := Rows.pointerBackRow.laid
theorem GL_of {W : World} (h : laidMetH Tryz.prog laidL W) (hs : W.ShapedOpen Tryz.prog) : GL (Fz W) := by
  have hl : laidMet Tryz.prog laidL W := by
    rw [MakeChecks.laidMetH_plain _ _ _ (by kernel_rfl)] at h; exact h
  have hr : ∀ (i : Nat) (n : String) (d : DataW Unit), laidL[i]? = some (n, d) → VarReads Tryz.prog W n d := fun i n d e => Go.Lib.laidMet.reads hl (List.mem_of_getElem? e)
  exact {
    tabs := ⟨first_of (hr 6 _ _ rfl), accept_of (by
      have e : (Rows.laid_unicode_utf8_acceptRanges : DataW Unit) = acceptData := by kernel_rfl
      rw [← e]; exact hr 3 _ _ rfl)⟩
    pow := pow_of (by kernel_rfl) (hr 2 _ _ rfl)
    max := max_of hs
    err := ⟨err_of (g := 3) (t := 59) (by kernel_rfl) (by kernel_rfl) Tryz.underlying59 (hr 5 _ _ rfl), err_of (g := 4) (t := 59) (by kernel_rfl) (by kernel_rfl) Tryz.underlying59 (hr 4 _ _ rfl)⟩ }
noncomputable def witW (os : Os) : World := World.laidAll Tryz.prog os laidL
theorem witW_shaped (os : Os) (args : Array Value) : ((witW os).forCall (fun _ _ => 0) ⟨#[], args, []⟩).Shaped Tryz.prog := World.shaped_of_ZipB (by kernel_rfl) (by kernel_rfl)
theorem witW_met (os : Os) (args : Array Value) : laidMetH Tryz.prog laidL ((witW os).forCall (fun _ _ => 0) ⟨#[], args, []⟩).memory := by
  rw [MakeChecks.laidMetH_plain _ _ _ (by kernel_rfl)]; exact laidMet_laidAll _ (by kernel_rfl) (by kernel_rfl)
theorem in_tree {H : Type} {enc : TypeId × Value → H} {W : World} {sp : Nat → Bool} {held : Bool} (fuel : Nat) (cs : List Value) (x : DataW H × List MemPlace) (h : DataW.trod enc Tryz.prog W 0 sp held fuel 34 cs = some x) (hw : Small Tryz.prog 34 x.1) : ∃ t : Tr, Rd (Fz W) .tree t cs :=
  rd_tree (tk := 3) (ts := 9) (tss := 22) (tvs := 32) Tryz.underlying34 (by kernel_rfl) ⟨rfl, rfl, rfl, rfl, rfl, rfl, rfl, rfl⟩ (by kernel_rfl) (by kernel_rfl) (by kernel_rfl) (by kernel_rfl) (by kernel_rfl) (by kernel_rfl) (by kernel_rfl) (by kernel_rfl) (by decide +kernel) (by decide +kernel) fuel cs x h hw
theorem in_strs {H : Type} {enc : TypeId × Value → H} {W : World} {sp : Nat → Bool} {held : Bool} {fuel : Nat} {cs : List Value} {x : DataW H × List MemPlace} (h : DataW.trod enc Tryz.prog W 0 sp held fuel 22 cs = some x) (hw : Small Tryz.prog 22 x.1) : ∃ xs : List ByteArray, Rd (Fz W) (.row .str) xs cs :=
  rd_strs Tryz.underlying22 Tryz.underlying9 (by kernel_rfl) (by decide +kernel) h hw
theorem small_at {H : Type} {ts : List TypeId} {ds : List (DataW H)} (h : (DataW.weightsEach Tryz.prog ts ds).all (· ≤ reachBytes) = true) {j : Nat} {t : TypeId} {d : DataW H} (ht : ts[j]? = some t) (hd : ds[j]? = some d) : Small Tryz.prog t d := fun n hn => by
  have := List.all_eq_true.1 h n (DataW.weights_mem_each ht hd n hn)
  simpa using this
end Go.Proofs.YtaoceiiakcpbaaaGreatDoor
end
section
namespace Go.Proofs.YtaoceiiakcpbaaaGreatDoor
open Go Go.X Go.Proofs
set_option linter.unusedVariables false
set_option maxRecDepth 100000
theorem sh_scarfref07_set (v0_0 : Int) (v0_1 : ByteArray) (v0_2 : Sl) (v0_3 : Sl) (path1 : Sl) (w2_0 : Int) (w2_1 : ByteArray) (w2_2 : Sl) (w2_3 : Sl) (h : Heap) (R : Value → Heap → Prop)
    (H : let h_1 : Heap := Array.push h (.cells #[.int .i64 v0_0, .string v0_1, .slice v0_2.a v0_2.len v0_2.cap, .slice v0_3.a v0_3.len v0_3.cap] 34); let h_2 : Heap := Array.push h_1 (.cells #[.int .i64 w2_0, .string w2_1, .slice w2_2.a w2_2.len w2_2.cap, .slice w2_3.a w2_3.len w2_3.cap] 34); let h_3 : Heap := Array.push h_2 (.cells #[.int .i64 0, .string (⟨#[]⟩ : ByteArray), .slice none 0 0, .slice none 0 0] 34); (((((path1.len : Nat) : Int) : Int) == 0) = true → ∃ x12_4 : Int, ∃ x12_5 : ByteArray, ∃ x12_6 : Sl, ∃ x12_7 : Sl, ldList h_3 ⟨Array.size h_1, 0, none⟩ 0 [.int .i64 x12_4, .string x12_5, .slice x12_6.a x12_6.len x12_6.cap, .slice x12_7.a x12_7.len x12_7.cap] ∧ XC Tryz.prog 18 #[.agg #[.int .i64 x12_4, .string x12_5, .slice x12_6.a x12_6.len x12_6.cap, .slice x12_7.a x12_7.len x12_7.cap]] h_3 (fun v_8 h_9 => ∃ x13_10 : Int, ∃ x13_11 : ByteArray, ∃ x13_12 : Sl, ∃ x13_13 : Sl, v_8 = .agg #[.int .i64 x13_10, .string x13_11, .slice x13_12.a x13_12.len x13_12.cap, .slice x13_13.a x13_13.len x13_13.cap] ∧ XRunU Tryz.prog (Instr.storeAt 34 (.pointer (some ⟨Array.size h_2, 0, none⟩)) (.agg #[.int .i64 x13_10, .string x13_11, .slice x13_12.a x13_12.len x13_12.cap, .slice x13_13.a x13_13.len x13_13.cap])) h_9 (fun h_14 => ∃ r_15 : Int, ∃ r_16 : ByteArray, ∃ r_17 : Sl, ∃ r_18 : Sl, ldList h_14 ⟨Array.size h_2, 0, none⟩ 0 [.int .i64 r_15, .string r_16, .slice r_17.a r_17.len r_17.cap, .slice r_18.a r_18.len r_18.cap] ∧ R (.agg #[.int .i64 r_15, .string r_16, .slice r_17.a r_17.len r_17.cap, .slice r_18.a r_18.len r_18.cap]) h_14))) ∧ (((((path1.len : Nat) : Int) : Int) == 0) = false → ∃ x14_19 : Int, ∃ x14_20 : ByteArray, ∃ x14_21 : Sl, ∃ x14_22 : Sl, ldList h_3 ⟨Array.size h, 0, none⟩ 0 [.int .i64 x14_19, .string x14_20, .slice x14_21.a x14_21.len x14_21.cap, .slice x14_22.a x14_22.len x14_22.cap] ∧ XC Tryz.prog 18 #[.agg #[.int .i64 x14_19, .string x14_20, .slice x14_21.a x14_21.len x14_21.cap, .slice x14_22.a x14_22.len x14_22.cap]] h_3 (fun v_23 h_24 => ∃ x15_25 : Int, ∃ x15_26 : ByteArray, ∃ x15_27 : Sl, ∃ x15_28 : Sl, v_23 = .agg #[.int .i64 x15_25, .string x15_26, .slice x15_27.a x15_27.len x15_27.cap, .slice x15_28.a x15_28.len x15_28.cap] ∧ let h_29 : Heap := Array.push h_24 (.cells #[.int .i64 0, .string (⟨#[]⟩ : ByteArray), .slice none 0 0, .slice none 0 0] 34); XRunU Tryz.prog (Instr.storeAt 34 (.pointer (some ⟨Array.size h_24, 0, none⟩)) (.agg #[.int .i64 x15_25, .string x15_26, .slice x15_27.a x15_27.len x15_27.cap, .slice x15_28.a x15_28.len x15_28.cap])) h_29 (fun h_30 => ∃ x16_31 : Int, ∃ x16_32 : ByteArray, ∃ x16_33 : Sl, ∃ x16_34 : Sl, ldList h_30 ⟨Array.size h, 0, none⟩ 0 [.int .i64 x16_31, .string x16_32, .slice x16_33.a x16_33.len x16_33.cap, .slice x16_34.a x16_34.len x16_34.cap] ∧ ∃ a_35 : Addr, (path1.a = some a_35 ∧ 0 ≤ (0 : Int) ∧ (0 : Int) < ((path1.len : Nat) : Int)) ∧ ∃ x19_36 : ByteArray, cellH h_30 (a_35.add ((0 : Int).toNat * 1)) = some (.string x19_36) ∧ ∃ x20_40 : Int, (∀ h_39 : Heap, Keep (Array.size h_30) h_30 h_39 → XC Tryz.prog 49 #[.agg #[.int .i64 x16_31, .string x16_32, .slice x16_33.a x16_33.len x16_33.cap, .slice x16_34.a x16_34.len x16_34.cap], .string x19_36] h_39 (fun v_37 h_38 => v_37 = .int .i64 x20_40 ∧ Keep (Array.size h_39) h_39 h_38)) ∧ ∀ h_41 : Heap, Keep (Array.size h_30) h_30 h_41 → ∃ x22_42 : Sl, cellH h_41 (Addr.add ⟨Array.size h_24, 0, none⟩ 3) = some (.slice x22_42.a x22_42.len x22_42.cap) ∧ ∃ x25_43 : Sl, cellH h_41 (Addr.add ⟨Array.size h, 0, none⟩ 3) = some (.slice x25_43.a x25_43.len x25_43.cap) ∧ ∃ a_44 : Addr, (x25_43.a = some a_44 ∧ 0 ≤ (x20_40 : Int) ∧ (x20_40 : Int) < ((x25_43.len : Nat) : Int)) ∧ ∃ x28_45 : Int, ∃ x28_46 : ByteArray, ∃ x28_47 : Sl, ∃ x28_48 : Sl, ldList h_41 (a_44.add ((x20_40 : Int).toNat * 4)) 0 [.int .i64 x28_45, .string x28_46, .slice x28_47.a x28_47.len x28_47.cap, .slice x28_48.a x28_48.len x28_48.cap] ∧ ∃ x31_49 : Int, ∃ x31_50 : ByteArray, ∃ x31_51 : Sl, ∃ x31_52 : Sl, ldList h_41 ⟨Array.size h_1, 0, none⟩ 0 [.int .i64 x31_49, .string x31_50, .slice x31_51.a x31_51.len x31_51.cap, .slice x31_52.a x31_52.len x31_52.cap] ∧ ∃ a_53 : Addr, (x22_42.a = some a_53 ∧ 0 ≤ (x20_40 : Int) ∧ (x20_40 : Int) < ((x22_42.len : Nat) : Int)) ∧ ((none : Option Value) = none ∨ ∃ v, (none : Option Value) = some v) ∧ (0 ≤ (1 : Int) ∧ (1 : Int) ≤ (path1.len : Int) ∧ ((path1.len : Int) : Int) ≤ (path1.cap : Int) ∧ ((path1.cap : Int) : Int) ≤ (path1.cap : Int)) ∧ Keep (Array.size h_41) h_41 h_41 ∧ XC Tryz.prog 50 #[.agg #[.int .i64 x28_45, .string x28_46, .slice x28_47.a x28_47.len x28_47.cap, .slice x28_48.a x28_48.len x28_48.cap], .slice (resl path1.a 1 ((1 : Int).toNat) (((path1.cap : Int) : Int).toNat)) (((path1.len : Int) : Int).toNat - (1 : Int).toNat) (((path1.cap : Int) : Int).toNat - (1 : Int).toNat), .agg #[.int .i64 x31_49, .string x31_50, .slice x31_51.a x31_51.len x31_51.cap, .slice x31_52.a x31_52.len x31_52.cap]] h_41 (fun v_54 h_55 => ∃ x32_56 : Int, ∃ x32_57 : ByteArray, ∃ x32_58 : Sl, ∃ x32_59 : Sl, v_54 = .agg #[.int .i64 x32_56, .string x32_57, .slice x32_58.a x32_58.len x32_58.cap, .slice x32_59.a x32_59.len x32_59.cap] ∧ Keep (Array.size h_41) h_41 h_55 ∧ XRunU Tryz.prog (Instr.storeAt 34 (.pointer (some (a_53.add ((x20_40 : Int).toNat * 4)))) (.agg #[.int .i64 x32_56, .string x32_57, .slice x32_58.a x32_58.len x32_58.cap, .slice x32_59.a x32_59.len x32_59.cap])) h_55 (fun h_60 => ∃ x34_61 : Int, ∃ x34_62 : ByteArray, ∃ x34_63 : Sl, ∃ x34_64 : Sl, ldList h_60 ⟨Array.size h_24, 0, none⟩ 0 [.int .i64 x34_61, .string x34_62, .slice x34_63.a x34_63.len x34_63.cap, .slice x34_64.a x34_64.len x34_64.cap] ∧ XRunU Tryz.prog (Instr.storeAt 34 (.pointer (some ⟨Array.size h_2, 0, none⟩)) (.agg #[.int .i64 x34_61, .string x34_62, .slice x34_63.a x34_63.len x34_63.cap, .slice x34_64.a x34_64.len x34_64.cap])) h_60 (fun h_65 => ∃ r_66 : Int, ∃ r_67 : ByteArray, ∃ r_68 : Sl, ∃ r_69 : Sl, ldList h_65 ⟨Array.size h_2, 0, none⟩ 0 [.int .i64 r_66, .string r_67, .slice r_68.a r_68.len r_68.cap, .slice r_69.a r_69.len r_69.cap] ∧ R (.agg #[.int .i64 r_66, .string r_67, .slice r_68.a r_68.len r_68.cap, .slice r_69.a r_69.len r_69.cap]) h_65))))))) :
    XC Tryz.prog 50 #[.agg #[.int .i64 v0_0, .string v0_1, .slice v0_2.a v0_2.len v0_2.cap, .slice v0_3.a v0_3.len v0_3.cap], .slice path1.a path1.len path1.cap, .agg #[.int .i64 w2_0, .string w2_1, .slice w2_2.a w2_2.len w2_2.cap, .slice w2_3.a w2_3.len w2_3.cap]] h R :=
  XC_of_code Tryz.mixed ⟨[(4, 1000), (5, 2000)], [], []⟩ [.agg #[.int .i64 v0_0, .string v0_1, .slice v0_2.a v0_2.len v0_2.cap, .slice v0_3.a v0_3.len v0_3.cap], .slice path1.a path1.len path1.cap, .agg #[.int .i64 w2_0, .string w2_1, .slice w2_2.a w2_2.len w2_2.cap, .slice w2_3.a w2_3.len w2_3.cap]] (rs := [.cell 6 34]) (n := 35) Tryz.func50 (by kernel_rfl) (by kernel_rfl) (by kernel_rfl) (by kernel_rfl) (Eq.mp (by kernel_rfl) H)
theorem sh_pointer_Find (v0_0 : Int) (v0_1 : ByteArray) (v0_2 : Sl) (v0_3 : Sl) (path1 : Sl) (h : Heap) (R : Value → Heap → Prop)
    (H : let h_1 : Heap := Array.push h (.cells #[.int .i64 v0_0, .string v0_1, .slice v0_2.a v0_2.len v0_2.cap, .slice v0_3.a v0_3.len v0_3.cap] 34); let h_2 : Heap := Array.push h_1 (.cells #[.int .i64 0, .string (⟨#[]⟩ : ByteArray), .slice none 0 0, .slice none 0 0] 34); ∃ x9_3 : Int, ∃ x9_4 : ByteArray, ∃ x9_5 : Sl, ∃ x9_6 : Sl, ldList h_2 ⟨Array.size h, 0, none⟩ 0 [.int .i64 x9_3, .string x9_4, .slice x9_5.a x9_5.len x9_5.cap, .slice x9_6.a x9_6.len x9_6.cap] ∧ XC Tryz.prog 45 #[.agg #[.int .i64 x9_3, .string x9_4, .slice x9_5.a x9_5.len x9_5.cap, .slice x9_6.a x9_6.len x9_6.cap]] h_2 (fun v_7 h_8 => ∃ x10_9 : Bool, v_7 = .bool x10_9 ∧ ∃ J_10 : Value → Heap → Prop, ((!(!x10_9)) = true → XC Tryz.prog 12 #[.slice path1.a path1.len path1.cap] h_8 (fun v_14 h_15 => ∃ x14_16 : Bool, v_14 = .bool x14_16 ∧ J_10 (.bool x14_16) h_15)) ∧ ((!(!x10_9)) = false → ∃ x14_17 : Bool, J_10 (.bool x14_17) h_8) ∧ ((!(!x10_9)) = true → ∀ v_12 h_13, J_10 v_12 h_13 → ∃ x14_18 : Bool, v_12 = .bool x14_18) ∧ ∀ x14_19 : Bool, ∀ h_11, J_10 (.bool x14_19) h_11 → ((bif (!x10_9) then true else (!x14_19)) = true → XRunU Tryz.prog (Instr.storeAt 34 (.pointer (some ⟨Array.size h_1, 0, none⟩)) (.agg #[.int .i64 0, .string (⟨#[]⟩ : ByteArray), .slice none 0 0, .slice none 0 0])) h_11 (fun h_20 => ∃ r_21 : Int, ∃ r_22 : ByteArray, ∃ r_23 : Sl, ∃ r_24 : Sl, ldList h_20 ⟨Array.size h_1, 0, none⟩ 0 [.int .i64 r_21, .string r_22, .slice r_23.a r_23.len r_23.cap, .slice r_24.a r_24.len r_24.cap] ∧ R (.tuple #[.agg #[.int .i64 r_21, .string r_22, .slice r_23.a r_23.len r_23.cap, .slice r_24.a r_24.len r_24.cap], .bool false]) h_20)) ∧ ((bif (!x10_9) then true else (!x14_19)) = false → ∃ x19_25 : Int, ∃ x19_26 : ByteArray, ∃ x19_27 : Sl, ∃ x19_28 : Sl, ldList h_11 ⟨Array.size h, 0, none⟩ 0 [.int .i64 x19_25, .string x19_26, .slice x19_27.a x19_27.len x19_27.cap, .slice x19_28.a x19_28.len x19_28.cap] ∧ XC Tryz.prog 46 #[.agg #[.int .i64 x19_25, .string x19_26, .slice x19_27.a x19_27.len x19_27.cap, .slice x19_28.a x19_28.len x19_28.cap], .slice path1.a path1.len path1.cap] h_11 (fun v_29 h_30 => ∃ x21_31 : Sl, ∃ x21_32 : Int, ∃ x21_33 : ByteArray, ∃ x21_34 : Sl, ∃ x21_35 : Sl, ∃ x21_36 : Bool, v_29 = .tuple #[.slice x21_31.a x21_31.len x21_31.cap, .agg #[.int .i64 x21_32, .string x21_33, .slice x21_34.a x21_34.len x21_34.cap, .slice x21_35.a x21_35.len x21_35.cap], .bool x21_36] ∧ let h_37 : Heap := Array.push h_30 (.cells #[.int .i64 0, .string (⟨#[]⟩ : ByteArray), .slice none 0 0, .slice none 0 0] 34); XRunU Tryz.prog (Instr.storeAt 34 (.pointer (some ⟨Array.size h_30, 0, none⟩)) (.agg #[.int .i64 x21_32, .string x21_33, .slice x21_34.a x21_34.len x21_34.cap, .slice x21_35.a x21_35.len x21_35.cap])) h_37 (fun h_38 => ((!x21_36) = true → XRunU Tryz.prog (Instr.storeAt 34 (.pointer (some ⟨Array.size h_1, 0, none⟩)) (.agg #[.int .i64 0, .string (⟨#[]⟩ : ByteArray), .slice none 0 0, .slice none 0 0])) h_38 (fun h_39 => ∃ r_40 : Int, ∃ r_41 : ByteArray, ∃ r_42 : Sl, ∃ r_43 : Sl, ldList h_39 ⟨Array.size h_1, 0, none⟩ 0 [.int .i64 r_40, .string r_41, .slice r_42.a r_42.len r_42.cap, .slice r_43.a r_43.len r_43.cap] ∧ R (.tuple #[.agg #[.int .i64 r_40, .string r_41, .slice r_42.a r_42.len r_42.cap, .slice r_43.a r_43.len r_43.cap], .bool false]) h_39)) ∧ ((!x21_36) = false → ∃ x28_44 : Int, ∃ x28_45 : ByteArray, ∃ x28_46 : Sl, ∃ x28_47 : Sl, ldList h_38 ⟨Array.size h_30, 0, none⟩ 0 [.int .i64 x28_44, .string x28_45, .slice x28_46.a x28_46.len x28_46.cap, .slice x28_47.a x28_47.len x28_47.cap] ∧ XC Tryz.prog 47 #[.agg #[.int .i64 x28_44, .string x28_45, .slice x28_46.a x28_46.len x28_46.cap, .slice x28_47.a x28_47.len x28_47.cap]] h_38 (fun v_48 h_49 => ∃ x29_50 : Int, ∃ x29_51 : ByteArray, ∃ x29_52 : Sl, ∃ x29_53 : Sl, v_48 = .agg #[.int .i64 x29_50, .string x29_51, .slice x29_52.a x29_52.len x29_52.cap, .slice x29_53.a x29_53.len x29_53.cap] ∧ XRunU Tryz.prog (Instr.storeAt 34 (.pointer (some ⟨Array.size h_1, 0, none⟩)) (.agg #[.int .i64 x29_50, .string x29_51, .slice x29_52.a x29_52.len x29_52.cap, .slice x29_53.a x29_53.len x29_53.cap])) h_49 (fun h_54 => ∃ r_55 : Int, ∃ r_56 : ByteArray, ∃ r_57 : Sl, ∃ r_58 : Sl, ldList h_54 ⟨Array.size h_1, 0, none⟩ 0 [.int .i64 r_55, .string r_56, .slice r_57.a r_57.len r_57.cap, .slice r_58.a r_58.len r_58.cap] ∧ R (.tuple #[.agg #[.int .i64 r_55, .string r_56, .slice r_57.a r_57.len r_57.cap, .slice r_58.a r_58.len r_58.cap], .bool true]) h_54)))))))) :
    XC Tryz.prog 16 #[.agg #[.int .i64 v0_0, .string v0_1, .slice v0_2.a v0_2.len v0_2.cap, .slice v0_3.a v0_3.len v0_3.cap], .slice path1.a path1.len path1.cap] h R :=
  XC_of_code Tryz.mixed ⟨[], [], []⟩ [.agg #[.int .i64 v0_0, .string v0_1, .slice v0_2.a v0_2.len v0_2.cap, .slice v0_3.a v0_3.len v0_3.cap], .slice path1.a path1.len path1.cap] (rs := [.cell 4 34, .tmp 5]) (n := 30) Tryz.func16 (by kernel_rfl) (by kernel_rfl) (by kernel_rfl) (by kernel_rfl) (Eq.mp (by kernel_rfl) H)
theorem sh_scarflaw07_PointerFinds (v0_0 : Int) (v0_1 : ByteArray) (v0_2 : Sl) (v0_3 : Sl) (path1 : Sl) (w2_0 : Int) (w2_1 : ByteArray) (w2_2 : Sl) (w2_3 : Sl) (h : Heap) (R : Value → Heap → Prop)
    (H : let h_1 : Heap := Array.push h (.cells #[.int .i64 v0_0, .string v0_1, .slice v0_2.a v0_2.len v0_2.cap, .slice v0_3.a v0_3.len v0_3.cap] 34); let h_2 : Heap := Array.push h_1 (.cells #[.int .i64 w2_0, .string w2_1, .slice w2_2.a w2_2.len w2_2.cap, .slice w2_3.a w2_3.len w2_3.cap] 34); XC Tryz.prog 9 #[] h_2 (fun v_3 h_4 => ∃ x20_5 : Bool, v_3 = .bool x20_5 ∧ ∃ x21_6 : Int, ∃ x21_7 : ByteArray, ∃ x21_8 : Sl, ∃ x21_9 : Sl, ldList h_4 ⟨Array.size h, 0, none⟩ 0 [.int .i64 x21_6, .string x21_7, .slice x21_8.a x21_8.len x21_8.cap, .slice x21_9.a x21_9.len x21_9.cap] ∧ XC Tryz.prog 15 #[.agg #[.int .i64 x21_6, .string x21_7, .slice x21_8.a x21_8.len x21_8.cap, .slice x21_9.a x21_9.len x21_9.cap], .int .i64 300] h_4 (fun v_10 h_11 => ∃ x22_12 : Bool, v_10 = .bool x22_12 ∧ ∃ x24_13 : Int, ∃ x24_14 : ByteArray, ∃ x24_15 : Sl, ∃ x24_16 : Sl, (x22_12 = true → ldList h_11 ⟨Array.size h_1, 0, none⟩ 0 [.int .i64 x24_13, .string x24_14, .slice x24_15.a x24_15.len x24_15.cap, .slice x24_16.a x24_16.len x24_16.cap]) ∧ ∃ J_17 : Value → Heap → Prop, (x22_12 = true → XC Tryz.prog 15 #[.agg #[.int .i64 x24_13, .string x24_14, .slice x24_15.a x24_15.len x24_15.cap, .slice x24_16.a x24_16.len x24_16.cap], .int .i64 300] h_11 (fun v_21 h_22 => ∃ x25_23 : Bool, v_21 = .bool x25_23 ∧ J_17 (.bool x25_23) h_22)) ∧ (x22_12 = false → ∃ x25_24 : Bool, J_17 (.bool x25_24) h_11) ∧ (x22_12 = true → ∀ v_19 h_20, J_17 v_19 h_20 → ∃ x25_25 : Bool, v_19 = .bool x25_25) ∧ ∀ x25_26 : Bool, ∀ h_18, J_17 (.bool x25_26) h_18 → ∃ J_27 : Value → Heap → Prop, ((bif x22_12 then x25_26 else false) = true → XC Tryz.prog 10 #[.slice path1.a path1.len path1.cap] h_18 (fun v_31 h_32 => ∃ x29_33 : Bool, v_31 = .bool x29_33 ∧ J_27 (.bool x29_33) h_32)) ∧ ((bif x22_12 then x25_26 else false) = false → ∃ x29_34 : Bool, J_27 (.bool x29_34) h_18) ∧ ((bif x22_12 then x25_26 else false) = true → ∀ v_29 h_30, J_27 v_29 h_30 → ∃ x29_35 : Bool, v_29 = .bool x29_35) ∧ ∀ x29_36 : Bool, ∀ h_28, J_27 (.bool x29_36) h_28 → ((!(bif (bif x22_12 then x25_26 else false) then x29_36 else false)) = true → R (.bool x20_5) h_28) ∧ ((!(bif (bif x22_12 then x25_26 else false) then x29_36 else false)) = false → ∃ x34_37 : Int, ∃ x34_38 : ByteArray, ∃ x34_39 : Sl, ∃ x34_40 : Sl, ldList h_28 ⟨Array.size h, 0, none⟩ 0 [.int .i64 x34_37, .string x34_38, .slice x34_39.a x34_39.len x34_39.cap, .slice x34_40.a x34_40.len x34_40.cap] ∧ XC Tryz.prog 18 #[.agg #[.int .i64 x34_37, .string x34_38, .slice x34_39.a x34_39.len x34_39.cap, .slice x34_40.a x34_40.len x34_40.cap]] h_28 (fun v_41 h_42 => ∃ x35_43 : Int, ∃ x35_44 : ByteArray, ∃ x35_45 : Sl, ∃ x35_46 : Sl, v_41 = .agg #[.int .i64 x35_43, .string x35_44, .slice x35_45.a x35_45.len x35_45.cap, .slice x35_46.a x35_46.len x35_46.cap] ∧ let h_47 : Heap := Array.push h_42 (.cells #[.int .i64 0, .string (⟨#[]⟩ : ByteArray), .slice none 0 0, .slice none 0 0] 34); XRunU Tryz.prog (Instr.storeAt 34 (.pointer (some ⟨Array.size h_42, 0, none⟩)) (.agg #[.int .i64 x35_43, .string x35_44, .slice x35_45.a x35_45.len x35_45.cap, .slice x35_46.a x35_46.len x35_46.cap])) h_47 (fun h_48 => ∃ x36_49 : Int, ∃ x36_50 : ByteArray, ∃ x36_51 : Sl, ∃ x36_52 : Sl, ldList h_48 ⟨Array.size h_1, 0, none⟩ 0 [.int .i64 x36_49, .string x36_50, .slice x36_51.a x36_51.len x36_51.cap, .slice x36_52.a x36_52.len x36_52.cap] ∧ XC Tryz.prog 18 #[.agg #[.int .i64 x36_49, .string x36_50, .slice x36_51.a x36_51.len x36_51.cap, .slice x36_52.a x36_52.len x36_52.cap]] h_48 (fun v_53 h_54 => ∃ x37_55 : Int, ∃ x37_56 : ByteArray, ∃ x37_57 : Sl, ∃ x37_58 : Sl, v_53 = .agg #[.int .i64 x37_55, .string x37_56, .slice x37_57.a x37_57.len x37_57.cap, .slice x37_58.a x37_58.len x37_58.cap] ∧ let h_59 : Heap := Array.push h_54 (.cells #[.int .i64 0, .string (⟨#[]⟩ : ByteArray), .slice none 0 0, .slice none 0 0] 34); XRunU Tryz.prog (Instr.storeAt 34 (.pointer (some ⟨Array.size h_54, 0, none⟩)) (.agg #[.int .i64 x37_55, .string x37_56, .slice x37_57.a x37_57.len x37_57.cap, .slice x37_58.a x37_58.len x37_58.cap])) h_59 (fun h_60 => ∃ x39_61 : Int, ∃ x39_62 : ByteArray, ∃ x39_63 : Sl, ∃ x39_64 : Sl, ldList h_60 ⟨Array.size h, 0, none⟩ 0 [.int .i64 x39_61, .string x39_62, .slice x39_63.a x39_63.len x39_63.cap, .slice x39_64.a x39_64.len x39_64.cap] ∧ XC Tryz.prog 16 #[.agg #[.int .i64 x39_61, .string x39_62, .slice x39_63.a x39_63.len x39_63.cap, .slice x39_64.a x39_64.len x39_64.cap], .slice path1.a path1.len path1.cap] h_60 (fun v_65 h_66 => ∃ x41_67 : Int, ∃ x41_68 : ByteArray, ∃ x41_69 : Sl, ∃ x41_70 : Sl, ∃ x41_71 : Bool, v_65 = .tuple #[.agg #[.int .i64 x41_67, .string x41_68, .slice x41_69.a x41_69.len x41_69.cap, .slice x41_70.a x41_70.len x41_70.cap], .bool x41_71] ∧ let h_72 : Heap := Array.push h_66 (.cells #[.int .i64 0, .string (⟨#[]⟩ : ByteArray), .slice none 0 0, .slice none 0 0] 34); XRunU Tryz.prog (Instr.storeAt 34 (.pointer (some ⟨Array.size h_66, 0, none⟩)) (.agg #[.int .i64 x41_67, .string x41_68, .slice x41_69.a x41_69.len x41_69.cap, .slice x41_70.a x41_70.len x41_70.cap])) h_72 (fun h_73 => ∃ x45_74 : Int, ∃ x45_75 : ByteArray, ∃ x45_76 : Sl, ∃ x45_77 : Sl, ldList h_73 ⟨Array.size h, 0, none⟩ 0 [.int .i64 x45_74, .string x45_75, .slice x45_76.a x45_76.len x45_76.cap, .slice x45_77.a x45_77.len x45_77.cap] ∧ XC Tryz.prog 19 #[.agg #[.int .i64 x45_74, .string x45_75, .slice x45_76.a x45_76.len x45_76.cap, .slice x45_77.a x45_77.len x45_77.cap], .slice path1.a path1.len path1.cap] h_73 (fun v_78 h_79 => ∃ x47_80 : Int, ∃ x47_81 : ByteArray, ∃ x47_82 : Sl, ∃ x47_83 : Sl, ∃ x47_84 : Bool, v_78 = .tuple #[.agg #[.int .i64 x47_80, .string x47_81, .slice x47_82.a x47_82.len x47_82.cap, .slice x47_83.a x47_83.len x47_83.cap], .bool x47_84] ∧ let h_85 : Heap := Array.push h_79 (.cells #[.int .i64 0, .string (⟨#[]⟩ : ByteArray), .slice none 0 0, .slice none 0 0] 34); XRunU Tryz.prog (Instr.storeAt 34 (.pointer (some ⟨Array.size h_79, 0, none⟩)) (.agg #[.int .i64 x47_80, .string x47_81, .slice x47_82.a x47_82.len x47_82.cap, .slice x47_83.a x47_83.len x47_83.cap])) h_85 (fun h_86 => ∃ x51_87 : Int, ∃ x51_88 : ByteArray, ∃ x51_89 : Sl, ∃ x51_90 : Sl, ldList h_86 ⟨Array.size h, 0, none⟩ 0 [.int .i64 x51_87, .string x51_88, .slice x51_89.a x51_89.len x51_89.cap, .slice x51_90.a x51_90.len x51_90.cap] ∧ ∃ x53_91 : Int, ∃ x53_92 : ByteArray, ∃ x53_93 : Sl, ∃ x53_94 : Sl, ldList h_86 ⟨Array.size h_1, 0, none⟩ 0 [.int .i64 x53_91, .string x53_92, .slice x53_93.a x53_93.len x53_93.cap, .slice x53_94.a x53_94.len x53_94.cap] ∧ XC Tryz.prog 20 #[.agg #[.int .i64 x51_87, .string x51_88, .slice x51_89.a x51_89.len x51_89.cap, .slice x51_90.a x51_90.len x51_90.cap], .slice path1.a path1.len path1.cap, .agg #[.int .i64 x53_91, .string x53_92, .slice x53_93.a x53_93.len x53_93.cap, .slice x53_94.a x53_94.len x53_94.cap]] h_86 (fun v_95 h_96 => ∃ x54_97 : Int, ∃ x54_98 : ByteArray, ∃ x54_99 : Sl, ∃ x54_100 : Sl, ∃ x54_101 : Int, v_95 = .tuple #[.agg #[.int .i64 x54_97, .string x54_98, .slice x54_99.a x54_99.len x54_99.cap, .slice x54_100.a x54_100.len x54_100.cap], .int .i64 x54_101] ∧ let h_102 : Heap := Array.push h_96 (.cells #[.int .i64 0, .string (⟨#[]⟩ : ByteArray), .slice none 0 0, .slice none 0 0] 34); XRunU Tryz.prog (Instr.storeAt 34 (.pointer (some ⟨Array.size h_96, 0, none⟩)) (.agg #[.int .i64 x54_97, .string x54_98, .slice x54_99.a x54_99.len x54_99.cap, .slice x54_100.a x54_100.len x54_100.cap])) h_102 (fun h_103 => ∃ x58_104 : Int, ∃ x58_105 : ByteArray, ∃ x58_106 : Sl, ∃ x58_107 : Sl, ldList h_103 ⟨Array.size h, 0, none⟩ 0 [.int .i64 x58_104, .string x58_105, .slice x58_106.a x58_106.len x58_106.cap, .slice x58_107.a x58_107.len x58_107.cap] ∧ ∃ x60_108 : Int, ∃ x60_109 : ByteArray, ∃ x60_110 : Sl, ∃ x60_111 : Sl, ldList h_103 ⟨Array.size h_1, 0, none⟩ 0 [.int .i64 x60_108, .string x60_109, .slice x60_110.a x60_110.len x60_110.cap, .slice x60_111.a x60_111.len x60_111.cap] ∧ XC Tryz.prog 21 #[.agg #[.int .i64 x58_104, .string x58_105, .slice x58_106.a x58_106.len x58_106.cap, .slice x58_107.a x58_107.len x58_107.cap], .slice path1.a path1.len path1.cap, .agg #[.int .i64 x60_108, .string x60_109, .slice x60_110.a x60_110.len x60_110.cap, .slice x60_111.a x60_111.len x60_111.cap]] h_103 (fun v_112 h_113 => ∃ x61_114 : Int, ∃ x61_115 : ByteArray, ∃ x61_116 : Sl, ∃ x61_117 : Sl, ∃ x61_118 : Int, v_112 = .tuple #[.agg #[.int .i64 x61_114, .string x61_115, .slice x61_116.a x61_116.len x61_116.cap, .slice x61_117.a x61_117.len x61_117.cap], .int .i64 x61_118] ∧ let h_119 : Heap := Array.push h_113 (.cells #[.int .i64 0, .string (⟨#[]⟩ : ByteArray), .slice none 0 0, .slice none 0 0] 34); XRunU Tryz.prog (Instr.storeAt 34 (.pointer (some ⟨Array.size h_113, 0, none⟩)) (.agg #[.int .i64 x61_114, .string x61_115, .slice x61_116.a x61_116.len x61_116.cap, .slice x61_117.a x61_117.len x61_117.cap])) h_119 (fun h_120 => ∃ x64_121 : Int, ∃ x64_122 : ByteArray, ∃ x64_123 : Sl, ∃ x64_124 : Sl, ldList h_120 ⟨Array.size h_66, 0, none⟩ 0 [.int .i64 x64_121, .string x64_122, .slice x64_123.a x64_123.len x64_123.cap, .slice x64_124.a x64_124.len x64_124.cap] ∧ ∃ x65_125 : Int, ∃ x65_126 : ByteArray, ∃ x65_127 : Sl, ∃ x65_128 : Sl, ldList h_120 ⟨Array.size h_79, 0, none⟩ 0 [.int .i64 x65_125, .string x65_126, .slice x65_127.a x65_127.len x65_127.cap, .slice x65_128.a x65_128.len x65_128.cap] ∧ XC Tryz.prog 17 #[.agg #[.int .i64 x64_121, .string x64_122, .slice x64_123.a x64_123.len x64_123.cap, .slice x64_124.a x64_124.len x64_124.cap], .agg #[.int .i64 x65_125, .string x65_126, .slice x65_127.a x65_127.len x65_127.cap, .slice x65_128.a x65_128.len x65_128.cap]] h_120 (fun v_129 h_130 => ∃ x66_131 : Bool, v_129 = .bool x66_131 ∧ ∃ x68_132 : Int, ∃ x68_133 : ByteArray, ∃ x68_134 : Sl, ∃ x68_135 : Sl, (x66_131 = true → ldList h_130 ⟨Array.size h_96, 0, none⟩ 0 [.int .i64 x68_132, .string x68_133, .slice x68_134.a x68_134.len x68_134.cap, .slice x68_135.a x68_135.len x68_135.cap]) ∧ ∃ x69_136 : Int, ∃ x69_137 : ByteArray, ∃ x69_138 : Sl, ∃ x69_139 : Sl, (x66_131 = true → ldList h_130 ⟨Array.size h_113, 0, none⟩ 0 [.int .i64 x69_136, .string x69_137, .slice x69_138.a x69_138.len x69_138.cap, .slice x69_139.a x69_139.len x69_139.cap]) ∧ ∃ J_140 : Value → Heap → Prop, (x66_131 = true → XC Tryz.prog 17 #[.agg #[.int .i64 x68_132, .string x68_133, .slice x68_134.a x68_134.len x68_134.cap, .slice x68_135.a x68_135.len x68_135.cap], .agg #[.int .i64 x69_136, .string x69_137, .slice x69_138.a x69_138.len x69_138.cap, .slice x69_139.a x69_139.len x69_139.cap]] h_130 (fun v_144 h_145 => ∃ x70_146 : Bool, v_144 = .bool x70_146 ∧ J_140 (.bool x70_146) h_145)) ∧ (x66_131 = false → ∃ x70_147 : Bool, J_140 (.bool x70_147) h_130) ∧ (x66_131 = true → ∀ v_142 h_143, J_140 v_142 h_143 → ∃ x70_148 : Bool, v_142 = .bool x70_148) ∧ ∀ x70_149 : Bool, ∀ h_141, J_140 (.bool x70_149) h_141 → ∃ x72_150 : Int, ∃ x72_151 : ByteArray, ∃ x72_152 : Sl, ∃ x72_153 : Sl, ldList h_141 ⟨Array.size h_66, 0, none⟩ 0 [.int .i64 x72_150, .string x72_151, .slice x72_152.a x72_152.len x72_152.cap, .slice x72_153.a x72_153.len x72_153.cap] ∧ XC Tryz.prog 22 #[.agg #[.int .i64 x72_150, .string x72_151, .slice x72_152.a x72_152.len x72_152.cap, .slice x72_153.a x72_153.len x72_153.cap]] h_141 (fun v_154 h_155 => v_154 = .tuple #[] ∧ ∃ x74_156 : Int, ∃ x74_157 : ByteArray, ∃ x74_158 : Sl, ∃ x74_159 : Sl, ldList h_155 ⟨Array.size h_96, 0, none⟩ 0 [.int .i64 x74_156, .string x74_157, .slice x74_158.a x74_158.len x74_158.cap, .slice x74_159.a x74_159.len x74_159.cap] ∧ XC Tryz.prog 22 #[.agg #[.int .i64 x74_156, .string x74_157, .slice x74_158.a x74_158.len x74_158.cap, .slice x74_159.a x74_159.len x74_159.cap]] h_155 (fun v_160 h_161 => v_160 = .tuple #[] ∧ ∃ x91_162 : Int, ∃ x91_163 : ByteArray, ∃ x91_164 : Sl, ∃ x91_165 : Sl, ((bif (bif (bif x20_5 then (bif x66_131 then x70_149 else false) else false) then (x41_71 == x47_84) else false) then ((x54_101 : Int) == x61_118) else false) = true → ldList h_161 ⟨Array.size h, 0, none⟩ 0 [.int .i64 x91_162, .string x91_163, .slice x91_164.a x91_164.len x91_164.cap, .slice x91_165.a x91_165.len x91_165.cap]) ∧ ∃ x92_166 : Int, ∃ x92_167 : ByteArray, ∃ x92_168 : Sl, ∃ x92_169 : Sl, ((bif (bif (bif x20_5 then (bif x66_131 then x70_149 else false) else false) then (x41_71 == x47_84) else false) then ((x54_101 : Int) == x61_118) else false) = true → ldList h_161 ⟨Array.size h_42, 0, none⟩ 0 [.int .i64 x92_166, .string x92_167, .slice x92_168.a x92_168.len x92_168.cap, .slice x92_169.a x92_169.len x92_169.cap]) ∧ ∃ J_170 : Value → Heap → Prop, ((bif (bif (bif x20_5 then (bif x66_131 then x70_149 else false) else false) then (x41_71 == x47_84) else false) then ((x54_101 : Int) == x61_118) else false) = true → XC Tryz.prog 17 #[.agg #[.int .i64 x91_162, .string x91_163, .slice x91_164.a x91_164.len x91_164.cap, .slice x91_165.a x91_165.len x91_165.cap], .agg #[.int .i64 x92_166, .string x92_167, .slice x92_168.a x92_168.len x92_168.cap, .slice x92_169.a x92_169.len x92_169.cap]] h_161 (fun v_174 h_175 => ∃ x93_176 : Bool, v_174 = .bool x93_176 ∧ J_170 (.bool x93_176) h_175)) ∧ ((bif (bif (bif x20_5 then (bif x66_131 then x70_149 else false) else false) then (x41_71 == x47_84) else false) then ((x54_101 : Int) == x61_118) else false) = false → ∃ x93_177 : Bool, J_170 (.bool x93_177) h_161) ∧ ((bif (bif (bif x20_5 then (bif x66_131 then x70_149 else false) else false) then (x41_71 == x47_84) else false) then ((x54_101 : Int) == x61_118) else false) = true → ∀ v_172 h_173, J_170 v_172 h_173 → ∃ x93_178 : Bool, v_172 = .bool x93_178) ∧ ∀ x93_179 : Bool, ∀ h_171, J_170 (.bool x93_179) h_171 → ∃ x96_180 : Int, ∃ x96_181 : ByteArray, ∃ x96_182 : Sl, ∃ x96_183 : Sl, ((bif (bif (bif (bif x20_5 then (bif x66_131 then x70_149 else false) else false) then (x41_71 == x47_84) else false) then ((x54_101 : Int) == x61_118) else false) then x93_179 else false) = true → ldList h_171 ⟨Array.size h_1, 0, none⟩ 0 [.int .i64 x96_180, .string x96_181, .slice x96_182.a x96_182.len x96_182.cap, .slice x96_183.a x96_183.len x96_183.cap]) ∧ ∃ x97_184 : Int, ∃ x97_185 : ByteArray, ∃ x97_186 : Sl, ∃ x97_187 : Sl, ((bif (bif (bif (bif x20_5 then (bif x66_131 then x70_149 else false) else false) then (x41_71 == x47_84) else false) then ((x54_101 : Int) == x61_118) else false) then x93_179 else false) = true → ldList h_171 ⟨Array.size h_54, 0, none⟩ 0 [.int .i64 x97_184, .string x97_185, .slice x97_186.a x97_186.len x97_186.cap, .slice x97_187.a x97_187.len x97_187.cap]) ∧ ∃ J_188 : Value → Heap → Prop, ((bif (bif (bif (bif x20_5 then (bif x66_131 then x70_149 else false) else false) then (x41_71 == x47_84) else false) then ((x54_101 : Int) == x61_118) else false) then x93_179 else false) = true → XC Tryz.prog 17 #[.agg #[.int .i64 x96_180, .string x96_181, .slice x96_182.a x96_182.len x96_182.cap, .slice x96_183.a x96_183.len x96_183.cap], .agg #[.int .i64 x97_184, .string x97_185, .slice x97_186.a x97_186.len x97_186.cap, .slice x97_187.a x97_187.len x97_187.cap]] h_171 (fun v_192 h_193 => ∃ x98_194 : Bool, v_192 = .bool x98_194 ∧ J_188 (.bool x98_194) h_193)) ∧ ((bif (bif (bif (bif x20_5 then (bif x66_131 then x70_149 else false) else false) then (x41_71 == x47_84) else false) then ((x54_101 : Int) == x61_118) else false) then x93_179 else false) = false → ∃ x98_195 : Bool, J_188 (.bool x98_195) h_171) ∧ ((bif (bif (bif (bif x20_5 then (bif x66_131 then x70_149 else false) else false) then (x41_71 == x47_84) else false) then ((x54_101 : Int) == x61_118) else false) then x93_179 else false) = true → ∀ v_190 h_191, J_188 v_190 h_191 → ∃ x98_196 : Bool, v_190 = .bool x98_196) ∧ ∀ x98_197 : Bool, ∀ h_189, J_188 (.bool x98_197) h_189 → R (.bool (bif (bif (bif (bif (bif x20_5 then (bif x66_131 then x70_149 else false) else false) then (x41_71 == x47_84) else false) then ((x54_101 : Int) == x61_118) else false) then x93_179 else false) then x98_197 else false)) h_189))))))))))))))))))) :
    XC Tryz.prog 5 #[.agg #[.int .i64 v0_0, .string v0_1, .slice v0_2.a v0_2.len v0_2.cap, .slice v0_3.a v0_3.len v0_3.cap], .slice path1.a path1.len path1.cap, .agg #[.int .i64 w2_0, .string w2_1, .slice w2_2.a w2_2.len w2_2.cap, .slice w2_3.a w2_3.len w2_3.cap]] h R :=
  XC_of_code Tryz.mixed ⟨[], [], []⟩ [.agg #[.int .i64 v0_0, .string v0_1, .slice v0_2.a v0_2.len v0_2.cap, .slice v0_3.a v0_3.len v0_3.cap], .slice path1.a path1.len path1.cap, .agg #[.int .i64 w2_0, .string w2_1, .slice w2_2.a w2_2.len w2_2.cap, .slice w2_3.a w2_3.len w2_3.cap]] (rs := [.tmp 6]) (n := 100) Tryz.func5 (by kernel_rfl) (by kernel_rfl) (by kernel_rfl) (by kernel_rfl) (Eq.mp (by kernel_rfl) H)
end Go.Proofs.YtaoceiiakcpbaaaGreatDoor
end
section
namespace Go.X
open Go
set_option linter.unusedVariables false
def PO (P : Program) (gl : Fr) (f : FuncId) (args : List Arg) (R : Tr → Prop) : Prop :=
  ∀ (h : Heap) (M : Fr) (vs : List Value), Fr.le gl M → AgM M h → ArgsOK M args vs → XC P f vs.toArray h fun v h' =>
    Keep h.size h h' ∧ ∃ (M' : Fr) (r : Tr) (sk si : Sl) (e : TypeId) (cells : List Value), Fr.le M M' ∧ (∀ b, b < h.size → M' b = M b) ∧ AgM M' h' ∧ v = .agg #[.int .i64 r.kind, .string r.text, slV sk, slV si] ∧ Rd M' (.row .str) r.keys [slV sk] ∧
      Owns h' h.size e 4 si cells ∧ RowC M' .tree r.items cells ∧ r.items.length ≤ 140737488355328 ∧ si.len = r.items.length ∧ (∀ p, si.a = some p → M' p.block = none) ∧ R r
def outO (C : CS) : List AV → Option Tr
  | [.g (.agg [.v (.int .i64 k), .v (.string s), ka, .own c])] => match cellD C (.row .str) ka with
    | some ks => match findC C c with
      | some (.row _ .tree xs) => some (.mk k s ks xs)
      | _ => none
    | none => none
  | _ => none
def endO (P : Program) (rs : List ResultVar) (R : Tr → Prop) : XPostA := fun x e C => match x with
  | .normal => resA P C e rs fun vs => match outO C vs with
    | some r => R r
    | none => False
  | .ret => resA P C e rs fun vs => match outO C vs with
    | some r => R r
    | none => False
  | _ => False
theorem PO_of_code {P : Program} (hm : P.follows .mixedOrders = true) (gl : Fr) (tr : TypeId) (pl : PlanA) (args : List Arg) {f : FuncId} {fn : Func} {rs : List ResultVar} {n : Nat} (hf : P.funcs[f]? = some fn) (hb : hasBody fn = true) (hr : fn.results.toList = rs) (hn : fn.ntmps = n)
    (hz : Nat.ble args.length n = true) {R : Tr → Prop} (H : WA P gl tr n pl (codeOf fn) [] (endO P rs R) (argEA 0 args) []) : PO P gl f args R := by
  intro h M vs hgl hag hargs B d
  subst hn
  have hb' : fn.body = some (codeOf fn) := by
    unfold hasBody at hb
    unfold codeOf
    split at hb
    · rename_i c hc; rw [hc]
    · cases hb
  refine calls_of_wp hf hb' ?_
  have hlen : vs.length = args.length := (All2.length hargs).symm
  have hz' : vs.length ≤ fn.ntmps := by rw [hlen]; exact Nat.le_of_ble_eq_true hz
  let γ : Gh := ⟨M, fun _ => 0, fun _ => ⟨none, 0, 0⟩⟩
  have I : Inv h (fun _ => False) M ([] ++ []) γ h := { ag := hag, frame := fun _ _ _ => rfl, size := Nat.le_refl _, old := fun _ _ => rfl, le := Fr.le.refl _, den := fun x hx => (by cases hx), sep := fun x hx => (by cases hx), apart := List.Pairwise.nil }
  have hs : SatA fn.ntmps (argEA 0 args) γ { tmps := vs.toArray ++ Array.replicate (fn.ntmps - vs.toArray.size) undef, defers := [] } := by
    refine ⟨rfl, by simp; omega, argEA_facts hargs fun j v hj => ?_⟩
    have hj' : j < vs.length := (List.getElem?_eq_some_iff.1 hj).1
    simp only [Nat.zero_add, vals, Array.getD_eq_getD_getElem?]
    rw [Array.getElem?_append_left (by simpa using hj')]
    simp [hj]
  have fin : ∀ (e : EnvA) (C : CS) (γ' : Gh) (h' : Heap) (a : Act), SatA fn.ntmps e γ' a → Inv h (fun _ => False) M (C ++ []) γ' h' → (resA P C e rs fun vs => match outO C vs with | some r => R r | none => False) →
      ∃ v, QExec P (results fn a.tmps) h' v ∧ Keep h.size h h' ∧ ∃ (M' : Fr) (r : Tr) (sk si : Sl) (e : TypeId) (cells : List Value), Fr.le M M' ∧ (∀ b, b < h.size → M' b = M b) ∧ AgM M' h' ∧ v = .agg #[.int .i64 r.kind, .string r.text, slV sk, slV si] ∧ Rd M' (.row .str) r.keys [slV sk] ∧
      Owns h' h.size e 4 si cells ∧ RowC M' .tree r.items cells ∧ r.items.length ≤ 140737488355328 ∧ si.len = r.items.length ∧ (∀ p, si.a = some p → M' p.block = none) ∧ R r := by
    intro e C γ' h' a s1 I1 q
    rw [List.append_nil] at I1
    obtain ⟨avs, us, hK, hd, hl, hq⟩ := resA_sound s1 I1 q
    split at hK
    · rename_i r hc
      unfold outO at hc
      split at hc
      · rename_i k s ka c
        split at hc
        · rename_i ks hks
          split at hc
          · rename_i e' xs hfc
            simp only [Option.some.injEq] at hc
            subst hc
            match us, hd with
            | [u], ⟨hd, _⟩ =>
              obtain ⟨us', rfl, hd'⟩ := hd
              match us', hd' with
              | [u0, u1, u2, u3], ⟨h0, h1, h2, h3, _⟩ =>
                have h0 : u0 = .int .i64 k := h0
                have h1 : u1 = .string s := h1
                have h3 : u3 = slV (γ'.σ c) := h3
                subst h0; subst h1; subst h3
                have hk := cellD_rd I1.fz hks h2
                have hk' := hk
                obtain ⟨w1, e1, a1, c1, q1, _⟩ := hk'
                simp only [List.cons.injEq, and_true] at e1
                subst e1; subst q1
                have hm := findC_mem hfc
                obtain ⟨cells, ho, hrow, hlen', hsl⟩ := I1.den _ hm
                exact ⟨_, resultsA_run hr hl hq, ⟨I1.size, fun i hi => I1.frame i hi (fun h => h)⟩, γ'.M, .mk k s ks xs, ⟨a1, ks.length, c1⟩, γ'.σ c, e', cells, I1.le, I1.old, I1.ag, rfl, hk, ho, hrow, hlen', hsl,
                  fun p hp => (I1.sep _ hm p.block (by show (γ'.σ c).a.map (·.block) = _; rw [hp]; rfl)).2, hK⟩
          · cases hc
        · cases hc
      · cases hc
    · exact hK.elim
  refine wp_mono (WA_sound hm hgl _ _ _ _ _ H γ h B d _ hs I) ?_
  rintro ex a w ⟨e1, C1, γ1, d1, h1, rfl, s1, I1, m1, g1, q1⟩
  cases ex with
  | normal =>
    obtain ⟨v, hq, k, rest⟩ := fin e1 C1 γ1 h1 a s1 I1 q1
    exact ⟨s1.defers, v, hq B d1, v, d1, h1, rfl, rfl, k, rest⟩
  | ret =>
    obtain ⟨v, hq, k, rest⟩ := fin e1 C1 γ1 h1 a s1 I1 q1
    exact ⟨s1.defers, v, hq B d1, v, d1, h1, rfl, rfl, k, rest⟩
  | _ => exact q1.elim
theorem PO_of_form {P : Program} (hm : P.follows .mixedOrders = true) (gl : Fr) (tr : TypeId) (pl : PlanA) (args : List Arg) {f : FuncId} {fn : Func} {rs : List ResultVar} {n : Nat} (hf : P.funcs[f]? = some fn) (hb : hasBody fn = true) (hr : fn.results.toList = rs) (hn : fn.ntmps = n)
    (hz : Nat.ble args.length n = true) {R : Tr → Prop} {F : Prop} (H : F) (e : F = WA P gl tr n pl (codeOf fn) [] (endO P rs R) (argEA 0 args) []) : PO P gl f args R :=
  PO_of_code hm gl tr pl args hf hb hr hn hz (e ▸ H)
end Go.X
end
section
namespace Go.Proofs.YtaoceiiakcpbaaaGreatDoor
open Go Go.X Go.Proofs
set_option linter.unusedVariables false
set_option maxRecDepth 100000
theorem po_scarfref06_Clone (gl : Fr) (v0 : Tr) (R : Tr → Prop)
    (H : ((List.length ([] : List ByteArray) + List.length v0.keys) * 16 ≤ 140737488355328 ∧ ∃ (I_10 : Int → Int → ByteArray → (List ByteArray) → (List Tr) → Int → ByteArray → (List ByteArray) → (List Tr) → Prop) (μ_11 : Int → Int → ByteArray → (List ByteArray) → (List Tr) → Int → ByteArray → (List ByteArray) → (List Tr) → Nat), I_10 0 0 (⟨#[]⟩ : ByteArray) ([] : List ByteArray) ([] : List Tr) v0.kind v0.text (([] : List ByteArray) ++ v0.keys) ([] : List Tr) ∧ ∀ i4_1 : Int, ∀ b2_0_2 : Int, ∀ b2_1_3 : ByteArray, ∀ b2_2_4 : List ByteArray, ∀ b2_3_5 : List Tr, ∀ out_0_6 : Int, ∀ out_1_7 : ByteArray, ∀ out_2_8 : List ByteArray, ∀ out_3_9 : List Tr, I_10 i4_1 b2_0_2 b2_1_3 b2_2_4 b2_3_5 out_0_6 out_1_7 out_2_8 out_3_9 → (((decide ((i4_1 : Int) < ((List.length v0.items : Nat) : Int))) = true → ∃ y_14 : Tr, (0 ≤ (i4_1 : Int) ∧ v0.items[(i4_1 : Int).toNat]? = some y_14) ∧ PC Tryz.prog gl 18 [Arg.mk .tree (Tr.mk y_14.kind y_14.text y_14.keys y_14.items)] [.tree] (fun r_15 : Tr => ((List.length out_3_9 + List.length ([Tr.mk r_15.kind r_15.text r_15.keys r_15.items] : List Tr)) * 72 ≤ 140737488355328 ∧ (I_10 (IntKind.wrap .i64 (i4_1 + 1)) b2_0_2 b2_1_3 b2_2_4 b2_3_5 out_0_6 out_1_7 out_2_8 (out_3_9 ++ ([Tr.mk r_15.kind r_15.text r_15.keys r_15.items] : List Tr)) ∧ μ_11 (IntKind.wrap .i64 (i4_1 + 1)) b2_0_2 b2_1_3 b2_2_4 b2_3_5 out_0_6 out_1_7 out_2_8 (out_3_9 ++ ([Tr.mk r_15.kind r_15.text r_15.keys r_15.items] : List Tr)) < μ_11 i4_1 b2_0_2 b2_1_3 b2_2_4 b2_3_5 out_0_6 out_1_7 out_2_8 out_3_9)))) ∧ ((decide ((i4_1 : Int) < ((List.length v0.items : Nat) : Int))) = false → R (Tr.mk out_0_6 out_1_7 out_2_8 out_3_9))))) :
    PO Tryz.prog gl 18 [Arg.mk .tree v0] R :=
  PO_of_form Tryz.mixed gl 34 ⟨[], [(1, 10, [], [0, 1, 2, 3, 4, 5, 6, 9, 7, 8], []), (5, 9, [], [0, 1, 2, 3, 4, 5, 6, 7, 8], [])], [(3, ⟨[(4, .one (.dat (.int .i64)))], [(2, [.dat (.int .i64), .dat .str, .own 9 .str, .own 34 .tree]), (3, [.dat (.int .i64), .dat .str, .dat (.row .str), .own 34 .tree])], [1], [100256, 1000128, 1000129, 1000130, 1000131, 1000192, 1000193, 1000194, 1000195]⟩)], []⟩ [Arg.mk .tree v0] (rs := [.cell 2 34]) (n := 33) Tryz.func18 (by kernel_rfl) (by kernel_rfl) (by kernel_rfl) (by kernel_rfl) H (by kernel_rfl)
end Go.Proofs.YtaoceiiakcpbaaaGreatDoor
end
section
namespace Go.X
open Go Go.Lib
set_option linter.unusedVariables false
mutual
def tks : Tr → Nat | .mk _ _ ks xs => 1 + ks.length + tksL xs
def tksL : List Tr → Nat | [] => 0 | x :: l => tks x + tksL l
end
theorem tks_eq (v : Tr) : tks v = 1 + v.keys.length + tksL v.items := by cases v; rw [tks]
theorem tksL_append : ∀ a b : List Tr, tksL (a ++ b) = tksL a + tksL b
  | [], b => by simp [tksL]
  | x :: l, b => by rw [List.cons_append, tksL, tksL, tksL_append l b]; omega
theorem tksL_take {l : List Tr} {k : Nat} (hk : k < l.length) : tksL (l.take (k + 1)) = tksL (l.take k) + tks l[k] := by
  rw [List.take_succ_eq_append_getElem hk, tksL_append]; simp [tksL]
mutual
theorem tsz_tks : ∀ v : Tr, tsz v ≤ tks v
  | .mk k s ks xs => by rw [tsz, tks]; have := tszL_tksL xs; omega
theorem tszL_tksL : ∀ l : List Tr, tszL l ≤ tksL l
  | [] => by simp [tszL, tksL]
  | x :: l => by rw [tszL, tksL]; have := tsz_tks x; have := tszL_tksL l; omega
end
mutual
def txS : Tr → Prop | .mk _ s ks xs => (s.size ≤ 2048 ∧ ∀ k ∈ ks, k.size ≤ 1024) ∧ txSL xs
def txSL : List Tr → Prop | [] => True | x :: l => txS x ∧ txSL l
end
theorem txS_eq (v : Tr) : txS v ↔ (v.text.size ≤ 2048 ∧ ∀ k ∈ v.keys, k.size ≤ 1024) ∧ txSL v.items := by cases v; rw [txS]
theorem txSL_mem : ∀ {l : List Tr}, txSL l ↔ ∀ x ∈ l, txS x
  | [] => by simp [txSL]
  | x :: l => by rw [txSL, txSL_mem]; simp
mutual
theorem txB_of : ∀ (v : Tr), tks v ≤ 1000000 → txS v → txB 1048576 v
  | .mk k s ks xs, h, g => by
    rw [tks] at h; rw [txS] at g; rw [txB]
    exact ⟨⟨by omega, by omega, fun k hk => by have := g.1.2 k hk; omega⟩, txBL_of xs (by omega) g.2⟩
theorem txBL_of : ∀ (l : List Tr), tksL l ≤ 1000000 → txSL l → txBL 1048576 l
  | [], _, _ => by rw [txBL]; trivial
  | x :: l, h, g => by
    rw [tksL] at h; rw [txSL] at g; rw [txBL]
    exact ⟨txB_of x (by omega) g.1, txBL_of l (by omega) g.2⟩
end
theorem Sm.few {v : Tr} (h : tks v ≤ 1000000) (g : txS v) : Sm v := ⟨by have := tsz_tks v; omega, txB_of v h g⟩
structure PS (l : List ByteArray) : Prop where
  n : l.length ≤ 200
  s : ∀ x ∈ l, (lb x).length ≤ 1024
def rightP (l : List ByteArray) : Bool := decide (l.length ≤ 64) && l.all fun s => u8ok (lb s)
def esc1 (c : UInt8) : Bs := if c = 126 then [126, 48] else if c = 47 then [126, 49] else [c]
def esc (l : Bs) : Bs := l.flatMap esc1
def txtP (l : List Bs) : Bs := l.flatMap fun s => 47 :: esc s
theorem esc_rep (l : Bs) : replaceAll (replaceAll l [126] [126, 48]) [47] [126, 49] = esc l := by
  rw [replaceAll_W (by simp) (by simp), replaceAll_W (by simp) (by simp), repW_one, repW_one, List.flatMap_assoc, esc]
  congr 1
  funext x
  by_cases h : x = 126
  · subst h; simp [esc1]
  · by_cases h2 : x = 47
    · subst h2; simp [esc1]
    · simp [esc1, h, h2]
theorem esc_len (l : Bs) : (esc l).length ≤ 2 * l.length := by
  induction l with
  | nil => simp [esc]
  | cons c t ih =>
    rw [esc, List.flatMap_cons, List.length_append]
    have : (esc1 c).length ≤ 2 := by 
      by_cases h : c = 126
      · simp [esc1, h]
      · by_cases h2 : c = 47 <;> simp [esc1, h, h2]
    unfold esc at ih; rw [List.length_cons]; omega
theorem txtP_append (a b : List Bs) : txtP (a ++ b) = txtP a ++ txtP b := by unfold txtP; rw [List.flatMap_append]
theorem txtP_one (x : Bs) : txtP [x] = 47 :: esc x := by simp [txtP]
def addL (out : List Bs) (x : Bs) : List Bs := match out.getLast? with
  | some y => out.dropLast ++ [y ++ x]
  | none => []
theorem addL_snoc (out : List Bs) (y x : Bs) : addL (out ++ [y]) x = out ++ [y ++ x] := by unfold addL; simp
def prc (out : List Bs) : Bs → Option (List Bs)
  | [] => some out
  | c :: t => if c = 47 then prc (out ++ [[]]) t else if c = 126 then (match t with
    | [] => none
    | d :: t' => if d = 48 then prc (addL out [126]) t' else if d = 49 then prc (addL out [47]) t' else none) else prc (addL out [c]) t
def prsP (s : Bs) : List Bs × Int := if !(u8ok s) || (!s.isEmpty && s.head? != some 47) then ([], 2) else match prc [] s with
  | none => ([], 2)
  | some out => if 64 < out.length then ([], 3) else (out, 0)
end Go.X
end
section
namespace Go.X
open Go Go.Lib
set_option linter.unusedVariables false
structure IsCmp {α : Type} (c : α → α → Int) : Prop where
  rng : ∀ a b, c a b = -1 ∨ c a b = 0 ∨ c a b = 1
  eq0 : ∀ a b, c a b = 0 ↔ a = b
  swap : ∀ a b, c b a = -c a b
  tr : ∀ a b d, c a b ≤ 0 → c b d ≤ 0 → c a d ≤ 0
end Go.X
end
section
namespace Go.X
open Go Go.Lib
set_option linter.unusedVariables false
def wholeB : Bs → Bool
  | [] => true
  | c :: t => (c != 126 || (t.head? == some 48 || t.head? == some 49)) && wholeB t
theorem whole_miss : ∀ {l : Bs}, index l [126] = -1 → wholeB l = true
  | [], _ => rfl
  | c :: t, h => by
    cases hp : List.isPrefixOf [126] (c :: t) with
    | true => rw [index_pre hp] at h; cases h
    | false =>
      have hc : c ≠ 126 := by
        rintro rfl
        simp [List.isPrefixOf] at hp
      rcases index_or t [126] with e | ⟨i, e⟩
      · simp [wholeB, hc, whole_miss e]
      · rw [index_on hp e] at h; omega
theorem whole_hit : ∀ {l : Bs} {i : Nat}, index l [126] = i → wholeB l = (((l.drop (i + 1)).head? == some 48 || (l.drop (i + 1)).head? == some 49) && wholeB (l.drop (i + 1)))
  | [], i, h => by rw [index_nil (by simp)] at h; omega
  | c :: t, i, h => by
    cases hp : List.isPrefixOf [126] (c :: t) with
    | true =>
      rw [index_pre hp] at h
      have : i = 0 := by omega
      subst this
      have hc : c = 126 := by simp [List.isPrefixOf] at hp; exact hp.symm
      subst hc
      simp [wholeB]
    | false =>
      have hc : c ≠ 126 := by
        rintro rfl
        simp [List.isPrefixOf] at hp
      rcases index_or t [126] with e | ⟨j, e⟩
      · rw [index_no hp e] at h; omega
      · rw [index_on hp e] at h
        have : i = j + 1 := by omega
        subst this
        rw [List.drop_succ_cons, ← whole_hit e]
        simp [wholeB, hc]
def unesc (l : Bs) : Bs := repW [126, 48] [126] (repW [126, 49] [47] l)
theorem unesc_rep (l : Bs) : replaceAll (replaceAll l [126, 49] [47]) [126, 48] [126] = unesc l := by
  rw [replaceAll_W (by simp) (by simp), replaceAll_W (by simp) (by simp)]; rfl
theorem unesc_nil : unesc [] = [] := by unfold unesc; rw [repW_nil (by simp), repW_nil (by simp)]
theorem unesc_cons {c : UInt8} (h : c ≠ 126) (l : Bs) : unesc (c :: l) = c :: unesc l := by
  unfold unesc
  have h1 : ∀ d : UInt8, ∀ m : Bs, List.isPrefixOf [126, d] (c :: m) = false := fun d m => by
    simp [List.isPrefixOf]; exact fun e => absurd e.symm h
  rw [repW_cons (by simp), h1, if_neg (by simp), repW_cons (by simp), h1, if_neg (by simp)]
theorem unesc_0 (l : Bs) : unesc (126 :: 48 :: l) = 126 :: unesc l := by
  unfold unesc
  rw [repW_cons (by simp), if_neg (by simp [List.isPrefixOf]), repW_cons (old := [126, 49]) (by simp) 48 l, if_neg (by simp [List.isPrefixOf]), repW_cons (by simp), if_pos (by simp [List.isPrefixOf])]
  rfl
theorem unesc_1 (l : Bs) : unesc (126 :: 49 :: l) = 47 :: unesc l := by
  unfold unesc
  rw [repW_cons (by simp), if_pos (by simp [List.isPrefixOf])]
  show repW [126, 48] [126] (47 :: repW [126, 49] [47] l) = _
  rw [repW_cons (by simp), if_neg (by simp [List.isPrefixOf])]
theorem repW_len (old new : Bs) (ho : old ≠ []) (hn : new.length ≤ old.length) (n : Nat) : ∀ s : Bs, s.length ≤ n → (repW old new s).length ≤ s.length := by
  induction n with
  | zero => intro s h
            have : s = [] := List.eq_nil_of_length_eq_zero (by omega)
            subst this; rw [repW_nil ho]; simp
  | succ n ih =>
    intro s h
    match s with
    | [] => rw [repW_nil ho]; simp
    | b :: l =>
      rw [List.length_cons] at h
      rw [repW_cons ho]
      cases hp : old.isPrefixOf (b :: l) with
      | true =>
        rw [if_pos rfl, List.length_append]
        have h1 : 0 < old.length := List.length_pos_iff.2 ho
        have h2 : old.length ≤ (b :: l).length := (List.isPrefixOf_iff_prefix.1 hp).length_le
        rw [List.length_cons] at h2
        have := ih ((b :: l).drop old.length) (by rw [List.length_drop, List.length_cons]; omega)
        rw [List.length_drop, List.length_cons] at this
        rw [List.length_cons]; omega
      | false =>
        rw [if_neg (by simp), List.length_cons, List.length_cons]
        have := ih l (by omega)
        omega
def joinS (x : Bs) : List Bs → List Bs
  | [] => []
  | y :: ys => (x ++ unesc y) :: ys.map unesc
theorem joinS_splC (x : Bs) {c : UInt8} (h : c ≠ 47) {z : Bs} {t : Bs} (hz : ∀ y, x ++ unesc (c :: y) = z ++ unesc y) : joinS x (splC 47 (c :: t)) = joinS z (splC 47 t) := by
  rw [splC, if_neg h]
  cases hs : splC 47 t with
  | nil => exact absurd hs (splC_ne _ _)
  | cons y ys => simp only [joinS, hz]
theorem prc_split (n : Nat) : ∀ (t : Bs), t.length ≤ n → ∀ out x, prc (out ++ [x]) t = if wholeB t then some (out ++ joinS x (splC 47 t)) else none := by
  induction n with
  | zero =>
    intro t h out x
    have : t = [] := List.eq_nil_of_length_eq_zero (by omega)
    subst this
    simp [prc, wholeB, splC, joinS, unesc_nil]
  | succ n ih =>
    intro t h out x
    match t with
    | [] => simp [prc, wholeB, splC, joinS, unesc_nil]
    | c :: t =>
      rw [List.length_cons] at h
      rw [prc.eq_def]
      simp only
      by_cases h1 : c = 47
      · subst h1
        rw [if_pos rfl, ih t (by omega)]
        have hw : wholeB (47 :: t) = wholeB t := by simp [wholeB]
        rw [hw, splC, if_pos rfl]
        cases hs : splC 47 t with
        | nil => exact absurd hs (splC_ne _ _)
        | cons y ys => simp [joinS, unesc_nil]
      · rw [if_neg h1]
        by_cases h2 : c = 126
        · subst h2
          rw [if_pos rfl]
          match t with
          | [] => simp [wholeB]
          | d :: t' =>
            rw [List.length_cons] at h
            simp only [addL_snoc]
            by_cases h3 : d = 48
            · subst h3
              rw [if_pos rfl, ih t' (by omega)]
              have hw : wholeB (126 :: 48 :: t') = wholeB t' := by simp [wholeB]
              rw [hw]
              have e : joinS (x ++ [126]) (splC 47 t') = joinS x (splC 47 (126 :: 48 :: t')) := by
                rw [splC, if_neg (by decide), splC, if_neg (by decide)]
                cases hs : splC 47 t' with
                | nil => exact absurd hs (splC_ne _ _)
                | cons y ys => simp [joinS, unesc_0]
              rw [e]
            · rw [if_neg h3]
              by_cases h4 : d = 49
              · subst h4
                rw [if_pos rfl, ih t' (by omega)]
                have hw : wholeB (126 :: 49 :: t') = wholeB t' := by simp [wholeB]
                rw [hw]
                have e : joinS (x ++ [47]) (splC 47 t') = joinS x (splC 47 (126 :: 49 :: t')) := by
                  rw [splC, if_neg (by decide), splC, if_neg (by decide)]
                  cases hs : splC 47 t' with
                  | nil => exact absurd hs (splC_ne _ _)
                  | cons y ys => simp [joinS, unesc_1]
                rw [e]
              · rw [if_neg h4]
                have hw : wholeB (126 :: d :: t') = false := by simp [wholeB, h3, h4]
                rw [hw]; simp
        · rw [if_neg h2, addL_snoc, ih t (by omega)]
          have hw : wholeB (c :: t) = wholeB t := by simp [wholeB, h2]
          rw [hw, joinS_splC x h1 (z := x ++ [c]) (fun y => by rw [unesc_cons h2]; simp)]
def goP (s : Bs) : List Bs × Int :=
  if !(u8ok s) || (!s.isEmpty && s.head? != some 47) || !(wholeB s) then ([], 2) else if 64 < s.count 47 then ([], 3) else if s = [] then ([], 0) else ((splC 47 s.tail).map unesc, 0)
theorem goP_eq (s : Bs) : goP s = prsP s := by
  unfold goP prsP
  cases hb : !(u8ok s) || (!s.isEmpty && s.head? != some 47) with
  | true => simp
  | false =>
    simp only [Bool.false_or, Bool.false_eq_true, if_false]
    match s, hb with
    | [], _ => simp [wholeB, prc]
    | c :: t, hb =>
      have hc : c = 47 := by
        rw [Bool.or_eq_false_iff] at hb
        simpa using hb.2
      subst hc
      have hw : wholeB (47 :: t) = wholeB t := by simp [wholeB]
      have hp : prc [] (47 :: t) = prc ([] ++ [[]]) t := by rw [prc.eq_def]; simp
      rw [hw, hp, prc_split t.length t (Nat.le_refl _)]
      cases hwt : wholeB t with
      | false => simp
      | true =>
        simp only [Bool.not_true, Bool.false_eq_true, if_false, if_true, List.nil_append]
        have hj : joinS [] (splC 47 t) = (splC 47 t).map unesc := by
          cases hs : splC 47 t with
          | nil => rfl
          | cons y ys => simp [joinS]
        have hl : (joinS [] (splC 47 t)).length = (47 :: t).count 47 := by
          rw [hj, List.length_map, splC_length, List.count_cons]; simp
        rw [hl, hj]
        simp
theorem countB_one (s : Bs) (c : UInt8) : countB (bl s) (bl [c]) = s.count c := by
  rw [← count_one]
theorem splitB_one (s : Bs) (c : UInt8) : splitB (bl [c]) 0 (countB (bl s) (bl [c])) (bl s) = (splC c s).map bl := by
  have h := splitB_data (bl [c]) 0 (countB (bl s) (bl [c])) (bl s)
  have e : ∀ x : ByteArray, x.data.toList = lb x := fun _ => rfl
  simp only [e] at h
  rw [splitK_full (by simp) _ _ (by rw [countB_one, count_one]; exact Nat.le_refl _), splW_one] at h
  have h2 := congrArg (List.map bl) h
  rw [List.map_map] at h2
  have e2 : (bl ∘ fun x => lb x) = (id : ByteArray → ByteArray) := funext fun x => bl_lb x
  rw [e2, List.map_id] at h2
  exact h2
theorem splC_mem (c : UInt8) : ∀ (l : Bs) (x : Bs), x ∈ splC c l → x.length ≤ l.length
  | [], x, h => by simp [splC] at h; subst h; simp
  | b :: l, x, h => by
    rw [splC] at h
    split at h
    · rcases List.mem_cons.1 h with rfl | h
      · simp
      · have := splC_mem c l x h; rw [List.length_cons]; omega
    · split at h
      · simp at h; subst h; simp
      · rename_i y r hs
        rcases List.mem_cons.1 h with rfl | h
        · have := splC_mem c l y (by rw [hs]; simp); rw [List.length_cons, List.length_cons]; omega
        · have := splC_mem c l x (by rw [hs]; simp [h]); rw [List.length_cons]; omega
theorem rep1_len (l : Bs) : (replaceAll l [126] [126, 48]).length ≤ 2 * l.length := by
  rw [replaceAll_W (by simp) (by simp), repW_one]
  induction l with
  | nil => simp
  | cons c t ih =>
    rw [List.flatMap_cons, List.length_append, List.length_cons]
    have : (if c = 126 then [126, 48] else [c] : Bs).length ≤ 2 := by
      by_cases hq : c = 126
      · rw [if_pos hq]; simp
      · rw [if_neg hq]; simp
    omega
end Go.X
end
section
namespace Go.X
open Go Go.Lib
set_option linter.unusedVariables false
def ascii (l : Bs) : Prop := ∀ c ∈ l, c.toNat < 128
theorem containsAny_any (cs : Bs) : ∀ l : Bs, containsAny l cs = l.any fun c => cs.contains c
  | [] => by simp [containsAny, indexAny]
  | c :: l => by
    have ih := containsAny_any cs l
    have hge := indexAny_ge cs l
    rw [List.any_cons, ← ih]
    unfold containsAny
    rw [indexAny]
    by_cases hc : cs.contains c = true
    · rw [if_pos hc, hc]; simp
    · have hc' : cs.contains c = false := by simpa using hc
      rw [if_neg hc, hc', Bool.false_or]
      by_cases h1 : indexAny l cs = -1
      · simp [h1]
      · have hb : (indexAny l cs == -1) = false := by rw [beq_eq_false_iff_ne]; exact h1
        rw [hb, if_neg (by simp), Bool.eq_iff_iff, decide_eq_true_eq, decide_eq_true_eq]; omega
theorem pu10_ok : ∀ (l : Bs) (acc : Nat), l.all isDig = true → acc * 10 ^ l.length + decVal l < 10 ^ 18 → parseUint10 acc l = .ok (acc * 10 ^ l.length + decVal l)
  | [], acc, _, _ => by simp [parseUint10, decVal]
  | c :: t, acc, hd, hl => by
    rw [List.all_cons, Bool.and_eq_true] at hd
    have hc : 48 ≤ c.toNat ∧ c.toNat ≤ 57 := by simpa [isDig] using hd.1
    have e : decVal (c :: t) = (c.toNat - 48) * 10 ^ t.length + decVal t := by
      have := decVal_append [c] t
      rw [List.singleton_append] at this
      rw [this]; simp [decVal]
    have e2 : (acc * 10 + (c.toNat - 48)) * 10 ^ t.length + decVal t = acc * 10 ^ (c :: t).length + decVal (c :: t) := by
      rw [e, List.length_cons, Nat.pow_succ, Nat.add_mul, Nat.mul_assoc, Nat.mul_comm 10 (10 ^ t.length)]; omega
    have hp : 1 ≤ 10 ^ t.length := Nat.one_le_pow _ _ (by decide)
    have hb : acc * 10 + (c.toNat - 48) ≤ acc * 10 ^ (c :: t).length + decVal (c :: t) := by
      rw [← e2]
      calc acc * 10 + (c.toNat - 48) = (acc * 10 + (c.toNat - 48)) * 1 := by omega
        _ ≤ (acc * 10 + (c.toNat - 48)) * 10 ^ t.length := Nat.mul_le_mul_left _ hp
        _ ≤ _ := by omega
    rw [parseUint10, if_pos hc, if_neg (by omega), if_neg (by omega), pu10_ok t _ hd.2 (by rw [e2]; exact hl), e2]
theorem pu10_no : ∀ (l : Bs) (acc : Nat), l.all isDig = false → ∀ v, parseUint10 acc l ≠ .ok v
  | [], acc, h, v => by simp at h
  | c :: t, acc, h, v => by
    rw [parseUint10]
    by_cases hc : 48 ≤ c.toNat ∧ c.toNat ≤ 57
    · have hd : isDig c = true := by simp [isDig, hc]
      rw [List.all_cons, hd, Bool.true_and] at h
      rw [if_pos hc]
      by_cases h1 : 1844674407370955162 ≤ acc
      · rw [if_pos h1]; simp
      · rw [if_neg h1]
        by_cases h2 : 18446744073709551616 ≤ acc * 10 + (c.toNat - 48)
        · rw [if_pos h2]; simp
        · rw [if_neg h2]; exact pu10_no t _ h v
    · rw [if_neg hc]; simp
theorem atoi_ok {l : Bs} (hd : l.all isDig = true) (hne : l ≠ []) (hl : l.length ≤ 9) : atoiAll l = .ok (decVal l : Int) := by
  have hv : decVal l < 10 ^ 9 := decVal_le hl hd
  have hp := pu10_ok l 0 hd (by rw [Nat.zero_mul]; omega)
  rw [Nat.zero_mul, Nat.zero_add] at hp
  obtain ⟨c, t, rfl⟩ := List.exists_cons_of_ne_nil hne
  have hc : 48 ≤ c.toNat ∧ c.toNat ≤ 57 := by
    rw [List.all_cons, Bool.and_eq_true] at hd
    simpa [isDig] using hd.1
  unfold atoiAll
  simp only
  rw [if_neg (by omega)]
  unfold parseMag
  rw [if_neg (by simp), hp]
  have h45 : ¬ c.toNat = 45 := by omega
  simp only [h45, not_false_eq_true, true_and, false_and, if_false]
  rw [if_neg (by omega)]
theorem atoi_no {l : Bs} (hd : l.all isDig = false) (hh : ∀ c, l.head? = some c → c.toNat ≠ 43 ∧ c.toNat ≠ 45) (v : Int) : atoiAll l ≠ .ok v := by
  cases l with
  | nil => simp at hd
  | cons c t =>
    have hc := hh c rfl
    unfold atoiAll
    simp only
    rw [if_neg (by omega)]
    unfold parseMag
    rw [if_neg (by simp)]
    have := pu10_no (c :: t) 0 hd
    cases hp : parseUint10 0 (c :: t) with
    | ok u => exact absurd hp (this u)
    | range => simp
    | _ => simp
theorem atoi_na {l : Bs} (h : ¬ ascii l) (v : Int) : atoiAll l ≠ .ok v := by
  have hno : ∀ m : Bs, ¬ ascii m → ∀ u, parseMag m ≠ .ok u := by
    intro m hm u
    unfold parseMag
    split
    · simp
    · apply pu10_no
      rw [Bool.eq_false_iff]
      intro hd
      apply hm
      intro c hc
      rw [List.all_eq_true] at hd
      have := hd c hc
      simp [isDig] at this; omega
  cases l with
  | nil => exact absurd (fun c hc => by cases hc) h
  | cons c t =>
    unfold atoiAll
    simp only
    have hm : ¬ ascii (if c.toNat = 43 ∨ c.toNat = 45 then t else c :: t) := by
      split
      · rename_i hc
        intro ht
        apply h
        intro d hd
        rcases List.mem_cons.1 hd with rfl | hd
        · omega
        · exact ht d hd
      · exact h
    have := hno _ hm
    cases hp : parseMag (if c.toNat = 43 ∨ c.toNat = 45 then t else c :: t) with
    | ok u => exact absurd hp (this u)
    | range => simp
    | _ => simp
def idxP (l : Bs) : Int × Bool := if l.length < 1 ∨ 9 < l.length ∨ (1 < l.length ∧ l.head? = some 48) then (0, false) else if l.all isDig then ((decVal l : Int), true) else (0, false)
theorem idxP_range {l : Bs} (h : (idxP l).2 = true) : 0 ≤ (idxP l).1 ∧ (idxP l).1 < 1000000000 := by
  unfold idxP at h ⊢
  split
  · rename_i hc; rw [if_pos hc] at h; cases h
  · rename_i hc
    rw [if_neg hc] at h
    split
    · rename_i hd
      have : decVal l < 10 ^ 9 := decVal_le (by omega) hd
      simp only; omega
    · rename_i hd; rw [if_neg hd] at h; cases h
end Go.X
end
section
namespace Go.X
open Go Go.Lib
set_option linter.unusedVariables false
theorem idxOf_ge (x : ByteArray) : ∀ (l : List ByteArray) (i : Nat), (idxFromS l x i = -1 ∧ x ∉ l) ∨ ∃ k : Nat, idxFromS l x i = ((i + k : Nat) : Int) ∧ k < l.length ∧ l[k]? = some x
  | [], i => .inl ⟨rfl, by simp⟩
  | z :: l, i => by
    unfold idxFromS
    by_cases h : z = x
    · rw [if_pos h]; exact .inr ⟨0, rfl, by simp, by simp [h]⟩
    · rw [if_neg h]
      rcases idxOf_ge x l (i + 1) with ⟨h1, h2⟩ | ⟨k, h1, h2, h3⟩
      · exact .inl ⟨h1, by simp [h2]; exact fun e => h e.symm⟩
      · exact .inr ⟨k + 1, by rw [h1]; congr 1; omega, by simp; omega, by simpa using h3⟩
def stepP (v : Tr) (s : ByteArray) : Int := if v.kind = 6 then idxOfS v.keys s else if v.kind = 5 then (if (idxP (lb s)).2 = true ∧ (idxP (lb s)).1 < v.items.length then (idxP (lb s)).1 else -1) else -1
theorem stepP_ok {v : Tr} (hv : nodeOk v = true) (s : ByteArray) : stepP v s = -1 ∨ ∃ k : Nat, stepP v s = k ∧ k < v.items.length := by
  unfold stepP
  by_cases h6 : v.kind = 6
  · rw [if_pos h6]
    have hl : v.keys.length = v.items.length := by
      unfold nodeOk at hv
      simp [h6] at hv
      exact hv.1.2
    rcases idxOf_ge s v.keys 0 with ⟨h1, _⟩ | ⟨k, h1, h2, _⟩
    · exact .inl h1
    · exact .inr ⟨k, by unfold idxOfS; rw [h1]; simp, by omega⟩
  · rw [if_neg h6]
    by_cases h5 : v.kind = 5
    · rw [if_pos h5]
      by_cases hc : (idxP (lb s)).2 = true ∧ (idxP (lb s)).1 < v.items.length
      · rw [if_pos hc]
        have := idxP_range hc.1
        exact .inr ⟨(idxP (lb s)).1.toNat, by omega, by omega⟩
      · rw [if_neg hc]; exact .inl rfl
    · rw [if_neg h5]; exact .inl rfl
def stepsP : Tr → List ByteArray → List (Nat × Tr)
  | _, [] => []
  | v, s :: p => if 0 ≤ stepP v s then (match v.items[(stepP v s).toNat]? with
    | some x => ((stepP v s).toNat, x) :: stepsP x p
    | none => []) else []
def lastT (v : Tr) (l : List (Nat × Tr)) : Tr := (l.getLast?.map (·.2)).getD v
theorem lastT_cons (v : Tr) (q : Nat × Tr) (l : List (Nat × Tr)) : lastT v (q :: l) = lastT q.2 l := by
  unfold lastT
  cases l with
  | nil => rfl
  | cons x l => rw [List.getLast?_cons_cons]; cases h : (x :: l).getLast? with
    | none => simp at h
    | some y => rfl
theorem stepsP_len : ∀ (v : Tr) (p : List ByteArray), (stepsP v p).length ≤ p.length
  | _, [] => by simp [stepsP]
  | v, s :: p => by
    unfold stepsP
    split
    · split
      · rename_i x _
        have := stepsP_len x p
        simp; omega
      · simp
    · simp
theorem stepsP_no {v : Tr} {s : ByteArray} {p : List ByteArray} (h : stepP v s < 0) : stepsP v (s :: p) = [] := by
  unfold stepsP; rw [if_neg (by omega)]
theorem stepsP_yes {v : Tr} {s : ByteArray} {p : List ByteArray} {k : Nat} (h : stepP v s = k) (hk : k < v.items.length) : stepsP v (s :: p) = (k, v.items[k]) :: stepsP v.items[k] p := by
  rw [stepsP, if_pos (by omega), h, Int.toNat_natCast, List.getElem?_eq_getElem hk]
def findP (v : Tr) (p : List ByteArray) : Option Tr := if (stepsP v p).length = p.length then some (lastT v (stepsP v p)) else none
theorem findP_nil (v : Tr) : findP v [] = some v := rfl
theorem findP_no {v : Tr} {s : ByteArray} {p : List ByteArray} (h : stepP v s < 0) : findP v (s :: p) = none := by
  unfold findP; rw [stepsP_no h]; simp
theorem findP_yes {v : Tr} {s : ByteArray} {p : List ByteArray} {k : Nat} (h : stepP v s = k) (hk : k < v.items.length) : findP v (s :: p) = findP v.items[k] p := by
  unfold findP
  rw [stepsP_yes h hk, lastT_cons]
  simp
theorem allT_item {q : Tr → Bool} {v x : Tr} (h : allT q v = true) (hx : x ∈ v.items) : allT q x = true := by
  rw [allT_eq, Bool.and_eq_true, allTL_all, List.all_eq_true] at h
  exact h.2 x hx
theorem allT_here {q : Tr → Bool} {v : Tr} (h : allT q v = true) : q v = true := by
  rw [allT_eq, Bool.and_eq_true] at h; exact h.1
end Go.X
end
section
namespace Go.X
open Go Go.RowKit
set_option linter.unusedVariables false
def OKeys (h : Heap) (ks : List ByteArray) (bs : List Nat) (s : Sl) : Prop :=
  s.len = ks.length ∧ ks.length ≤ 140737488355328 ∧ ks.length ≤ s.cap ∧ ((ks = [] ∧ bs = []) ∨ ∃ b cs, bs = [b] ∧ s.a = some ⟨b, 0, none⟩ ∧ Blk h b cs ∧ cut cs 0 ks.length = ks.map Value.string)
inductive OT (h : Heap) : Tr → List Nat → List Value → Prop where
  | mk {k : Int} {s : ByteArray} {ks : List ByteArray} {xs : List Tr} {sk si : Sl} {bk bb : List Nat} {b : Nat} {cs : Array Value} {bf : Nat → List Nat}
    (hk : OKeys h ks bk sk) (hn : si.len = xs.length ∧ xs.length ≤ 140737488355328 ∧ xs.length ≤ si.cap)
    (hz : (xs = [] ∧ bb = []) ∨ (bb = [b] ∧ si.a = some ⟨b, 0, none⟩ ∧ Blk h b cs ∧ xs.length * 4 ≤ cs.size))
    (hi : ∀ i (hx : i < xs.length), OT h xs[i] (bf i) (cut cs (i * 4) 4))
    (hd : (bk ++ (bb ++ (List.range xs.length).flatMap bf)).Nodup) :
    OT h (.mk k s ks xs) (bk ++ (bb ++ (List.range xs.length).flatMap bf)) [.int .i64 k, .string s, slV sk, slV si]
theorem OKeys.frame {h h' : Heap} {ks : List ByteArray} {bs : List Nat} {s : Sl} (H : OKeys h ks bs s) (hf : ∀ b ∈ bs, h'[b]? = h[b]?) : OKeys h' ks bs s := by
  obtain ⟨h1, h2, h3, h4⟩ := H
  refine ⟨h1, h2, h3, h4.imp id ?_⟩
  rintro ⟨b, cs, rfl, e1, e2, e3⟩
  exact ⟨b, cs, rfl, e1, e2.keep (hf b (by simp)), e3⟩
theorem OT.frame {h h' : Heap} {v : Tr} {bs : List Nat} {cells : List Value} (H : OT h v bs cells) : (∀ b ∈ bs, h'[b]? = h[b]?) → OT h' v bs cells := by
  induction H with
  | @mk k s ks xs sk si bk bb b cs bf hk hn hz hi hd ih =>
    intro hf
    refine OT.mk (b := b) (cs := cs) (hk.frame fun x hx => hf x (by simp [hx])) hn (hz.imp id ?_) (fun i hx => ih i hx fun x hx' => hf x ?_) hd
    · rintro ⟨rfl, e1, e2, e3⟩
      exact ⟨rfl, e1, e2.keep (hf b (by simp)), e3⟩
    · simp only [List.mem_append, List.mem_flatMap, List.mem_range]
      exact .inr (.inr ⟨i, hx, hx'⟩)
theorem OT.nodup {h : Heap} {v : Tr} {bs : List Nat} {cells : List Value} (H : OT h v bs cells) : bs.Nodup := by
  cases H with | mk _ _ _ _ hd => exact hd
theorem OT.lt {h : Heap} {v : Tr} {bs : List Nat} {cells : List Value} (H : OT h v bs cells) : ∀ b ∈ bs, b < h.size := by
  induction H with
  | @mk k s ks xs sk si bk bb b cs bf hk hn hz hi hd ih =>
    intro x hx
    simp only [List.mem_append, List.mem_flatMap, List.mem_range] at hx
    rcases hx with hx | hx | ⟨i, h1, h2⟩
    · obtain ⟨_, _, _, h4⟩ := hk
      rcases h4 with ⟨_, rfl⟩ | ⟨b', cs', rfl, _, e, _⟩
      · cases hx
      · simp at hx; subst hx; exact e.lt
    · rcases hz with ⟨_, rfl⟩ | ⟨rfl, _, e, _⟩
      · cases hx
      · simp at hx; subst hx; exact e.lt
    · exact ih i h1 x h2
theorem OT.len {h : Heap} {v : Tr} {bs : List Nat} {cells : List Value} (H : OT h v bs cells) : cells.length = 4 := by cases H; rfl
theorem OT.one {h : Heap} {v : Tr} {bs : List Nat} {cells : List Value} (H : OT h v bs cells) : ∀ c ∈ cells, c.oneCell' = true := by
  cases H with
  | mk _ _ _ _ _ =>
    intro c hc
    simp at hc
    rcases hc with rfl | rfl | rfl | rfl <;> simp [Value.oneCell', slV]
theorem OT.cells {h : Heap} {v : Tr} {bs : List Nat} {cells : List Value} (H : OT h v bs cells) : ∃ sk si : Sl, cells = [.int .i64 v.kind, .string v.text, slV sk, slV si] := by
  cases H with | mk _ _ _ _ _ => exact ⟨_, _, rfl⟩
theorem OT.rd {h : Heap} {M : Fr} {v : Tr} {bs : List Nat} {cells : List Value} (H : OT h v bs cells) (hM : ∀ b ∈ bs, ∀ cs, Blk h b cs → M b = some cs) : TrRd M v cells := by
  induction H with
  | @mk k s ks xs sk si bk bb b cs bf hk hn hz hi hd ih =>
    obtain ⟨k1, k2, k3, k4⟩ := hk
    have hkr : RowAt M (fun s cs => cs = [.string s]) 1 ks (slV sk) := by
      refine ⟨sk.a, sk.cap, by rw [slV, k1], ⟨k2, k3⟩, ?_⟩
      rcases k4 with ⟨h0, _⟩ | ⟨b', cs', rfl, e1, e2, e3⟩
      · exact .inl h0
      · refine .inr ⟨b', 0, cs', e1, hM b' (by simp) cs' e2, fun i hx => ?_⟩
        have : (cut cs' 0 ks.length)[i]? = some (Value.string ks[i]) := by rw [e3, List.getElem?_map, List.getElem?_eq_getElem hx]; rfl
        unfold cut at this ⊢
        rw [List.getElem?_take, if_pos hx, List.drop_zero] at this
        have hlt := (List.getElem?_eq_some_iff.1 this).1
        rw [Nat.zero_add, Nat.mul_one, List.drop_eq_getElem_cons hlt, List.take_succ_cons, List.take_zero]
        rw [List.getElem?_eq_getElem hlt] at this
        rw [Option.some.inj this]
    have hsi : slV si = .slice si.a xs.length si.cap := by rw [slV, hn.1]
    rw [hsi]
    refine TrRd.mk (b := b) (o := 0) (cs := cs) hkr hn.2 (hz.imp (·.1) ?_) fun i hx => ?_
    · rintro ⟨rfl, e1, e2, _⟩
      exact ⟨e1, hM b (by simp) cs e2⟩
    · rw [Nat.zero_add]
      exact ih i hx fun x hx' cs' e => hM x (by
        simp only [List.mem_append, List.mem_flatMap, List.mem_range]
        exact .inr (.inr ⟨i, hx, hx'⟩)) cs' e
def MxL (M : Fr) (h : Heap) (bs : List Nat) : Fr := fun i => if i ∈ bs then (match h[i]? with
  | some (.cells cs _ _) => some cs
  | _ => none) else M i
theorem MxL.ag {M : Fr} {h : Heap} (ag : AgM M h) (bs : List Nat) : AgM (MxL M h bs) h := by
  intro b c e
  unfold MxL at e
  split at e
  · split at e
    · rename_i cs T m hb
      cases e; exact ⟨T, m, hb⟩
    · cases e
  · exact ag b c e
theorem MxL.later {M : Fr} {h0 h : Heap} (ag : AgM M h0) (k : Keep h0.size h0 h) {bs : List Nat} (hb : ∀ b ∈ bs, h0.size ≤ b) : Later h0 M h (MxL M h bs) where
  keep := k
  le := fun b c e => by
    have := ag.lt e
    unfold MxL; rw [if_neg (fun hm => by have := hb b hm; omega)]; exact e
  old := fun b hlt => by unfold MxL; rw [if_neg (fun hm => by have := hb b hm; omega)]
  ag := MxL.ag (ag.keep k) bs
theorem MxL.at {M : Fr} {h : Heap} {bs : List Nat} {b : Nat} {cs : Array Value} (hb : b ∈ bs) (e : Blk h b cs) : MxL M h bs b = some cs := by
  obtain ⟨T, e⟩ := e
  unfold MxL; rw [if_pos hb, e]
theorem OT.rdv {h : Heap} {M : Fr} {v : Tr} {bs : List Nat} {cells : List Value} (H : OT h v bs cells) : RdV (MxL M h bs) .tree v (.agg cells.toArray) := by
  unfold RdV
  simp only [aggT, if_true]
  exact ⟨cells, rfl, H.rd fun b hb cs e => MxL.at hb e⟩
def upd (cs : Array Value) (o : Nat) (vs : List Value) : Array Value := (cs.toList.take o ++ vs ++ cs.toList.drop (o + vs.length)).toArray
theorem upd_size {cs : Array Value} {o : Nat} {vs : List Value} (h : o + vs.length ≤ cs.size) : (upd cs o vs).size = cs.size := by
  unfold upd; simp; omega
theorem upd_get {cs : Array Value} {o : Nat} {vs : List Value} (h : o + vs.length ≤ cs.size) (q : Nat) : (upd cs o vs).toList[q]? = if q < o then cs.toList[q]? else if q < o + vs.length then vs[q - o]? else cs.toList[q]? := by
  unfold upd
  exact splice_get (by simpa using h) q
theorem cutAt_get {cs : Array Value} {o n i : Nat} : (cut cs o n)[i]? = if i < n then cs.toList[o + i]? else none := by
  unfold cut
  rw [List.getElem?_take]
  split
  · rw [List.getElem?_drop]
  · rfl
theorem cut_upd {cs : Array Value} {o : Nat} {vs : List Value} (h : o + vs.length ≤ cs.size) : cut (upd cs o vs) o vs.length = vs := by
  apply List.ext_getElem?
  intro i
  rw [cutAt_get]
  split
  · rw [upd_get h, if_neg (by omega), if_pos (by omega)]; congr 1; omega
  · rw [List.getElem?_eq_none (by omega)]
theorem cut_upd_ne {cs : Array Value} {o p n : Nat} {vs : List Value} (h : o + vs.length ≤ cs.size) (hne : p + n ≤ o ∨ o + vs.length ≤ p) : cut (upd cs o vs) p n = cut cs p n := by
  apply List.ext_getElem?
  intro i
  rw [cutAt_get, cutAt_get]
  split
  · rw [upd_get h]
    split
    · rfl
    · rw [if_neg (by omega)]
  · rfl
theorem storeN {P : Program} {t : TypeId} (hi : okInfo P t = true) {h : Heap} {b o : Nat} {cs : Array Value} (H : Blk h b cs) {v : Value} {vs : List Value} (hc : v.cells.toList = vs) (hs : szOf P t = vs.length) (hl : o + vs.length ≤ cs.size) (h1 : ∀ u ∈ vs, u.oneCell' = true) {K : Heap → Prop}
    (hK : ∀ h' : Heap, Blk h' b (upd cs o vs) → h'.size = h.size → (∀ j, j ≠ b → h'[j]? = h[j]?) → K h') : XRunU P (Instr.storeAt t (.pointer (some ⟨b, o, none⟩)) v) h K := by
  intro B d
  obtain ⟨T, e⟩ := H
  have hsz : v.cells.size = vs.length := by rw [← hc]; simp
  obtain ⟨h', r1, r2, r3, r4⟩ := storeAt_run (P := P) hi hs e hsz hl (by rw [hc]; exact h1) B d
  refine ⟨d, h', r1, hK h' ⟨T, ?_⟩ r3 r4⟩
  rw [r2]
  unfold upd
  rw [hc]
theorem Blk.ofKeep {h h' : Heap} {b : Nat} {cs : Array Value} (H : Blk h b cs) (k : Keep h.size h h') : Blk h' b cs := H.keepN k H.lt
end Go.X
end
section
namespace Go.X
open Go Go.RowKit
set_option linter.unusedVariables false
def setI (v : Tr) (k : Nat) (x : Tr) : Tr := .mk v.kind v.text v.keys (v.items.set k x)
theorem nd_flat {n : Nat} {bf : Nat → List Nat} : ((List.range n).flatMap bf).Nodup ↔ (∀ i, i < n → (bf i).Nodup) ∧ ∀ i j, i < j → j < n → ∀ x ∈ bf i, ∀ y ∈ bf j, x ≠ y := by
  unfold List.Nodup
  rw [List.pairwise_flatMap, List.pairwise_iff_getElem]
  constructor
  · rintro ⟨h1, h2⟩
    refine ⟨fun i hi => h1 i (by simpa using hi), fun i j hij hj => ?_⟩
    have := h2 i j (by simp; omega) (by simpa using hj) hij
    simpa using this
  · rintro ⟨h1, h2⟩
    refine ⟨fun i hi => h1 i (by simpa using hi), fun i j hi hj hij => ?_⟩
    simp at hi hj
    simpa using h2 i j hij hj
theorem upd_self {cs : Array Value} {o n : Nat} (h : o + n ≤ cs.size) : upd cs o (cut cs o n) = cs := by
  have hl : (cut cs o n).length = n := by unfold cut; simp; omega
  apply Array.ext'
  apply List.ext_getElem?
  intro q
  rw [upd_get (by rw [hl]; exact h)]
  split
  · rfl
  · split
    · rw [cutAt_get, if_pos (by omega)]; congr 1; omega
    · rfl
theorem OT.put1 {h : Heap} {v : Tr} {bs : List Nat} {cells : List Value} (H : OT h v bs cells) {k : Nat} (hk : k < v.items.length) :
    ∃ (b : Nat) (cs : Array Value) (si : Sl) (bx : List Nat), cells[3]? = some (slV si) ∧ si.a = some ⟨b, 0, none⟩ ∧ si.len = v.items.length ∧ Blk h b cs ∧ v.items.length * 4 ≤ cs.size ∧ b ∈ bs ∧ OT h v.items[k] bx (cut cs (k * 4) 4) ∧ b ∉ bx ∧ (∀ c ∈ bx, c ∈ bs) ∧
      ∀ (h' : Heap) (x' : Tr) (cells' : List Value) (b' : List Nat), (∀ c ∈ bs, c ∉ bx → c ≠ b → h'[c]? = h[c]?) → Blk h' b (upd cs (k * 4) cells') → OT h' x' b' cells' → (∀ c ∈ b', c ∈ bx ∨ c ∉ bs) → ∃ bn, OT h' (setI v k x') bn cells ∧ ∀ c ∈ bn, c ∈ bs ∨ c ∈ b' := by
  cases H with
  | @mk kd s ks xs sk si bk bb b cs bf hkk hn hz hi hd =>
    have hk : k < xs.length := hk
    rcases hz with ⟨h0, _⟩ | ⟨rfl, e1, hb, hcs⟩
    · rw [h0] at hk; simp at hk
    rw [List.nodup_append] at hd
    obtain ⟨nd1, nd2, nd3⟩ := hd
    rw [List.nodup_append] at nd2
    obtain ⟨nd4, nd5, nd6⟩ := nd2
    have nf := nd_flat.1 nd5
    have hbn : ∀ i, i < xs.length → b ∉ bf i := fun i hi hm => nd6 b (by simp) b (List.mem_flatMap.2 ⟨i, by simpa using hi, hm⟩) rfl
    have hin : ∀ i, i < xs.length → ∀ c ∈ bf i, c ∈ bk ++ ([b] ++ (List.range xs.length).flatMap bf) := fun i hi c hc => by
      simp only [List.mem_append, List.mem_flatMap, List.mem_range]
      exact .inr (.inr ⟨i, hi, hc⟩)
    refine ⟨b, cs, si, bf k, rfl, e1, hn.1, hb, hcs, by simp, hi k hk, hbn k hk, hin k hk, fun h' x' cells' b' hf hb' ho hfr => ?_⟩
    have hl' : cells'.length = 4 := ho.len
    have dis : ∀ c ∈ b', ∀ i, i < xs.length → i ≠ k → c ∉ bf i := fun c hc i hi' hne hm => by
      rcases hfr c hc with hx | hx
      · rcases Nat.lt_or_gt_of_ne hne with hlt | hlt
        · exact nf.2 i k hlt hk c hm c hx rfl
        · exact nf.2 k i hlt hi' c hx c hm rfl
      · exact hx (hin i hi' c hm)
    have disb : b ∉ b' := fun hm => by
      rcases hfr b hm with hx | hx
      · exact hbn k hk hx
      · exact hx (by simp)
    have disk : ∀ c ∈ bk, c ∉ b' := fun c hc hm => by
      rcases hfr c hm with hx | hx
      · exact nd3 c hc c (by rw [List.mem_append]; exact .inr (List.mem_flatMap.2 ⟨k, by simpa using hk, hx⟩)) rfl
      · exact hx (by simp [hc])
    have hkb : ∀ c ∈ bk, c ≠ b := fun c hc e => nd3 c hc b (by simp) e
    have hkf : ∀ c ∈ bk, ∀ i, i < xs.length → c ∉ bf i := fun c hc i hi' hm => nd3 c hc c (by rw [List.mem_append]; exact .inr (List.mem_flatMap.2 ⟨i, by simpa using hi', hm⟩)) rfl
    have hlen : (xs.set k x').length = xs.length := by simp
    have hu : k * 4 + cells'.length ≤ cs.size := by omega
    refine ⟨bk ++ ([b] ++ (List.range (xs.set k x').length).flatMap (fun i => if i = k then b' else bf i)), ?_, fun c hc => ?_⟩
    · refine OT.mk (b := b) (cs := upd cs (k * 4) cells') (hkk.frame fun c hc => hf c (by simp [hc]) (hkf c hc k hk) (hkb c hc)) (by rw [hlen]; exact hn) (.inr ⟨rfl, e1, hb', by rw [hlen, upd_size hu]; exact hcs⟩) (fun i hx => ?_) ?_
      · rw [hlen] at hx
        by_cases hik : i = k
        · subst hik
          rw [if_pos rfl]
          have := cut_upd hu
          rw [hl'] at this
          rw [this, List.getElem_set_self]; exact ho
        · rw [if_neg hik, List.getElem_set_ne (by omega), cut_upd_ne hu (by omega)]
          refine (hi i hx).frame fun c hc => hf c (hin i hx c hc) (fun hm => ?_) (fun e => hbn i hx (e ▸ hc))
          rcases Nat.lt_or_gt_of_ne hik with hlt | hlt
          · exact nf.2 i k hlt hk c hc c hm rfl
          · exact nf.2 k i hlt hx c hm c hc rfl
      · rw [hlen, List.nodup_append]
        refine ⟨nd1, ?_, fun x hx y hy => ?_⟩
        · rw [List.nodup_append]
          refine ⟨by simp, nd_flat.2 ⟨fun i hi' => ?_, fun i j hij hj x hx y hy e => ?_⟩, fun x hx y hy => ?_⟩
          · by_cases hik : i = k
            · rw [if_pos hik]; exact ho.nodup
            · rw [if_neg hik]; exact nf.1 i hi'
          · subst e
            by_cases hik : i = k
            · rw [if_pos hik] at hx
              rw [if_neg (by omega)] at hy
              exact dis x hx j hj (by omega) hy
            · rw [if_neg hik] at hx
              by_cases hjk : j = k
              · rw [if_pos hjk] at hy
                exact dis x hy i (by omega) hik hx
              · rw [if_neg hjk] at hy
                exact nf.2 i j hij hj x hx x hy rfl
          · simp at hx; subst hx
            obtain ⟨i, hi', hy⟩ := List.mem_flatMap.1 hy
            simp at hi'
            intro e; subst e
            by_cases hik : i = k
            · rw [if_pos hik] at hy; exact disb hy
            · rw [if_neg hik] at hy; exact hbn i hi' hy
        · intro e; subst e
          rw [List.mem_append] at hy
          rcases hy with hy | hy
          · simp at hy; exact hkb x hx hy
          · obtain ⟨i, hi', hy⟩ := List.mem_flatMap.1 hy
            simp at hi'
            by_cases hik : i = k
            · rw [if_pos hik] at hy; exact disk x hx hy
            · rw [if_neg hik] at hy; exact hkf x hx i hi' hy
    · rw [hlen, List.mem_append, List.mem_append] at hc
      rcases hc with hc | hc | hc
      · exact .inl (by simp [hc])
      · exact .inl (by simp at hc; simp [hc])
      · obtain ⟨i, hi', hc⟩ := List.mem_flatMap.1 hc
        simp at hi'
        by_cases hik : i = k
        · rw [if_pos hik] at hc; exact .inr hc
        · rw [if_neg hik] at hc; exact .inl (hin i hi' c hc)
def Foc (h : Heap) (base rb : Nat) (p : Addr) (x : Tr) (T : Tr → Tr) : Prop :=
  ∃ (b o : Nat) (cs : Array Value) (bx : List Nat), p = ⟨b, o, none⟩ ∧ Blk h b cs ∧ o + 4 ≤ cs.size ∧ OT h x bx (cut cs o 4) ∧ b ∉ bx ∧ base ≤ b ∧ (∀ c ∈ bx, base ≤ c) ∧
    ∀ (h' : Heap) (x' : Tr) (cells' : List Value) (b' : List Nat), (∀ c, c ≠ b → c ∉ bx → c < h.size → h'[c]? = h[c]?) → Blk h' b (upd cs o cells') → OT h' x' b' cells' → (∀ c ∈ b', c ∈ bx ∨ h.size ≤ c) →
      ∃ cs' bs', Blk h' rb cs' ∧ cs'.size = 4 ∧ OT h' (T x') bs' cs'.toList ∧ ∀ c ∈ bs', base ≤ c ∧ c ≠ rb
theorem Foc.root {h : Heap} {base rb : Nat} {v : Tr} {bs : List Nat} {cs : Array Value} (hb : Blk h rb cs) (hcs : cs.size = 4) (hbase : base ≤ rb) (H : OT h v bs cs.toList) (hbs : ∀ c ∈ bs, base ≤ c ∧ c ≠ rb) : Foc h base rb ⟨rb, 0, none⟩ v id := by
  have hcut : cut cs 0 4 = cs.toList := by unfold cut; rw [List.drop_zero, List.take_of_length_le (by simp; omega)]
  refine ⟨rb, 0, cs, bs, rfl, hb, by omega, by rw [hcut]; exact H, fun hm => (hbs rb hm).2 rfl, hbase, fun c hc => (hbs c hc).1, fun h' x' cells' b' hf hb' ho hfr => ?_⟩
  have hl := ho.len
  have hu : upd cs 0 cells' = cells'.toArray := by
    unfold upd
    rw [List.take_zero, List.drop_eq_nil_of_le (by simp; omega)]; simp
  rw [hu] at hb'
  refine ⟨cells'.toArray, b', hb', by simpa using hl, ho, fun c hc => ?_⟩
  have hlt := hb.lt
  rcases hfr c hc with hx | hx
  · exact hbs c hx
  · exact ⟨by omega, by omega⟩
theorem Foc.step {h : Heap} {base rb : Nat} {p : Addr} {x : Tr} {T : Tr → Tr} (H : Foc h base rb p x T) {k : Nat} (hk : k < x.items.length) :
    ∃ (si : Sl) (a : Addr), cellH h (p.add 3) = some (slV si) ∧ si.a = some a ∧ si.len = x.items.length ∧ Foc h base rb (a.add (k * 4)) x.items[k] (fun y => T (setI x k y)) := by
  obtain ⟨b, o, cs, bx, rfl, hb, ho, ot, hbx, hbase, hbxb, hcl⟩ := H
  obtain ⟨b2, cs2, si, bx2, e3, ea, el, hb2, hcs2, hm2, ot2, hn2, hsub, hput⟩ := ot.put1 hk
  refine ⟨si, ⟨b2, 0, none⟩, ?_, ea, el, b2, k * 4, cs2, bx2, by rw [add_none, Nat.zero_add], hb2, by omega, ot2, hn2, hbxb b2 hm2, fun c hc => hbxb c (hsub c hc), fun h' x' cells' b' hf hb' ho' hfr => ?_⟩
  · rw [add_none]
    refine hb.cell ?_
    rw [cutAt_get, if_pos (by omega)] at e3
    rw [← Array.getElem?_toList]; exact e3
  · have hne : b ≠ b2 := fun e => hbx (e ▸ hm2)
    obtain ⟨bn, hbn, hbns⟩ := hput h' x' cells' b' (fun c hc hc2 hcb => hf c hcb hc2 (ot.lt c hc)) hb' ho' (fun c hc => (hfr c hc).imp id fun hx hm => by have := ot.lt c hm; omega)
    refine hcl h' (setI x k x') (cut cs o 4) bn (fun c hc hcx hcl => hf c (fun e => hcx (e ▸ hm2)) (fun hm => hcx (hsub c hm)) hcl) ?_ hbn fun c hc => ?_
    · rw [upd_self ho]
      exact hb.keep (hf b hne (fun hm => hbx (hsub b hm)) hb.lt)
    · rcases hbns c hc with hx | hx
      · exact .inl hx
      · rcases hfr c hx with hy | hy
        · exact .inl (hsub c hy)
        · exact .inr hy
theorem Foc.put {h : Heap} {base rb : Nat} {p : Addr} {x : Tr} {T : Tr → Tr} (H : Foc h base rb p x T) {h1 : Heap} (k : Keep h.size h h1) {w : Tr} {bw : List Nat} {cw : List Value} (ow : OT h1 w bw cw) (hbw : ∀ c ∈ bw, h.size ≤ c) :
    ∃ (b o : Nat) (cs : Array Value), p = ⟨b, o, none⟩ ∧ base ≤ b ∧ b < h.size ∧ Blk h1 b cs ∧ o + 4 ≤ cs.size ∧ ∀ h2 : Heap, Blk h2 b (upd cs o cw) → h2.size = h1.size → (∀ j, j ≠ b → h2[j]? = h1[j]?) →
      ∃ cs' bs', Blk h2 rb cs' ∧ cs'.size = 4 ∧ OT h2 (T w) bs' cs'.toList ∧ ∀ c ∈ bs', base ≤ c ∧ c ≠ rb := by
  obtain ⟨b, o, cs, bx, rfl, hb, ho, ot, hbx, hbase, hbxb, hcl⟩ := H
  have hlt := hb.lt
  refine ⟨b, o, cs, rfl, hbase, hlt, hb.ofKeep k, ho, fun h2 hb2 hs2 hf2 => ?_⟩
  refine hcl h2 w cw bw (fun c hc _ hcl => (hf2 c hc).trans (k.get c hcl)) hb2 (ow.frame fun c hc => hf2 c (fun e => by have := hbw c hc; omega)) fun c hc => .inr (hbw c hc)
theorem Foc.keep {h h' : Heap} {base rb : Nat} {p : Addr} {x : Tr} {T : Tr → Tr} (H : Foc h base rb p x T) (k : Keep h.size h h') : Foc h' base rb p x T := by
  obtain ⟨b, o, cs, bx, rfl, hb, ho, ot, hbx, hbase, hbxb, hcl⟩ := H
  have hz := k.size
  refine ⟨b, o, cs, bx, rfl, hb.ofKeep k, ho, ot.frame fun c hc => k.get c (ot.lt c hc), hbx, hbase, hbxb, fun h2 x' cells' b' hf hb' ho' hfr => hcl h2 x' cells' b' (fun c hc hcx hlt => (hf c hc hcx (by omega)).trans (k.get c hlt)) hb' ho' fun c hc => (hfr c hc).imp id fun hx => by omega⟩
end Go.X
end
section
namespace Go.X
open Go Go.Lib
set_option linter.unusedVariables false
def setP : Tr → List ByteArray → Tr → Tr
  | _, [], w => w
  | v, s :: p, w => if 0 ≤ stepP v s then (match v.items[(stepP v s).toNat]? with
    | some x => setI v (stepP v s).toNat (setP x p w)
    | none => v) else v
theorem setP_yes {v : Tr} {s : ByteArray} {p : List ByteArray} {w : Tr} {k : Nat} (h : stepP v s = k) (hk : k < v.items.length) : setP v (s :: p) w = setI v k (setP v.items[k] p w) := by
  rw [setP, if_pos (by omega), h, Int.toNat_natCast, List.getElem?_eq_getElem hk]
theorem stepsP_full {v : Tr} {s : ByteArray} {p : List ByteArray} (h : (stepsP v (s :: p)).length = (s :: p).length) : ∃ (k : Nat) (hk : k < v.items.length), stepP v s = k ∧ stepsP v (s :: p) = (k, v.items[k]) :: stepsP v.items[k] p ∧ (stepsP v.items[k] p).length = p.length := by
  unfold stepsP at h
  split at h
  · rename_i h0
    split at h
    · rename_i x hx
      obtain ⟨hk, e⟩ := List.getElem?_eq_some_iff.1 hx
      refine ⟨(stepP v s).toNat, hk, by omega, stepsP_yes (by omega) hk, ?_⟩
      rw [e]; simpa using h
    · simp at h
  · simp at h
theorem tszL_set : ∀ (l : List Tr) (k : Nat) (h : k < l.length) (y : Tr), tszL (l.set k y) + tsz l[k] = tszL l + tsz y
  | x :: l, 0, _, y => by simp [tszL]; omega
  | x :: l, k + 1, h, y => by
    have := tszL_set l k (by simpa using h) y
    simp [tszL]; omega
theorem setP_sz (w : Tr) : ∀ (p : List ByteArray) (v : Tr), tsz (setP v p w) ≤ tsz v + tsz w
  | [], v => by rw [setP]; omega
  | s :: p, v => by
    rw [setP]
    split
    · split
      · rename_i x hx
        obtain ⟨hk, e⟩ := List.getElem?_eq_some_iff.1 hx
        have h1 := setP_sz w p x
        have h2 := tszL_set v.items _ hk (setP x p w)
        rw [e] at h2
        rw [tsz_eq, tsz_eq v]
        show 1 + tszL (v.items.set _ _) ≤ _
        omega
      · omega
    · omega
theorem setP_tx {m : Nat} {w : Tr} (hw : txB m w) : ∀ (p : List ByteArray) (v : Tr), txB m v → txB m (setP v p w)
  | [], v, _ => by rw [setP]; exact hw
  | s :: p, v, hv => by
    rw [setP]
    split
    · split
      · rename_i x hx
        obtain ⟨hk, e⟩ := List.getElem?_eq_some_iff.1 hx
        have hm : x ∈ v.items := e ▸ List.getElem_mem hk
        have h1 := setP_tx hw p x (txB_item hv hm)
        have h2 := (txB_eq m v).1 hv
        refine (txB_eq m _).2 ⟨h2.1, txBL_mem.2 fun y hy => ?_⟩
        rcases List.mem_or_eq_of_mem_set hy with hy | rfl
        · exact txBL_mem.1 h2.2 y hy
        · exact h1
      · exact hv
    · exact hv
theorem openT_sz {v : Tr} (h : openT v = true) : tsz v ≤ 4096 := by
  unfold openT sizedT at h
  simp at h
  omega
theorem setP_sm {v w : Tr} (hv : Sm v) (hw : Sm w) (h1 : tsz v + tsz w ≤ 1000000000000) (p : List ByteArray) : Sm (setP v p w) := ⟨by have := setP_sz w p v; omega, setP_tx hw.tx p v hv.tx⟩
def zT : Tr := .mk 0 ⟨#[]⟩ [] []
def setR (v : Tr) (p : List ByteArray) (w : Tr) : Tr × Int :=
  if openT v && openT w && rightP p then (if (stepsP v p).length = p.length then (if openT (setP v p w) then (setP v p w, 0) else (zT, 1)) else (zT, 8)) else (zT, 1)
def findR (v : Tr) (p : List ByteArray) : Tr × Bool := if openT v && rightP p then (match findP v p with
  | some x => (x, true)
  | none => (zT, false)) else (zT, false)
end Go.X
end
section
namespace Go.Proofs.YtaoceiiakcpbaaaGreatDoor
open Go Go.X Go.Proofs
set_option linter.unusedVariables false
theorem decVal_prefix {D : Bs} (k : Nat) : decVal (D.take k) ≤ decVal D := by
  conv => rhs; rw [← List.take_append_drop k D, decVal_append]
  have : 1 ≤ 10 ^ (D.drop k).length := Nat.one_le_pow _ _ (by decide)
  calc decVal (D.take k) = decVal (D.take k) * 1 := by omega
    _ ≤ decVal (D.take k) * 10 ^ (D.drop k).length := Nat.mul_le_mul_left _ this
    _ ≤ _ := by omega
set_option maxHeartbeats 1000000 in
theorem refInt_pc {gl : Fr} {n : Nm} (hn : n.2.1.length ≤ 4611686018427387904) {R : Int × Bool → Prop} (h : R (nmInt n)) : PC Tryz.prog gl 131 [Arg.mk tN (nmB n)] [.int .i64, .bool] R := by
  apply pu_scarfref02_Int
  refine refRight_pc hn ?_
  unfold nmInt at h
  cases hr : nmRight n with
  | false =>
    rw [hr] at h
    exact ⟨fun _ => by simpa using h, fun hx => by simp at hx⟩
  | true =>
    obtain ⟨hl, he1, he2⟩ := nmRight_len hr
    rw [hr] at h
    simp only [Bool.true_and] at h
    simp only [bl_size, bl_byteAt]
    rw [w64 (by omega)]
    refine ⟨fun hx => ?_, fun hx => ?_⟩
    · rw [if_neg] at h
      · exact h
      · simp at hx ⊢; omega
    · have hx' : 0 ≤ n.2.2 ∧ (n.2.1.length : Int) + n.2.2 ≤ 19 := by simp at hx; omega
      rw [if_pos (by simp; omega)] at h
      rw [← intDig_val] at h
      have hda := intDig_all hr
      have hDl : ((intDig n).length : Int) = (n.2.1.length : Int) + n.2.2 := by rw [intDig, List.length_append, List.length_replicate]; omega
      rw [← hDl]
      have hat : ∀ k (hk : k < (intDig n).length), k < n.2.1.length → n.2.1[k]?.getD 0 = (intDig n)[k] := by
        intro k hk hk2
        rw [getDlt hk2]; simp only [intDig]; rw [List.getElem_append_left hk2]
      have hat0 : ∀ k (hk : k < (intDig n).length), ¬ k < n.2.1.length → (intDig n)[k] = 48 := by
        intro k hk hk2
        simp only [intDig]; rw [List.getElem_append_right (by omega), List.getElem_replicate]
      generalize intDig n = D at *
      refine ⟨fun v i => ∃ k : Nat, i = k ∧ k ≤ D.length ∧ v = -(decVal (D.take k) : Int) ∧ decVal (D.take k) ≤ 9223372036854775808, fun _ i => D.length - i.toNat, ⟨0, rfl, by omega, by simp [decVal], by simp [decVal]⟩, ?_⟩
      rintro v i ⟨k, rfl, hk, rfl, hv⟩
      refine ⟨fun hc => ?_, fun hc => ?_⟩
      · have hc' : k < D.length := by simp at hc; omega
        have hd := dig_at hda hc'
        have step : ∀ d : Int, d = (D[k].toNat : Int) - 48 → (True ∧ (10 : Int) ≠ 0 ∧
            ((decide ((-(decVal (D.take k) : Int)) < (IntKind.wrap .i64 ((IntKind.wrap .i64 ((-9223372036854775808) + d)).tdiv 10)))) = true → R (0, false)) ∧
            ((decide ((-(decVal (D.take k) : Int)) < (IntKind.wrap .i64 ((IntKind.wrap .i64 ((-9223372036854775808) + d)).tdiv 10)))) = false →
              ((∃ k' : Nat, (IntKind.wrap .i64 ((k : Int) + 1)) = k' ∧ k' ≤ D.length ∧ (IntKind.wrap .i64 ((IntKind.wrap .i64 (10 * (-(decVal (D.take k) : Int)))) - d)) = -(decVal (D.take k') : Int) ∧ decVal (D.take k') ≤ 9223372036854775808) ∧
                D.length - (IntKind.wrap .i64 ((k : Int) + 1)).toNat < D.length - ((k : Int)).toNat))) := by
          intro d hdv
          have hd9 : 0 ≤ d ∧ d ≤ 9 := by omega
          obtain ⟨m, hm⟩ : ∃ m : Nat, (-9223372036854775808 + d : Int) = -(m : Int) := ⟨(9223372036854775808 - d).toNat, by omega⟩
          have e1 : (-(m : Int)).tdiv 10 = -((m / 10 : Nat) : Int) := by rw [Int.neg_tdiv]; rfl
          rw [wrap64 (n := -9223372036854775808 + d) (by omega) (by omega), hm, e1, wrap64 (n := -((m / 10 : Nat) : Int)) (by omega) (by omega)]
          refine ⟨trivial, by omega, fun hq => ?_, fun hq => ?_⟩
          · have hq' : -(decVal (D.take k) : Int) < -((m / 10 : Nat) : Int) := by simpa using hq
            have hbig : 9223372036854775808 < decVal (D.take (k + 1)) := by rw [decVal_take hc']; omega
            have := decVal_prefix (D := D) (k + 1)
            cases hb : n.1 with
            | true => rw [hb] at h; simp only [if_true] at h; rw [if_neg (by omega)] at h; exact h
            | false => rw [hb] at h; simp only [Bool.false_eq_true, if_false] at h; rw [if_neg (by omega)] at h; exact h
          · have hq' : ¬ -(decVal (D.take k) : Int) < -((m / 10 : Nat) : Int) := by simpa using hq
            have hsm : decVal (D.take (k + 1)) ≤ 9223372036854775808 := by rw [decVal_take hc']; omega
            have hsm' := hsm
            rw [decVal_take hc'] at hsm'
            rw [wsucc hc' (by omega), wrap64 (n := 10 * _) (by omega) (by omega), wrap64 (n := 10 * _ - d) (by omega) (by omega)]
            refine ⟨⟨k + 1, rfl, by omega, ?_, hsm⟩, by simp only [Int.toNat_natCast]; omega⟩
            rw [decVal_take hc']; omega
        intro K hK
        simp only [Int.toNat_natCast]
        refine ⟨fun hq => ⟨by simp at hq; omega, hK _ (step _ ?_)⟩, fun hq => hK _ (step _ ?_)⟩
        · have hq' : k < n.2.1.length := by simp at hq; omega
          rw [hat k hc' hq', wrapU8 (by omega) (by omega), w64 (by omega)]
        · have hq' : ¬ k < n.2.1.length := by simp at hq; omega
          rw [hat0 k hc' hq']; rfl
      · have hc' : k = D.length := by simp at hc; omega
        subst hc'
        rw [List.take_length] at hv ⊢
        refine ⟨fun hb => ?_, fun hb => ⟨fun hq => ?_, fun hq => ?_⟩⟩
        · have hb' : n.1 = true := hb
          rw [hb'] at h
          simp only [if_true] at h
          rw [if_pos (by omega)] at h; exact h
        · have hb' : n.1 = false := hb
          rw [hb'] at h
          simp only [Bool.false_eq_true, if_false] at h
          rw [if_neg (by simp at hq; omega)] at h; exact h
        · have hb' : n.1 = false := hb
          rw [hb'] at h
          simp only [Bool.false_eq_true, if_false] at h
          rw [if_pos (by simp at hq; omega)] at h
          rw [wrap64 (n := 0 - -(decVal D : Int)) (by omega) (by simp at hq; omega)]
          have : (0 : Int) - -(decVal D : Int) = decVal D := by omega
          rw [this]; exact h
theorem hole_pc {gl : Fr} (hg : GL gl) {s : Bs} (hs : s.length ≤ 1152921504606846976) {R : Bool → Prop} (h : R (holeOk s)) : PC Tryz.prog gl 97 [Arg.mk .str (bl s)] [.bool] R := by
  apply pu_value_hole
  refine vdecimal_pc hg hs (int_pc hg (n := (decS s).1) (numParse_len s hs) ?_)
  simp only [Bool.cond_false_right]
  exact h
theorem tr_eta (v : Tr) : Tr.mk v.kind v.text v.keys v.items = v := by cases v; rfl
theorem item_at {l : List Tr} {k : Nat} (h : k < l.length) : l[((k : Int)).toNat]? = some l[k] := by rw [Int.toNat_natCast, List.getElem?_eq_getElem h]
theorem Size_pc {gl : Fr} (v : Tr) (hv : tsz v ≤ 1000000000000) {R : Int → Prop} (h : R (tsz v : Int)) : PC Tryz.prog gl 90 [Arg.mk .tree v] [.int .i64] R := by
  apply pu_value_Size
  have hlen := tszL_len v.items
  have hsz := tsz_eq v
  refine ⟨fun n i => ∃ k : Nat, i = k ∧ k ≤ v.items.length ∧ n = ((1 + tszL (v.items.take k) : Nat) : Int), fun _ i => v.items.length - i.toNat, ⟨0, rfl, by omega, by simp [tszL]⟩, ?_⟩
  rintro n i ⟨k, rfl, hk, rfl⟩
  refine ⟨fun hc => ?_, fun hc => ?_⟩
  · have hc' : k < v.items.length := by simp at hc; omega
    refine ⟨v.items[k], ⟨by omega, item_at hc'⟩, ?_⟩
    rw [tr_eta]
    have hm : v.items[k] ∈ v.items := List.getElem_mem hc'
    have hlt := tsz_item hm
    have hle : tszL (v.items.take (k + 1)) ≤ tszL v.items := by
      have := tszL_append (v.items.take (k + 1)) (v.items.drop (k + 1))
      rw [List.take_append_drop] at this; omega
    have ht := tszL_take hc'
    refine Size_pc (v.items[k]) (by omega) ?_
    rw [wsucc hc' (by omega), w64 (by omega)]
    exact ⟨⟨k + 1, rfl, by omega, by omega⟩, by simp only [Int.toNat_natCast]; omega⟩
  · have hc' : k = v.items.length := by simp at hc; omega
    subst hc'
    rw [List.take_length, ← hsz]; exact h
termination_by tsz v
theorem rSize_pc {gl : Fr} (v : Tr) (hv : tsz v ≤ 1000000000000) {R : Int → Prop} (h : R (tsz v : Int)) : PC Tryz.prog gl 71 [Arg.mk .tree v] [.int .i64] R := by
  apply pu_scarfref06_Size
  have hlen := tszL_len v.items
  have hsz := tsz_eq v
  refine ⟨fun n i => ∃ k : Nat, i = k ∧ k ≤ v.items.length ∧ n = ((1 + tszL (v.items.take k) : Nat) : Int), fun _ i => v.items.length - i.toNat, ⟨0, rfl, by omega, by simp [tszL]⟩, ?_⟩
  rintro n i ⟨k, rfl, hk, rfl⟩
  refine ⟨fun hc => ?_, fun hc => ?_⟩
  · have hc' : k < v.items.length := by simp at hc; omega
    refine ⟨v.items[k], ⟨by omega, item_at hc'⟩, ?_⟩
    rw [tr_eta]
    have hm : v.items[k] ∈ v.items := List.getElem_mem hc'
    have hlt := tsz_item hm
    have hle : tszL (v.items.take (k + 1)) ≤ tszL v.items := by
      have := tszL_append (v.items.take (k + 1)) (v.items.drop (k + 1))
      rw [List.take_append_drop] at this; omega
    have ht := tszL_take hc'
    refine rSize_pc (v.items[k]) (by omega) ?_
    rw [wsucc hc' (by omega), w64 (by omega)]
    exact ⟨⟨k + 1, rfl, by omega, by omega⟩, by simp only [Int.toNat_natCast]; omega⟩
  · have hc' : k = v.items.length := by simp at hc; omega
    subst hc'
    rw [List.take_length, ← hsz]; exact h
termination_by tsz v
theorem Depth_pc {gl : Fr} (v : Tr) (hv : tsz v ≤ 1000000000000) {R : Int → Prop} (h : R (tdp v : Int)) : PC Tryz.prog gl 91 [Arg.mk .tree v] [.int .i64] R := by
  apply pu_value_Depth
  have hlen := tszL_len v.items
  have hsz := tsz_eq v
  have hdp := tdpL_le v.items
  have hdq := tdp_eq v
  refine ⟨fun n i => ∃ k : Nat, i = k ∧ k ≤ v.items.length ∧ n = ((tdpL (v.items.take k) : Nat) : Int), fun _ i => v.items.length - i.toNat, ⟨0, rfl, by omega, by simp [tdpL]⟩, ?_⟩
  rintro n i ⟨k, rfl, hk, rfl⟩
  refine ⟨fun hc => ?_, fun hc => ?_⟩
  · have hc' : k < v.items.length := by simp at hc; omega
    refine ⟨v.items[k], ⟨by omega, item_at hc'⟩, ?_⟩
    rw [tr_eta]
    have hm : v.items[k] ∈ v.items := List.getElem_mem hc'
    have hlt := tsz_item hm
    have ht := tdpL_take hc'
    refine Depth_pc (v.items[k]) (by omega) ?_
    rw [wsucc hc' (by omega)]
    refine ⟨⟨k + 1, rfl, by omega, ?_⟩, by simp only [Int.toNat_natCast]; omega⟩
    rw [ht]; split <;> omega
  · have hc' : k = v.items.length := by simp at hc; omega
    subst hc'
    rw [List.take_length, w64 (by omega)]
    have : ((tdpL v.items : Nat) : Int) + 1 = (tdp v : Int) := by omega
    rw [this]; exact h
termination_by tsz v
theorem rDepth_pc {gl : Fr} (v : Tr) (hv : tsz v ≤ 1000000000000) {R : Int → Prop} (h : R (tdp v : Int)) : PC Tryz.prog gl 72 [Arg.mk .tree v] [.int .i64] R := by
  apply pu_scarfref06_Depth
  have hlen := tszL_len v.items
  have hsz := tsz_eq v
  have hdp := tdpL_le v.items
  have hdq := tdp_eq v
  refine ⟨fun n i => ∃ k : Nat, i = k ∧ k ≤ v.items.length ∧ n = ((tdpL (v.items.take k) : Nat) : Int), fun _ i => v.items.length - i.toNat, ⟨0, rfl, by omega, by simp [tdpL]⟩, ?_⟩
  rintro n i ⟨k, rfl, hk, rfl⟩
  refine ⟨fun hc => ?_, fun hc => ?_⟩
  · have hc' : k < v.items.length := by simp at hc; omega
    refine ⟨v.items[k], ⟨by omega, item_at hc'⟩, ?_⟩
    rw [tr_eta]
    have hm : v.items[k] ∈ v.items := List.getElem_mem hc'
    have hlt := tsz_item hm
    have ht := tdpL_take hc'
    refine rDepth_pc (v.items[k]) (by omega) ?_
    rw [wsucc hc' (by omega)]
    refine ⟨⟨k + 1, rfl, by omega, ?_⟩, by simp only [Int.toNat_natCast]; omega⟩
    rw [ht]; split <;> omega
  · have hc' : k = v.items.length := by simp at hc; omega
    subst hc'
    rw [List.take_length, w64 (by omega)]
    have : ((tdpL v.items : Nat) : Int) + 1 = (tdp v : Int) := by omega
    rw [this]; exact h
termination_by tsz v
theorem sized_pc {gl : Fr} {v : Tr} (hv : Sm v) {R : Bool → Prop} (h : R (sizedT v)) : PC Tryz.prog gl 66 [Arg.mk .tree v] [.bool] R := by
  apply pu_value_sized
  rw [tr_eta]
  refine Size_pc v hv.sz ⟨fun r => r = (tdp v : Int), fun _ => Depth_pc v hv.sz rfl, fun r hr => ?_⟩
  have e : (bif decide ((tsz v : Int) ≤ 4096) then decide (r ≤ 32) else false) = sizedT v := by
    unfold sizedT
    cases hc : decide ((tsz v : Int) ≤ 4096) with
    | false => have : decide (tsz v ≤ 4096) = false := by simp at hc ⊢; omega
               rw [this]; rfl
    | true =>
      have : decide (tsz v ≤ 4096) = true := by simp at hc ⊢; omega
      rw [this, hr hc, cond_true, Bool.true_and, Bool.eq_iff_iff]; simp; omega
  rw [e]; exact h
end Go.Proofs.YtaoceiiakcpbaaaGreatDoor
end
section
namespace Go.Proofs.YtaoceiiakcpbaaaGreatDoor
open Go Go.X Go.Proofs
set_option linter.unusedVariables false
set_option maxRecDepth 100000
theorem sh_value_keyed (keys0 : Sl) (n1 : Int) (h : Heap) (R : Value → Heap → Prop)
    (H : let h_1 : Heap := Array.push h (.map #[] 0); ∃ (I_2 : Int → Heap → Prop) (μ_3 : Int → Heap → Nat), I_2 0 h_1 ∧ ∀ x13_4 : Int, ∀ h_5 : Heap, I_2 x13_4 h_5 → (((decide ((x13_4 : Int) < ((keys0.len : Nat) : Int))) = true → ∃ a_6 : Addr, (keys0.a = some a_6 ∧ 0 ≤ (x13_4 : Int) ∧ (x13_4 : Int) < ((keys0.len : Nat) : Int)) ∧ ∃ x16_7 : ByteArray, cellH h_5 (a_6.add ((x13_4 : Int).toNat * 1)) = some (.string x16_7) ∧ ∃ x19_8 : Bool, QExec Tryz.prog (Instr.lookup 142 (.map (some (Array.size h))) (.string x16_7) false) h_5 (.bool x19_8) ∧ ∃ J_9 : Value → Heap → Prop, ((!x19_8) = true → XC Tryz.prog 96 #[.string x16_7] h_5 (fun v_13 h_14 => ∃ x22_15 : Bool, v_13 = .bool x22_15 ∧ J_9 (.bool x22_15) h_14)) ∧ ((!x19_8) = false → ∃ x22_16 : Bool, J_9 (.bool x22_16) h_5) ∧ ((!x19_8) = true → ∀ v_11 h_12, J_9 v_11 h_12 → ∃ x22_17 : Bool, v_11 = .bool x22_17) ∧ ∀ x22_18 : Bool, ∀ h_10, J_9 (.bool x22_18) h_10 → ((bif x19_8 then true else (!x22_18)) = true → R (.bool false) h_10) ∧ ((bif x19_8 then true else (!x22_18)) = false → XRunU Tryz.prog (Instr.mapUpdate 142 (.map (some (Array.size h))) (.string x16_7) (.bool true)) h_10 (fun h_19 => (I_2 (IntKind.wrap .i64 (x13_4 + 1)) h_19 ∧ μ_3 (IntKind.wrap .i64 (x13_4 + 1)) h_19 < μ_3 x13_4 h_5)))) ∧ ((decide ((x13_4 : Int) < ((keys0.len : Nat) : Int))) = false → R (.bool ((((keys0.len : Nat) : Int) : Int) == n1)) h_5))) :
    XC Tryz.prog 94 #[.slice keys0.a keys0.len keys0.cap, .int .i64 n1] h R :=
  XC_of_code Tryz.mixed ⟨[], [(3, [(13, .one (.int .i64))])], []⟩ [.slice keys0.a keys0.len keys0.cap, .int .i64 n1] (rs := [.tmp 4]) (n := 32) Tryz.func94 (by kernel_rfl) (by kernel_rfl) (by kernel_rfl) (by kernel_rfl) (Eq.mp (by kernel_rfl) H)
theorem sh_slices_ContainsFunc_api_Value_api_Value (s0 : Sl) (f1F : FuncId) (f1A : Array Value) (f1C : Array Value) (h : Heap) (R : Value → Heap → Prop)
    (H : XC Tryz.prog 126 #[.slice s0.a s0.len s0.cap, .func (.func f1F) f1A f1C] h (fun v_1 h_2 => ∃ x7_3 : Int, v_1 = .int .i64 x7_3 ∧ R (.bool (decide ((x7_3 : Int) ≥ 0))) h_2)) :
    XC Tryz.prog 92 #[.slice s0.a s0.len s0.cap, .func (.func f1F) f1A f1C] h R :=
  XC_of_code Tryz.mixed ⟨[], [], []⟩ [.slice s0.a s0.len s0.cap, .func (.func f1F) f1A f1C] (rs := [.tmp 4]) (n := 9) Tryz.func92 (by kernel_rfl) (by kernel_rfl) (by kernel_rfl) (by kernel_rfl) (Eq.mp (by kernel_rfl) H)
theorem sh_slices_IndexFunc_api_Value_api_Value (s0 : Sl) (f1F : FuncId) (f1A : Array Value) (f1C : Array Value) (h : Heap) (R : Value → Heap → Prop)
    (H : ∃ (I_1 : Int → Heap → Prop) (μ_2 : Int → Heap → Nat), I_1 0 h ∧ ∀ x8_3 : Int, ∀ h_4 : Heap, I_1 x8_3 h_4 → (((decide ((x8_3 : Int) < ((s0.len : Nat) : Int))) = true → ∃ a_5 : Addr, (s0.a = some a_5 ∧ 0 ≤ (x8_3 : Int) ∧ (x8_3 : Int) < ((s0.len : Nat) : Int)) ∧ ∃ x15_6 : Int, ∃ x15_7 : ByteArray, ∃ x15_8 : Sl, ∃ x15_9 : Sl, ldList h_4 (a_5.add ((x8_3 : Int).toNat * 4)) 0 [.int .i64 x15_6, .string x15_7, .slice x15_8.a x15_8.len x15_8.cap, .slice x15_9.a x15_9.len x15_9.cap] ∧ callable Tryz.prog f1F = true ∧ XC Tryz.prog f1F (f1A ++ #[.agg #[.int .i64 x15_6, .string x15_7, .slice x15_8.a x15_8.len x15_8.cap, .slice x15_9.a x15_9.len x15_9.cap]] ++ f1C) h_4 (fun v_10 h_11 => ∃ x16_12 : Bool, v_10 = .bool x16_12 ∧ (x16_12 = true → R (.int .i64 x8_3) h_11) ∧ (x16_12 = false → (I_1 (IntKind.wrap .i64 (x8_3 + 1)) h_11 ∧ μ_2 (IntKind.wrap .i64 (x8_3 + 1)) h_11 < μ_2 x8_3 h_4)))) ∧ ((decide ((x8_3 : Int) < ((s0.len : Nat) : Int))) = false → R (.int .i64 (-1)) h_4))) :
    XC Tryz.prog 126 #[.slice s0.a s0.len s0.cap, .func (.func f1F) f1A f1C] h R :=
  XC_of_code Tryz.mixed ⟨[], [(2, [(8, .one (.int .i64))])], []⟩ [.slice s0.a s0.len s0.cap, .func (.func f1F) f1A f1C] (rs := [.tmp 4]) (n := 19) Tryz.func126 (by kernel_rfl) (by kernel_rfl) (by kernel_rfl) (by kernel_rfl) (Eq.mp (by kernel_rfl) H)
theorem sh_value_every_1 (x0_0 : Int) (x0_1 : ByteArray) (x0_2 : Sl) (x0_3 : Sl) (c1 : Addr) (h : Heap) (R : Value → Heap → Prop)
    (H : let h_1 : Heap := Array.push h (.cells #[.int .i64 x0_0, .string x0_1, .slice x0_2.a x0_2.len x0_2.cap, .slice x0_3.a x0_3.len x0_3.cap] 34); ∃ x4_2 : Int, ∃ x4_3 : ByteArray, ∃ x4_4 : Sl, ∃ x4_5 : Sl, ldList h_1 ⟨Array.size h, 0, none⟩ 0 [.int .i64 x4_2, .string x4_3, .slice x4_4.a x4_4.len x4_4.cap, .slice x4_5.a x4_5.len x4_5.cap] ∧ ∃ x5_6 : Value, cellH h_1 c1 = some x5_6 ∧ XC Tryz.prog 67 #[.agg #[.int .i64 x4_2, .string x4_3, .slice x4_4.a x4_4.len x4_4.cap, .slice x4_5.a x4_5.len x4_5.cap], x5_6] h_1 (fun v_7 h_8 => ∃ x6_9 : Bool, v_7 = .bool x6_9 ∧ R (.bool (!x6_9)) h_8)) :
    XC Tryz.prog 93 #[.agg #[.int .i64 x0_0, .string x0_1, .slice x0_2.a x0_2.len x0_2.cap, .slice x0_3.a x0_3.len x0_3.cap], .pointer (some c1)] h R :=
  XC_of_code Tryz.mixed ⟨[], [], []⟩ [.agg #[.int .i64 x0_0, .string x0_1, .slice x0_2.a x0_2.len x0_2.cap, .slice x0_3.a x0_3.len x0_3.cap], .pointer (some c1)] (rs := [.tmp 3]) (n := 8) Tryz.func93 (by kernel_rfl) (by kernel_rfl) (by kernel_rfl) (by kernel_rfl) (Eq.mp (by kernel_rfl) H)
theorem sh_value_every (v0_0 : Int) (v0_1 : ByteArray) (v0_2 : Sl) (v0_3 : Sl) (fits1F : FuncId) (fits1A : Array Value) (fits1C : Array Value) (h : Heap) (R : Value → Heap → Prop)
    (H : let h_1 : Heap := Array.push h (.cells #[.int .i64 v0_0, .string v0_1, .slice v0_2.a v0_2.len v0_2.cap, .slice v0_3.a v0_3.len v0_3.cap] 34); let h_2 : Heap := Array.push h_1 (.cells #[.func (.func fits1F) fits1A fits1C] 70); ∃ x5_3 : Value, cellH h_2 ⟨Array.size h_1, 0, none⟩ = some x5_3 ∧ ∃ x6_4 : Int, ∃ x6_5 : ByteArray, ∃ x6_6 : Sl, ∃ x6_7 : Sl, ldList h_2 ⟨Array.size h, 0, none⟩ 0 [.int .i64 x6_4, .string x6_5, .slice x6_6.a x6_6.len x6_6.cap, .slice x6_7.a x6_7.len x6_7.cap] ∧ dynF Tryz.prog x5_3 #[.agg #[.int .i64 x6_4, .string x6_5, .slice x6_6.a x6_6.len x6_6.cap, .slice x6_7.a x6_7.len x6_7.cap]] (fun f_10 as_11 => XC Tryz.prog f_10 as_11 h_2 (fun v_8 h_9 => ∃ x7_12 : Bool, v_8 = .bool x7_12 ∧ ∃ x10_13 : Sl, (x7_12 = true → cellH h_9 (Addr.add ⟨Array.size h, 0, none⟩ 3) = some (.slice x10_13.a x10_13.len x10_13.cap)) ∧ ∃ J_14 : Value → Heap → Prop, (x7_12 = true → XC Tryz.prog 92 #[.slice x10_13.a x10_13.len x10_13.cap, .func (.func 93) #[] #[.pointer (some ⟨Array.size h_1, 0, none⟩)]] h_9 (fun v_18 h_19 => ∃ x12_20 : Bool, v_18 = .bool x12_20 ∧ J_14 (.bool x12_20) h_19)) ∧ (x7_12 = false → ∃ x12_21 : Bool, J_14 (.bool x12_21) h_9) ∧ (x7_12 = true → ∀ v_16 h_17, J_14 v_16 h_17 → ∃ x12_22 : Bool, v_16 = .bool x12_22) ∧ ∀ x12_23 : Bool, ∀ h_15, J_14 (.bool x12_23) h_15 → R (.bool (bif x7_12 then (!x12_23) else false)) h_15))) :
    XC Tryz.prog 67 #[.agg #[.int .i64 v0_0, .string v0_1, .slice v0_2.a v0_2.len v0_2.cap, .slice v0_3.a v0_3.len v0_3.cap], .func (.func fits1F) fits1A fits1C] h R :=
  XC_of_code Tryz.mixed ⟨[], [], []⟩ [.agg #[.int .i64 v0_0, .string v0_1, .slice v0_2.a v0_2.len v0_2.cap, .slice v0_3.a v0_3.len v0_3.cap], .func (.func fits1F) fits1A fits1C] (rs := [.tmp 4]) (n := 15) Tryz.func67 (by kernel_rfl) (by kernel_rfl) (by kernel_rfl) (by kernel_rfl) (Eq.mp (by kernel_rfl) H)
theorem sh_value_Open (v0_0 : Int) (v0_1 : ByteArray) (v0_2 : Sl) (v0_3 : Sl) (h : Heap) (R : Value → Heap → Prop)
    (H : let h_1 : Heap := Array.push h (.cells #[.int .i64 v0_0, .string v0_1, .slice v0_2.a v0_2.len v0_2.cap, .slice v0_3.a v0_3.len v0_3.cap] 34); ∃ x3_2 : Int, ∃ x3_3 : ByteArray, ∃ x3_4 : Sl, ∃ x3_5 : Sl, ldList h_1 ⟨Array.size h, 0, none⟩ 0 [.int .i64 x3_2, .string x3_3, .slice x3_4.a x3_4.len x3_4.cap, .slice x3_5.a x3_5.len x3_5.cap] ∧ XC Tryz.prog 66 #[.agg #[.int .i64 x3_2, .string x3_3, .slice x3_4.a x3_4.len x3_4.cap, .slice x3_5.a x3_5.len x3_5.cap]] h_1 (fun v_6 h_7 => ∃ x4_8 : Bool, v_6 = .bool x4_8 ∧ ∃ x6_9 : Int, ∃ x6_10 : ByteArray, ∃ x6_11 : Sl, ∃ x6_12 : Sl, (x4_8 = true → ldList h_7 ⟨Array.size h, 0, none⟩ 0 [.int .i64 x6_9, .string x6_10, .slice x6_11.a x6_11.len x6_11.cap, .slice x6_12.a x6_12.len x6_12.cap]) ∧ ∃ J_13 : Value → Heap → Prop, (x4_8 = true → XC Tryz.prog 67 #[.agg #[.int .i64 x6_9, .string x6_10, .slice x6_11.a x6_11.len x6_11.cap, .slice x6_12.a x6_12.len x6_12.cap], .func (.func 68) #[] #[]] h_7 (fun v_17 h_18 => ∃ x7_19 : Bool, v_17 = .bool x7_19 ∧ J_13 (.bool x7_19) h_18)) ∧ (x4_8 = false → ∃ x7_20 : Bool, J_13 (.bool x7_20) h_7) ∧ (x4_8 = true → ∀ v_15 h_16, J_13 v_15 h_16 → ∃ x7_21 : Bool, v_15 = .bool x7_21) ∧ ∀ x7_22 : Bool, ∀ h_14, J_13 (.bool x7_22) h_14 → R (.bool (bif x4_8 then x7_22 else false)) h_14)) :
    XC Tryz.prog 45 #[.agg #[.int .i64 v0_0, .string v0_1, .slice v0_2.a v0_2.len v0_2.cap, .slice v0_3.a v0_3.len v0_3.cap]] h R :=
  XC_of_code Tryz.mixed ⟨[], [], []⟩ [.agg #[.int .i64 v0_0, .string v0_1, .slice v0_2.a v0_2.len v0_2.cap, .slice v0_3.a v0_3.len v0_3.cap]] (rs := [.tmp 2]) (n := 9) Tryz.func45 (by kernel_rfl) (by kernel_rfl) (by kernel_rfl) (by kernel_rfl) (Eq.mp (by kernel_rfl) H)
theorem sh_slices_ContainsFunc_string_string (s0 : Sl) (f1F : FuncId) (f1A : Array Value) (f1C : Array Value) (h : Heap) (R : Value → Heap → Prop)
    (H : XC Tryz.prog 59 #[.slice s0.a s0.len s0.cap, .func (.func f1F) f1A f1C] h (fun v_1 h_2 => ∃ x7_3 : Int, v_1 = .int .i64 x7_3 ∧ R (.bool (decide ((x7_3 : Int) ≥ 0))) h_2)) :
    XC Tryz.prog 37 #[.slice s0.a s0.len s0.cap, .func (.func f1F) f1A f1C] h R :=
  XC_of_code Tryz.mixed ⟨[], [], []⟩ [.slice s0.a s0.len s0.cap, .func (.func f1F) f1A f1C] (rs := [.tmp 4]) (n := 9) Tryz.func37 (by kernel_rfl) (by kernel_rfl) (by kernel_rfl) (by kernel_rfl) (Eq.mp (by kernel_rfl) H)
theorem sh_slices_IndexFunc_string_string (s0 : Sl) (f1F : FuncId) (f1A : Array Value) (f1C : Array Value) (h : Heap) (R : Value → Heap → Prop)
    (H : ∃ (I_1 : Int → Heap → Prop) (μ_2 : Int → Heap → Nat), I_1 0 h ∧ ∀ x8_3 : Int, ∀ h_4 : Heap, I_1 x8_3 h_4 → (((decide ((x8_3 : Int) < ((s0.len : Nat) : Int))) = true → ∃ a_5 : Addr, (s0.a = some a_5 ∧ 0 ≤ (x8_3 : Int) ∧ (x8_3 : Int) < ((s0.len : Nat) : Int)) ∧ ∃ x15_6 : ByteArray, cellH h_4 (a_5.add ((x8_3 : Int).toNat * 1)) = some (.string x15_6) ∧ callable Tryz.prog f1F = true ∧ XC Tryz.prog f1F (f1A ++ #[.string x15_6] ++ f1C) h_4 (fun v_7 h_8 => ∃ x16_9 : Bool, v_7 = .bool x16_9 ∧ (x16_9 = true → R (.int .i64 x8_3) h_8) ∧ (x16_9 = false → (I_1 (IntKind.wrap .i64 (x8_3 + 1)) h_8 ∧ μ_2 (IntKind.wrap .i64 (x8_3 + 1)) h_8 < μ_2 x8_3 h_4)))) ∧ ((decide ((x8_3 : Int) < ((s0.len : Nat) : Int))) = false → R (.int .i64 (-1)) h_4))) :
    XC Tryz.prog 59 #[.slice s0.a s0.len s0.cap, .func (.func f1F) f1A f1C] h R :=
  XC_of_code Tryz.mixed ⟨[], [(2, [(8, .one (.int .i64))])], []⟩ [.slice s0.a s0.len s0.cap, .func (.func f1F) f1A f1C] (rs := [.tmp 4]) (n := 19) Tryz.func59 (by kernel_rfl) (by kernel_rfl) (by kernel_rfl) (by kernel_rfl) (Eq.mp (by kernel_rfl) H)
theorem sh_pointer_Right_1 (s0 : ByteArray) (h : Heap) (R : Value → Heap → Prop)
    (H : XC Tryz.prog 39 #[.string s0] h (fun v_1 h_2 => ∃ x4_3 : Bool, v_1 = .bool x4_3 ∧ R (.bool (!x4_3)) h_2)) :
    XC Tryz.prog 38 #[.string s0] h R :=
  XC_of_code Tryz.mixed ⟨[], [], []⟩ [.string s0] (rs := [.tmp 2]) (n := 6) Tryz.func38 (by kernel_rfl) (by kernel_rfl) (by kernel_rfl) (by kernel_rfl) (Eq.mp (by kernel_rfl) H)
theorem sh_pointer_Right (path0 : Sl) (h : Heap) (R : Value → Heap → Prop)
    (H : ∃ J_1 : Value → Heap → Prop, ((decide ((((path0.len : Nat) : Int) : Int) ≤ 64)) = true → XC Tryz.prog 37 #[.slice path0.a path0.len path0.cap, .func (.func 38) #[] #[]] h (fun v_5 h_6 => ∃ x8_7 : Bool, v_5 = .bool x8_7 ∧ J_1 (.bool x8_7) h_6)) ∧ ((decide ((((path0.len : Nat) : Int) : Int) ≤ 64)) = false → ∃ x8_8 : Bool, J_1 (.bool x8_8) h) ∧ ((decide ((((path0.len : Nat) : Int) : Int) ≤ 64)) = true → ∀ v_3 h_4, J_1 v_3 h_4 → ∃ x8_9 : Bool, v_3 = .bool x8_9) ∧ ∀ x8_10 : Bool, ∀ h_2, J_1 (.bool x8_10) h_2 → R (.bool (bif (decide ((((path0.len : Nat) : Int) : Int) ≤ 64)) then (!x8_10) else false)) h_2) :
    XC Tryz.prog 12 #[.slice path0.a path0.len path0.cap] h R :=
  XC_of_code Tryz.mixed ⟨[], [], []⟩ [.slice path0.a path0.len path0.cap] (rs := [.tmp 2]) (n := 11) Tryz.func12 (by kernel_rfl) (by kernel_rfl) (by kernel_rfl) (by kernel_rfl) (Eq.mp (by kernel_rfl) H)
theorem sh_value_clone (v0_0 : Int) (v0_1 : ByteArray) (v0_2 : Sl) (v0_3 : Sl) (h : Heap) (R : Value → Heap → Prop)
    (H : let h_1 : Heap := Array.push h (.cells #[.int .i64 v0_0, .string v0_1, .slice v0_2.a v0_2.len v0_2.cap, .slice v0_3.a v0_3.len v0_3.cap] 34); let h_2 : Heap := Array.push h_1 (.cells #[.int .i64 0, .string (⟨#[]⟩ : ByteArray), .slice none 0 0, .slice none 0 0] 34); ∃ x6_3 : Sl, cellH h_2 (Addr.add ⟨Array.size h, 0, none⟩ 2) = some (.slice x6_3.a x6_3.len x6_3.cap) ∧ ∃ x9_4 : Sl, cellH h_2 (Addr.add ⟨Array.size h, 0, none⟩ 3) = some (.slice x9_4.a x9_4.len x9_4.cap) ∧ XC Tryz.prog 100 #[.slice x6_3.a x6_3.len x6_3.cap] h_2 (fun v_5 h_6 => ∃ x7_7 : Sl, v_5 = .slice x7_7.a x7_7.len x7_7.cap ∧ Keep (Array.size h_2) h_2 h_6 ∧ XC Tryz.prog 101 #[.slice x9_4.a x9_4.len x9_4.cap] h_6 (fun v_8 h_9 => ∃ x10_10 : Sl, v_8 = .slice x10_10.a x10_10.len x10_10.cap ∧ XRunU Tryz.prog (Instr.storeAt 22 (.pointer (some (Addr.add ⟨Array.size h, 0, none⟩ 2))) (.slice x7_7.a x7_7.len x7_7.cap)) h_9 (fun h_11 => XRunU Tryz.prog (Instr.storeAt 32 (.pointer (some (Addr.add ⟨Array.size h, 0, none⟩ 3))) (.slice x10_10.a x10_10.len x10_10.cap)) h_11 (fun h_12 => ∃ x14_13 : Sl, cellH h_12 (Addr.add ⟨Array.size h, 0, none⟩ 3) = some (.slice x14_13.a x14_13.len x14_13.cap) ∧ ∃ (I_14 : Int → Heap → Prop) (μ_15 : Int → Heap → Nat), I_14 0 h_12 ∧ ∀ x16_16 : Int, ∀ h_17 : Heap, I_14 x16_16 h_17 → (((decide ((x16_16 : Int) < ((x14_13.len : Nat) : Int))) = true → ∃ a_18 : Addr, (x14_13.a = some a_18 ∧ 0 ≤ (x16_16 : Int) ∧ (x16_16 : Int) < ((x14_13.len : Nat) : Int)) ∧ ∃ x20_19 : Int, ∃ x20_20 : ByteArray, ∃ x20_21 : Sl, ∃ x20_22 : Sl, ldList h_17 (a_18.add ((x16_16 : Int).toNat * 4)) 0 [.int .i64 x20_19, .string x20_20, .slice x20_21.a x20_21.len x20_21.cap, .slice x20_22.a x20_22.len x20_22.cap] ∧ let h_23 : Heap := Array.push h_17 (.cells #[.int .i64 0, .string (⟨#[]⟩ : ByteArray), .slice none 0 0, .slice none 0 0] 34); XRunU Tryz.prog (Instr.storeAt 34 (.pointer (some ⟨Array.size h_17, 0, none⟩)) (.agg #[.int .i64 x20_19, .string x20_20, .slice x20_21.a x20_21.len x20_21.cap, .slice x20_22.a x20_22.len x20_22.cap])) h_23 (fun h_24 => ∃ x22_25 : Sl, cellH h_24 (Addr.add ⟨Array.size h, 0, none⟩ 3) = some (.slice x22_25.a x22_25.len x22_25.cap) ∧ ∃ x24_26 : Int, ∃ x24_27 : ByteArray, ∃ x24_28 : Sl, ∃ x24_29 : Sl, ldList h_24 ⟨Array.size h_17, 0, none⟩ 0 [.int .i64 x24_26, .string x24_27, .slice x24_28.a x24_28.len x24_28.cap, .slice x24_29.a x24_29.len x24_29.cap] ∧ ∃ a_30 : Addr, (x22_25.a = some a_30 ∧ 0 ≤ (x16_16 : Int) ∧ (x16_16 : Int) < ((x22_25.len : Nat) : Int)) ∧ XC Tryz.prog 70 #[.agg #[.int .i64 x24_26, .string x24_27, .slice x24_28.a x24_28.len x24_28.cap, .slice x24_29.a x24_29.len x24_29.cap]] h_24 (fun v_31 h_32 => ∃ x25_33 : Int, ∃ x25_34 : ByteArray, ∃ x25_35 : Sl, ∃ x25_36 : Sl, v_31 = .agg #[.int .i64 x25_33, .string x25_34, .slice x25_35.a x25_35.len x25_35.cap, .slice x25_36.a x25_36.len x25_36.cap] ∧ Keep (Array.size h_24) h_24 h_32 ∧ XRunU Tryz.prog (Instr.storeAt 34 (.pointer (some (a_30.add ((x16_16 : Int).toNat * 4)))) (.agg #[.int .i64 x25_33, .string x25_34, .slice x25_35.a x25_35.len x25_35.cap, .slice x25_36.a x25_36.len x25_36.cap])) h_32 (fun h_37 => (I_14 (IntKind.wrap .i64 (x16_16 + 1)) h_37 ∧ μ_15 (IntKind.wrap .i64 (x16_16 + 1)) h_37 < μ_15 x16_16 h_17))))) ∧ ((decide ((x16_16 : Int) < ((x14_13.len : Nat) : Int))) = false → ∃ x28_38 : Int, ∃ x28_39 : ByteArray, ∃ x28_40 : Sl, ∃ x28_41 : Sl, ldList h_17 ⟨Array.size h, 0, none⟩ 0 [.int .i64 x28_38, .string x28_39, .slice x28_40.a x28_40.len x28_40.cap, .slice x28_41.a x28_41.len x28_41.cap] ∧ XRunU Tryz.prog (Instr.storeAt 34 (.pointer (some ⟨Array.size h_1, 0, none⟩)) (.agg #[.int .i64 x28_38, .string x28_39, .slice x28_40.a x28_40.len x28_40.cap, .slice x28_41.a x28_41.len x28_41.cap])) h_17 (fun h_42 => ∃ r_43 : Int, ∃ r_44 : ByteArray, ∃ r_45 : Sl, ∃ r_46 : Sl, ldList h_42 ⟨Array.size h_1, 0, none⟩ 0 [.int .i64 r_43, .string r_44, .slice r_45.a r_45.len r_45.cap, .slice r_46.a r_46.len r_46.cap] ∧ R (.agg #[.int .i64 r_43, .string r_44, .slice r_45.a r_45.len r_45.cap, .slice r_46.a r_46.len r_46.cap]) h_42)))))))) :
    XC Tryz.prog 70 #[.agg #[.int .i64 v0_0, .string v0_1, .slice v0_2.a v0_2.len v0_2.cap, .slice v0_3.a v0_3.len v0_3.cap]] h R :=
  XC_of_code Tryz.mixed ⟨[(1, 2000), (5, 2000)], [(3, [(16, .one (.int .i64))])], []⟩ [.agg #[.int .i64 v0_0, .string v0_1, .slice v0_2.a v0_2.len v0_2.cap, .slice v0_3.a v0_3.len v0_3.cap]] (rs := [.cell 2 34]) (n := 29) Tryz.func70 (by kernel_rfl) (by kernel_rfl) (by kernel_rfl) (by kernel_rfl) (Eq.mp (by kernel_rfl) H)
theorem sh_slices_Clone_string_string (s0 : Sl) (h : Heap) (R : Value → Heap → Prop)
    (H : (((s0.a).isNone) = true → R (.slice none 0 0) h) ∧ (((s0.a).isNone) = false → let h_1 : Heap := Array.push h (.cells #[] 9); XRun Tryz.prog (Builtin.append_ #[22, 22] 22 #[.slice (some ⟨Array.size h, 0, none⟩) 0 0, .slice s0.a s0.len s0.cap]) h_1 (fun v_2 h_3 => ∃ x7_4 : Sl, v_2 = .slice x7_4.a x7_4.len x7_4.cap ∧ R (.slice x7_4.a x7_4.len x7_4.cap) h_3))) :
    XC Tryz.prog 100 #[.slice s0.a s0.len s0.cap] h R :=
  XC_of_code Tryz.mixed ⟨[], [], []⟩ [.slice s0.a s0.len s0.cap] (rs := [.tmp 2]) (n := 8) Tryz.func100 (by kernel_rfl) (by kernel_rfl) (by kernel_rfl) (by kernel_rfl) (Eq.mp (by kernel_rfl) H)
theorem sh_slices_Clone_api_Value_api_Value (s0 : Sl) (h : Heap) (R : Value → Heap → Prop)
    (H : (((s0.a).isNone) = true → R (.slice none 0 0) h) ∧ (((s0.a).isNone) = false → let h_1 : Heap := Array.push h (.cells #[] 34); XRun Tryz.prog (Builtin.append_ #[32, 32] 32 #[.slice (some ⟨Array.size h, 0, none⟩) 0 0, .slice s0.a s0.len s0.cap]) h_1 (fun v_2 h_3 => ∃ x7_4 : Sl, v_2 = .slice x7_4.a x7_4.len x7_4.cap ∧ R (.slice x7_4.a x7_4.len x7_4.cap) h_3))) :
    XC Tryz.prog 101 #[.slice s0.a s0.len s0.cap] h R :=
  XC_of_code Tryz.mixed ⟨[], [], []⟩ [.slice s0.a s0.len s0.cap] (rs := [.tmp 2]) (n := 8) Tryz.func101 (by kernel_rfl) (by kernel_rfl) (by kernel_rfl) (by kernel_rfl) (Eq.mp (by kernel_rfl) H)
theorem sh_value_Copy (v0_0 : Int) (v0_1 : ByteArray) (v0_2 : Sl) (v0_3 : Sl) (h : Heap) (R : Value → Heap → Prop)
    (H : let h_1 : Heap := Array.push h (.cells #[.int .i64 v0_0, .string v0_1, .slice v0_2.a v0_2.len v0_2.cap, .slice v0_3.a v0_3.len v0_3.cap] 34); let h_2 : Heap := Array.push h_1 (.cells #[.int .i64 0, .string (⟨#[]⟩ : ByteArray), .slice none 0 0, .slice none 0 0] 34); ∃ x3_3 : Int, ∃ x3_4 : ByteArray, ∃ x3_5 : Sl, ∃ x3_6 : Sl, ldList h_2 ⟨Array.size h, 0, none⟩ 0 [.int .i64 x3_3, .string x3_4, .slice x3_5.a x3_5.len x3_5.cap, .slice x3_6.a x3_6.len x3_6.cap] ∧ XC Tryz.prog 45 #[.agg #[.int .i64 x3_3, .string x3_4, .slice x3_5.a x3_5.len x3_5.cap, .slice x3_6.a x3_6.len x3_6.cap]] h_2 (fun v_7 h_8 => ∃ x4_9 : Bool, v_7 = .bool x4_9 ∧ ((!x4_9) = true → XRunU Tryz.prog (Instr.storeAt 34 (.pointer (some ⟨Array.size h_1, 0, none⟩)) (.agg #[.int .i64 0, .string (⟨#[]⟩ : ByteArray), .slice none 0 0, .slice none 0 0])) h_8 (fun h_10 => ∃ r_11 : Int, ∃ r_12 : ByteArray, ∃ r_13 : Sl, ∃ r_14 : Sl, ldList h_10 ⟨Array.size h_1, 0, none⟩ 0 [.int .i64 r_11, .string r_12, .slice r_13.a r_13.len r_13.cap, .slice r_14.a r_14.len r_14.cap] ∧ R (.agg #[.int .i64 r_11, .string r_12, .slice r_13.a r_13.len r_13.cap, .slice r_14.a r_14.len r_14.cap]) h_10)) ∧ ((!x4_9) = false → ∃ x7_15 : Int, ∃ x7_16 : ByteArray, ∃ x7_17 : Sl, ∃ x7_18 : Sl, ldList h_8 ⟨Array.size h, 0, none⟩ 0 [.int .i64 x7_15, .string x7_16, .slice x7_17.a x7_17.len x7_17.cap, .slice x7_18.a x7_18.len x7_18.cap] ∧ XC Tryz.prog 70 #[.agg #[.int .i64 x7_15, .string x7_16, .slice x7_17.a x7_17.len x7_17.cap, .slice x7_18.a x7_18.len x7_18.cap]] h_8 (fun v_19 h_20 => ∃ x8_21 : Int, ∃ x8_22 : ByteArray, ∃ x8_23 : Sl, ∃ x8_24 : Sl, v_19 = .agg #[.int .i64 x8_21, .string x8_22, .slice x8_23.a x8_23.len x8_23.cap, .slice x8_24.a x8_24.len x8_24.cap] ∧ XRunU Tryz.prog (Instr.storeAt 34 (.pointer (some ⟨Array.size h_1, 0, none⟩)) (.agg #[.int .i64 x8_21, .string x8_22, .slice x8_23.a x8_23.len x8_23.cap, .slice x8_24.a x8_24.len x8_24.cap])) h_20 (fun h_25 => ∃ r_26 : Int, ∃ r_27 : ByteArray, ∃ r_28 : Sl, ∃ r_29 : Sl, ldList h_25 ⟨Array.size h_1, 0, none⟩ 0 [.int .i64 r_26, .string r_27, .slice r_28.a r_28.len r_28.cap, .slice r_29.a r_29.len r_29.cap] ∧ R (.agg #[.int .i64 r_26, .string r_27, .slice r_28.a r_28.len r_28.cap, .slice r_29.a r_29.len r_29.cap]) h_25))))) :
    XC Tryz.prog 47 #[.agg #[.int .i64 v0_0, .string v0_1, .slice v0_2.a v0_2.len v0_2.cap, .slice v0_3.a v0_3.len v0_3.cap]] h R :=
  XC_of_code Tryz.mixed ⟨[], [], []⟩ [.agg #[.int .i64 v0_0, .string v0_1, .slice v0_2.a v0_2.len v0_2.cap, .slice v0_3.a v0_3.len v0_3.cap]] (rs := [.cell 2 34]) (n := 9) Tryz.func47 (by kernel_rfl) (by kernel_rfl) (by kernel_rfl) (by kernel_rfl) (Eq.mp (by kernel_rfl) H)
theorem sh_scarflaw06_Spoil (v0_0 : Int) (v0_1 : ByteArray) (v0_2 : Sl) (v0_3 : Sl) (h : Heap) (R : Value → Heap → Prop)
    (H : let h_1 : Heap := Array.push h (.cells #[.int .i64 v0_0, .string v0_1, .slice v0_2.a v0_2.len v0_2.cap, .slice v0_3.a v0_3.len v0_3.cap] 34); ∃ (I_2 : Int → Heap → Prop) (μ_3 : Int → Heap → Nat), I_2 0 h_1 ∧ ∀ i2_4 : Int, ∀ h_5 : Heap, I_2 i2_4 h_5 → (∃ x6_6 : Sl, cellH h_5 (Addr.add ⟨Array.size h, 0, none⟩ 2) = some (.slice x6_6.a x6_6.len x6_6.cap) ∧ ((decide ((i2_4 : Int) < ((x6_6.len : Nat) : Int))) = true → ∃ x12_7 : Sl, cellH h_5 (Addr.add ⟨Array.size h, 0, none⟩ 2) = some (.slice x12_7.a x12_7.len x12_7.cap) ∧ ∃ a_8 : Addr, (x12_7.a = some a_8 ∧ 0 ≤ (i2_4 : Int) ∧ (i2_4 : Int) < ((x12_7.len : Nat) : Int)) ∧ XRunU Tryz.prog (Instr.storeAt 9 (.pointer (some (a_8.add ((i2_4 : Int).toNat * 1)))) (.string (⟨#[115, 112, 111, 105, 108, 116]⟩ : ByteArray))) h_5 (fun h_9 => (I_2 (IntKind.wrap .i64 (i2_4 + 1)) h_9 ∧ μ_3 (IntKind.wrap .i64 (i2_4 + 1)) h_9 < μ_3 i2_4 h_5))) ∧ ((decide ((i2_4 : Int) < ((x6_6.len : Nat) : Int))) = false → ∃ (I_10 : Int → Heap → Prop) (μ_11 : Int → Heap → Nat), I_10 0 h_5 ∧ ∀ i3_12 : Int, ∀ h_13 : Heap, I_10 i3_12 h_13 → (∃ x17_14 : Sl, cellH h_13 (Addr.add ⟨Array.size h, 0, none⟩ 3) = some (.slice x17_14.a x17_14.len x17_14.cap) ∧ ((decide ((i3_12 : Int) < ((x17_14.len : Nat) : Int))) = true → ∃ x23_15 : Sl, cellH h_13 (Addr.add ⟨Array.size h, 0, none⟩ 3) = some (.slice x23_15.a x23_15.len x23_15.cap) ∧ ∃ a_16 : Addr, (x23_15.a = some a_16 ∧ 0 ≤ (i3_12 : Int) ∧ (i3_12 : Int) < ((x23_15.len : Nat) : Int)) ∧ ∃ x26_17 : Int, ∃ x26_18 : ByteArray, ∃ x26_19 : Sl, ∃ x26_20 : Sl, ldList h_13 (a_16.add ((i3_12 : Int).toNat * 4)) 0 [.int .i64 x26_17, .string x26_18, .slice x26_19.a x26_19.len x26_19.cap, .slice x26_20.a x26_20.len x26_20.cap] ∧ XC Tryz.prog 22 #[.agg #[.int .i64 x26_17, .string x26_18, .slice x26_19.a x26_19.len x26_19.cap, .slice x26_20.a x26_20.len x26_20.cap]] h_13 (fun v_21 h_22 => v_21 = .tuple #[] ∧ ∃ x29_23 : Sl, cellH h_22 (Addr.add ⟨Array.size h, 0, none⟩ 3) = some (.slice x29_23.a x29_23.len x29_23.cap) ∧ ∃ a_24 : Addr, (x29_23.a = some a_24 ∧ 0 ≤ (i3_12 : Int) ∧ (i3_12 : Int) < ((x29_23.len : Nat) : Int)) ∧ XRunU Tryz.prog (Instr.storeAt 3 (.pointer (some (Addr.add (a_24.add ((i3_12 : Int).toNat * 4)) 0))) (.int .i64 (-7))) h_22 (fun h_25 => (I_10 (IntKind.wrap .i64 (i3_12 + 1)) h_25 ∧ μ_11 (IntKind.wrap .i64 (i3_12 + 1)) h_25 < μ_11 i3_12 h_13)))) ∧ ((decide ((i3_12 : Int) < ((x17_14.len : Nat) : Int))) = false → R (.tuple #[]) h_13))))) :
    XC Tryz.prog 22 #[.agg #[.int .i64 v0_0, .string v0_1, .slice v0_2.a v0_2.len v0_2.cap, .slice v0_3.a v0_3.len v0_3.cap]] h R :=
  XC_of_code Tryz.mixed ⟨[], [(2, [(2, .one (.int .i64))]), (6, [(3, .one (.int .i64))])], []⟩ [.agg #[.int .i64 v0_0, .string v0_1, .slice v0_2.a v0_2.len v0_2.cap, .slice v0_3.a v0_3.len v0_3.cap]] (rs := []) (n := 33) Tryz.func22 (by kernel_rfl) (by kernel_rfl) (by kernel_rfl) (by kernel_rfl) (Eq.mp (by kernel_rfl) H)
theorem sh_pointer_Set (v0_0 : Int) (v0_1 : ByteArray) (v0_2 : Sl) (v0_3 : Sl) (path1 : Sl) (w2_0 : Int) (w2_1 : ByteArray) (w2_2 : Sl) (w2_3 : Sl) (h : Heap) (R : Value → Heap → Prop)
    (H : let h_1 : Heap := Array.push h (.cells #[.int .i64 v0_0, .string v0_1, .slice v0_2.a v0_2.len v0_2.cap, .slice v0_3.a v0_3.len v0_3.cap] 34); let h_2 : Heap := Array.push h_1 (.cells #[.int .i64 w2_0, .string w2_1, .slice w2_2.a w2_2.len w2_2.cap, .slice w2_3.a w2_3.len w2_3.cap] 34); let h_3 : Heap := Array.push h_2 (.cells #[.int .i64 0, .string (⟨#[]⟩ : ByteArray), .slice none 0 0, .slice none 0 0] 34); ∃ x15_4 : Int, ∃ x15_5 : ByteArray, ∃ x15_6 : Sl, ∃ x15_7 : Sl, ldList h_3 ⟨Array.size h, 0, none⟩ 0 [.int .i64 x15_4, .string x15_5, .slice x15_6.a x15_6.len x15_6.cap, .slice x15_7.a x15_7.len x15_7.cap] ∧ XC Tryz.prog 45 #[.agg #[.int .i64 x15_4, .string x15_5, .slice x15_6.a x15_6.len x15_6.cap, .slice x15_7.a x15_7.len x15_7.cap]] h_3 (fun v_8 h_9 => ∃ x16_10 : Bool, v_8 = .bool x16_10 ∧ ∃ x19_11 : Int, ∃ x19_12 : ByteArray, ∃ x19_13 : Sl, ∃ x19_14 : Sl, ((!(!x16_10)) = true → ldList h_9 ⟨Array.size h_1, 0, none⟩ 0 [.int .i64 x19_11, .string x19_12, .slice x19_13.a x19_13.len x19_13.cap, .slice x19_14.a x19_14.len x19_14.cap]) ∧ ∃ J_15 : Value → Heap → Prop, ((!(!x16_10)) = true → XC Tryz.prog 45 #[.agg #[.int .i64 x19_11, .string x19_12, .slice x19_13.a x19_13.len x19_13.cap, .slice x19_14.a x19_14.len x19_14.cap]] h_9 (fun v_19 h_20 => ∃ x20_21 : Bool, v_19 = .bool x20_21 ∧ J_15 (.bool x20_21) h_20)) ∧ ((!(!x16_10)) = false → ∃ x20_22 : Bool, J_15 (.bool x20_22) h_9) ∧ ((!(!x16_10)) = true → ∀ v_17 h_18, J_15 v_17 h_18 → ∃ x20_23 : Bool, v_17 = .bool x20_23) ∧ ∀ x20_24 : Bool, ∀ h_16, J_15 (.bool x20_24) h_16 → ∃ J_25 : Value → Heap → Prop, ((!(bif (!x16_10) then true else (!x20_24))) = true → XC Tryz.prog 12 #[.slice path1.a path1.len path1.cap] h_16 (fun v_29 h_30 => ∃ x25_31 : Bool, v_29 = .bool x25_31 ∧ J_25 (.bool x25_31) h_30)) ∧ ((!(bif (!x16_10) then true else (!x20_24))) = false → ∃ x25_32 : Bool, J_25 (.bool x25_32) h_16) ∧ ((!(bif (!x16_10) then true else (!x20_24))) = true → ∀ v_27 h_28, J_25 v_27 h_28 → ∃ x25_33 : Bool, v_27 = .bool x25_33) ∧ ∀ x25_34 : Bool, ∀ h_26, J_25 (.bool x25_34) h_26 → ((bif (bif (!x16_10) then true else (!x20_24)) then true else (!x25_34)) = true → XRunU Tryz.prog (Instr.storeAt 34 (.pointer (some ⟨Array.size h_2, 0, none⟩)) (.agg #[.int .i64 0, .string (⟨#[]⟩ : ByteArray), .slice none 0 0, .slice none 0 0])) h_26 (fun h_35 => ∃ r_36 : Int, ∃ r_37 : ByteArray, ∃ r_38 : Sl, ∃ r_39 : Sl, ldList h_35 ⟨Array.size h_2, 0, none⟩ 0 [.int .i64 r_36, .string r_37, .slice r_38.a r_38.len r_38.cap, .slice r_39.a r_39.len r_39.cap] ∧ R (.tuple #[.agg #[.int .i64 r_36, .string r_37, .slice r_38.a r_38.len r_38.cap, .slice r_39.a r_39.len r_39.cap], .int .i64 1]) h_35)) ∧ ((bif (bif (!x16_10) then true else (!x20_24)) then true else (!x25_34)) = false → ∃ x30_40 : Int, ∃ x30_41 : ByteArray, ∃ x30_42 : Sl, ∃ x30_43 : Sl, ldList h_26 ⟨Array.size h, 0, none⟩ 0 [.int .i64 x30_40, .string x30_41, .slice x30_42.a x30_42.len x30_42.cap, .slice x30_43.a x30_43.len x30_43.cap] ∧ XC Tryz.prog 46 #[.agg #[.int .i64 x30_40, .string x30_41, .slice x30_42.a x30_42.len x30_42.cap, .slice x30_43.a x30_43.len x30_43.cap], .slice path1.a path1.len path1.cap] h_26 (fun v_44 h_45 => ∃ x32_46 : Sl, ∃ x32_47 : Int, ∃ x32_48 : ByteArray, ∃ x32_49 : Sl, ∃ x32_50 : Sl, ∃ x32_51 : Bool, v_44 = .tuple #[.slice x32_46.a x32_46.len x32_46.cap, .agg #[.int .i64 x32_47, .string x32_48, .slice x32_49.a x32_49.len x32_49.cap, .slice x32_50.a x32_50.len x32_50.cap], .bool x32_51] ∧ let h_52 : Heap := Array.push h_45 (.cells #[.int .i64 0, .string (⟨#[]⟩ : ByteArray), .slice none 0 0, .slice none 0 0] 34); XRunU Tryz.prog (Instr.storeAt 34 (.pointer (some ⟨Array.size h_45, 0, none⟩)) (.agg #[.int .i64 x32_47, .string x32_48, .slice x32_49.a x32_49.len x32_49.cap, .slice x32_50.a x32_50.len x32_50.cap])) h_52 (fun h_53 => ((!x32_51) = true → XRunU Tryz.prog (Instr.storeAt 34 (.pointer (some ⟨Array.size h_2, 0, none⟩)) (.agg #[.int .i64 0, .string (⟨#[]⟩ : ByteArray), .slice none 0 0, .slice none 0 0])) h_53 (fun h_54 => ∃ r_55 : Int, ∃ r_56 : ByteArray, ∃ r_57 : Sl, ∃ r_58 : Sl, ldList h_54 ⟨Array.size h_2, 0, none⟩ 0 [.int .i64 r_55, .string r_56, .slice r_57.a r_57.len r_57.cap, .slice r_58.a r_58.len r_58.cap] ∧ R (.tuple #[.agg #[.int .i64 r_55, .string r_56, .slice r_57.a r_57.len r_57.cap, .slice r_58.a r_58.len r_58.cap], .int .i64 8]) h_54)) ∧ ((!x32_51) = false → ∃ x39_59 : Int, ∃ x39_60 : ByteArray, ∃ x39_61 : Sl, ∃ x39_62 : Sl, ldList h_53 ⟨Array.size h, 0, none⟩ 0 [.int .i64 x39_59, .string x39_60, .slice x39_61.a x39_61.len x39_61.cap, .slice x39_62.a x39_62.len x39_62.cap] ∧ XC Tryz.prog 47 #[.agg #[.int .i64 x39_59, .string x39_60, .slice x39_61.a x39_61.len x39_61.cap, .slice x39_62.a x39_62.len x39_62.cap]] h_53 (fun v_63 h_64 => ∃ x40_65 : Int, ∃ x40_66 : ByteArray, ∃ x40_67 : Sl, ∃ x40_68 : Sl, v_63 = .agg #[.int .i64 x40_65, .string x40_66, .slice x40_67.a x40_67.len x40_67.cap, .slice x40_68.a x40_68.len x40_68.cap] ∧ let h_69 : Heap := Array.push h_64 (.cells #[.int .i64 0, .string (⟨#[]⟩ : ByteArray), .slice none 0 0, .slice none 0 0] 34); XRunU Tryz.prog (Instr.storeAt 34 (.pointer (some ⟨Array.size h_64, 0, none⟩)) (.agg #[.int .i64 x40_65, .string x40_66, .slice x40_67.a x40_67.len x40_67.cap, .slice x40_68.a x40_68.len x40_68.cap])) h_69 (fun h_70 => ∃ (I_71 : Option Addr → Int → Heap → Prop) (μ_72 : Option Addr → Int → Heap → Nat), I_71 (some ⟨Array.size h_64, 0, none⟩) 0 h_70 ∧ ∀ place12_73 : Option Addr, ∀ x43_74 : Int, ∀ h_75 : Heap, I_71 place12_73 x43_74 h_75 → (((decide ((x43_74 : Int) < ((x32_46.len : Nat) : Int))) = true → ∃ a_76 : Addr, (x32_46.a = some a_76 ∧ 0 ≤ (x43_74 : Int) ∧ (x43_74 : Int) < ((x32_46.len : Nat) : Int)) ∧ ∃ x46_77 : Int, cellH h_75 (a_76.add ((x43_74 : Int).toNat * 1)) = some (.int .i64 x46_77) ∧ ∃ a_78 : Addr, place12_73 = some a_78 ∧ ∃ x50_79 : Sl, cellH h_75 (Addr.add a_78 3) = some (.slice x50_79.a x50_79.len x50_79.cap) ∧ ∃ a_80 : Addr, (x50_79.a = some a_80 ∧ 0 ≤ (x46_77 : Int) ∧ (x46_77 : Int) < ((x50_79.len : Nat) : Int)) ∧ (I_71 (some (a_80.add ((x46_77 : Int).toNat * 4))) (IntKind.wrap .i64 (x43_74 + 1)) h_75 ∧ μ_72 (some (a_80.add ((x46_77 : Int).toNat * 4))) (IntKind.wrap .i64 (x43_74 + 1)) h_75 < μ_72 place12_73 x43_74 h_75)) ∧ ((decide ((x43_74 : Int) < ((x32_46.len : Nat) : Int))) = false → ∃ x55_81 : Int, ∃ x55_82 : ByteArray, ∃ x55_83 : Sl, ∃ x55_84 : Sl, ldList h_75 ⟨Array.size h_1, 0, none⟩ 0 [.int .i64 x55_81, .string x55_82, .slice x55_83.a x55_83.len x55_83.cap, .slice x55_84.a x55_84.len x55_84.cap] ∧ XC Tryz.prog 47 #[.agg #[.int .i64 x55_81, .string x55_82, .slice x55_83.a x55_83.len x55_83.cap, .slice x55_84.a x55_84.len x55_84.cap]] h_75 (fun v_85 h_86 => ∃ x56_87 : Int, ∃ x56_88 : ByteArray, ∃ x56_89 : Sl, ∃ x56_90 : Sl, v_85 = .agg #[.int .i64 x56_87, .string x56_88, .slice x56_89.a x56_89.len x56_89.cap, .slice x56_90.a x56_90.len x56_90.cap] ∧ ∃ a_91 : Addr, place12_73 = some a_91 ∧ XRunU Tryz.prog (Instr.storeAt 34 (.pointer (some a_91)) (.agg #[.int .i64 x56_87, .string x56_88, .slice x56_89.a x56_89.len x56_89.cap, .slice x56_90.a x56_90.len x56_90.cap])) h_86 (fun h_92 => ∃ x58_93 : Int, ∃ x58_94 : ByteArray, ∃ x58_95 : Sl, ∃ x58_96 : Sl, ldList h_92 ⟨Array.size h_64, 0, none⟩ 0 [.int .i64 x58_93, .string x58_94, .slice x58_95.a x58_95.len x58_95.cap, .slice x58_96.a x58_96.len x58_96.cap] ∧ XC Tryz.prog 45 #[.agg #[.int .i64 x58_93, .string x58_94, .slice x58_95.a x58_95.len x58_95.cap, .slice x58_96.a x58_96.len x58_96.cap]] h_92 (fun v_97 h_98 => ∃ x59_99 : Bool, v_97 = .bool x59_99 ∧ ((!x59_99) = true → XRunU Tryz.prog (Instr.storeAt 34 (.pointer (some ⟨Array.size h_2, 0, none⟩)) (.agg #[.int .i64 0, .string (⟨#[]⟩ : ByteArray), .slice none 0 0, .slice none 0 0])) h_98 (fun h_100 => ∃ r_101 : Int, ∃ r_102 : ByteArray, ∃ r_103 : Sl, ∃ r_104 : Sl, ldList h_100 ⟨Array.size h_2, 0, none⟩ 0 [.int .i64 r_101, .string r_102, .slice r_103.a r_103.len r_103.cap, .slice r_104.a r_104.len r_104.cap] ∧ R (.tuple #[.agg #[.int .i64 r_101, .string r_102, .slice r_103.a r_103.len r_103.cap, .slice r_104.a r_104.len r_104.cap], .int .i64 1]) h_100)) ∧ ((!x59_99) = false → ∃ x62_105 : Int, ∃ x62_106 : ByteArray, ∃ x62_107 : Sl, ∃ x62_108 : Sl, ldList h_98 ⟨Array.size h_64, 0, none⟩ 0 [.int .i64 x62_105, .string x62_106, .slice x62_107.a x62_107.len x62_107.cap, .slice x62_108.a x62_108.len x62_108.cap] ∧ XRunU Tryz.prog (Instr.storeAt 34 (.pointer (some ⟨Array.size h_2, 0, none⟩)) (.agg #[.int .i64 x62_105, .string x62_106, .slice x62_107.a x62_107.len x62_107.cap, .slice x62_108.a x62_108.len x62_108.cap])) h_98 (fun h_109 => ∃ r_110 : Int, ∃ r_111 : ByteArray, ∃ r_112 : Sl, ∃ r_113 : Sl, ldList h_109 ⟨Array.size h_2, 0, none⟩ 0 [.int .i64 r_110, .string r_111, .slice r_112.a r_112.len r_112.cap, .slice r_113.a r_113.len r_113.cap] ∧ R (.tuple #[.agg #[.int .i64 r_110, .string r_111, .slice r_112.a r_112.len r_112.cap, .slice r_113.a r_113.len r_113.cap], .int .i64 0]) h_109))))))))))))))) :
    XC Tryz.prog 20 #[.agg #[.int .i64 v0_0, .string v0_1, .slice v0_2.a v0_2.len v0_2.cap, .slice v0_3.a v0_3.len v0_3.cap], .slice path1.a path1.len path1.cap, .agg #[.int .i64 w2_0, .string w2_1, .slice w2_2.a w2_2.len w2_2.cap, .slice w2_3.a w2_3.len w2_3.cap]] h R :=
  XC_of_code Tryz.mixed ⟨[], [(9, [(12, .one (.ptr)), (43, .one (.int .i64))])], []⟩ [.agg #[.int .i64 v0_0, .string v0_1, .slice v0_2.a v0_2.len v0_2.cap, .slice v0_3.a v0_3.len v0_3.cap], .slice path1.a path1.len path1.cap, .agg #[.int .i64 w2_0, .string w2_1, .slice w2_2.a w2_2.len w2_2.cap, .slice w2_3.a w2_3.len w2_3.cap]] (rs := [.cell 6 34, .tmp 7]) (n := 63) Tryz.func20 (by kernel_rfl) (by kernel_rfl) (by kernel_rfl) (by kernel_rfl) (Eq.mp (by kernel_rfl) H)
theorem sh_pointer_walk (v0_0 : Int) (v0_1 : ByteArray) (v0_2 : Sl) (v0_3 : Sl) (path1 : Sl) (h : Heap) (R : Value → Heap → Prop)
    (H : let h_1 : Heap := Array.push h (.cells #[.int .i64 v0_0, .string v0_1, .slice v0_2.a v0_2.len v0_2.cap, .slice v0_3.a v0_3.len v0_3.cap] 34); let h_2 : Heap := Array.push h_1 (.cells #[.slice path1.a path1.len path1.cap] 22); R (.func (.func 98) #[] #[.pointer (some ⟨Array.size h_1, 0, none⟩), .pointer (some ⟨Array.size h, 0, none⟩)]) h_2) :
    XC Tryz.prog 69 #[.agg #[.int .i64 v0_0, .string v0_1, .slice v0_2.a v0_2.len v0_2.cap, .slice v0_3.a v0_3.len v0_3.cap], .slice path1.a path1.len path1.cap] h R :=
  XC_of_code Tryz.mixed ⟨[], [], []⟩ [.agg #[.int .i64 v0_0, .string v0_1, .slice v0_2.a v0_2.len v0_2.cap, .slice v0_3.a v0_3.len v0_3.cap], .slice path1.a path1.len path1.cap] (rs := [.tmp 4]) (n := 6) Tryz.func69 (by kernel_rfl) (by kernel_rfl) (by kernel_rfl) (by kernel_rfl) (Eq.mp (by kernel_rfl) H)
theorem sh_strings_Builder_WriteByte (b0 : Option Addr) (c1 : Int) (h : Heap) (R : Value → Heap → Prop)
    (H : XC Tryz.prog 57 #[.pointer b0] h (fun v_1 h_2 => v_1 = .tuple #[] ∧ ∃ a_3 : Addr, b0 = some a_3 ∧ ∃ x11_4 : Sl, cellH h_2 (Addr.add a_3 1) = some (.slice x11_4.a x11_4.len x11_4.cap) ∧ let h_5 : Heap := Array.push h_2 (.cells #[.int .u8 c1] 5); XRun Tryz.prog (Builtin.append_ #[55, 55] 55 #[.slice x11_4.a x11_4.len x11_4.cap, .slice (some ⟨Array.size h_2, 0, none⟩) 1 1]) h_5 (fun v_6 h_7 => ∃ x14_8 : Sl, v_6 = .slice x14_8.a x14_8.len x14_8.cap ∧ ∃ a_9 : Addr, b0 = some a_9 ∧ XRunU Tryz.prog (Instr.storeAt 55 (.pointer (some (Addr.add a_9 1))) (.slice x14_8.a x14_8.len x14_8.cap)) h_7 (fun h_10 => R (.nilIface) h_10)))) :
    XC Tryz.prog 33 #[.pointer b0, .int .u8 c1] h R :=
  XC_of_code Tryz.mixed ⟨[], [], []⟩ [.pointer b0, .int .u8 c1] (rs := [.tmp 4]) (n := 17) Tryz.func33 (by kernel_rfl) (by kernel_rfl) (by kernel_rfl) (by kernel_rfl) (Eq.mp (by kernel_rfl) H)
theorem sh_strings_Builder_WriteString (b0 : Option Addr) (s1 : ByteArray) (h : Heap) (R : Value → Heap → Prop)
    (H : XC Tryz.prog 57 #[.pointer b0] h (fun v_1 h_2 => v_1 = .tuple #[] ∧ ∃ a_3 : Addr, b0 = some a_3 ∧ ∃ x12_4 : Sl, cellH h_2 (Addr.add a_3 1) = some (.slice x12_4.a x12_4.len x12_4.cap) ∧ XRun Tryz.prog (Builtin.append_ #[55, 9] 55 #[.slice x12_4.a x12_4.len x12_4.cap, .string s1]) h_2 (fun v_5 h_6 => ∃ x14_7 : Sl, v_5 = .slice x14_7.a x14_7.len x14_7.cap ∧ ∃ a_8 : Addr, b0 = some a_8 ∧ XRunU Tryz.prog (Instr.storeAt 55 (.pointer (some (Addr.add a_8 1))) (.slice x14_7.a x14_7.len x14_7.cap)) h_6 (fun h_9 => R (.tuple #[.int .i64 ((s1).size : Int), .nilIface]) h_9)))) :
    XC Tryz.prog 34 #[.pointer b0, .string s1] h R :=
  XC_of_code Tryz.mixed ⟨[], [], []⟩ [.pointer b0, .string s1] (rs := [.tmp 4, .tmp 5]) (n := 19) Tryz.func34 (by kernel_rfl) (by kernel_rfl) (by kernel_rfl) (by kernel_rfl) (Eq.mp (by kernel_rfl) H)
theorem sh_pointer_Text (path0 : Sl) (h : Heap) (R : Value → Heap → Prop)
    (H : XC Tryz.prog 12 #[.slice path0.a path0.len path0.cap] h (fun v_1 h_2 => ∃ x8_3 : Bool, v_1 = .bool x8_3 ∧ ((!x8_3) = true → R (.tuple #[.string (⟨#[]⟩ : ByteArray), .int .i64 1]) h_2) ∧ ((!x8_3) = false → let h_4 : Heap := Array.push h_2 (.cells #[.pointer none, .slice none 0 0] 57); ∃ (I_5 : Int → Heap → Prop) (μ_6 : Int → Heap → Nat), I_5 0 h_4 ∧ ∀ x12_7 : Int, ∀ h_8 : Heap, I_5 x12_7 h_8 → (((decide ((x12_7 : Int) < ((path0.len : Nat) : Int))) = true → ∃ a_9 : Addr, (path0.a = some a_9 ∧ 0 ≤ (x12_7 : Int) ∧ (x12_7 : Int) < ((path0.len : Nat) : Int)) ∧ ∃ x15_10 : ByteArray, cellH h_8 (a_9.add ((x12_7 : Int).toNat * 1)) = some (.string x15_10) ∧ XC Tryz.prog 33 #[.pointer (some ⟨Array.size h_2, 0, none⟩), .int .u8 47] h_8 (fun v_11 h_12 => ∃ x16_13 : Value, v_11 = x16_13 ∧ XC Tryz.prog 35 #[.string x15_10, .string (⟨#[126]⟩ : ByteArray), .string (⟨#[126, 48]⟩ : ByteArray)] h_12 (fun v_14 h_15 => ∃ x18_16 : ByteArray, v_14 = .string x18_16 ∧ XC Tryz.prog 35 #[.string x18_16, .string (⟨#[47]⟩ : ByteArray), .string (⟨#[126, 49]⟩ : ByteArray)] h_15 (fun v_17 h_18 => ∃ x19_19 : ByteArray, v_17 = .string x19_19 ∧ XC Tryz.prog 34 #[.pointer (some ⟨Array.size h_2, 0, none⟩), .string x19_19] h_18 (fun v_20 h_21 => ∃ x20_22 : Int, ∃ x20_23 : Value, v_20 = .tuple #[.int .i64 x20_22, x20_23] ∧ (I_5 (IntKind.wrap .i64 (x12_7 + 1)) h_21 ∧ μ_6 (IntKind.wrap .i64 (x12_7 + 1)) h_21 < μ_6 x12_7 h_8)))))) ∧ ((decide ((x12_7 : Int) < ((path0.len : Nat) : Int))) = false → XC Tryz.prog 36 #[.pointer (some ⟨Array.size h_2, 0, none⟩)] h_8 (fun v_24 h_25 => ∃ x22_26 : ByteArray, v_24 = .string x22_26 ∧ R (.tuple #[.string x22_26, .int .i64 0]) h_25)))))) :
    XC Tryz.prog 11 #[.slice path0.a path0.len path0.cap] h R :=
  XC_of_code Tryz.mixed ⟨[], [(5, [(12, .one (.int .i64))])], []⟩ [.slice path0.a path0.len path0.cap] (rs := [.tmp 2, .tmp 3]) (n := 23) Tryz.func11 (by kernel_rfl) (by kernel_rfl) (by kernel_rfl) (by kernel_rfl) (Eq.mp (by kernel_rfl) H)
end Go.Proofs.YtaoceiiakcpbaaaGreatDoor
end
