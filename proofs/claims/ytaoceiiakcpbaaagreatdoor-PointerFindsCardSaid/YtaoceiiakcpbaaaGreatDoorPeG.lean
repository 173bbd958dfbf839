/- A part of the proof: nothing is stated here for its own sake. -/
import Derived.Test.YtaoceiiakcpbaaaGreatDoorPeF
section
namespace Go.Proofs.YtaoceiiakcpbaaaGreatDoor
open Go Go.X Go.Proofs
set_option linter.unusedVariables false
theorem rFind_pc {gl : Fr} (hg : GL gl) {v : Tr} (hv : Sm v) {p : List ByteArray} (hp : SL p) {R : Tr × Bool → Prop} (hR : R (findR v p)) : PC Tryz.prog gl 19 [Arg.mk .tree v, Arg.mk (.row .str) p] [.tree, .bool] R := by
  have hpn := hp.n
  apply pu_scarfref07_Find
  rw [tr_eta]
  unfold findR at hR
  refine rOpen_pc hg hv (rRight_pc hp ⟨fun hx => ?_, fun hx => ?_⟩)
  · have : (openT v && rightP p) = false := by
      cases ho : openT v with
      | false => rfl
      | true => rw [ho] at hx; simpa using hx
    rw [this] at hR; exact hR
  · have ho : openT v = true ∧ rightP p = true := by
      cases ho : openT v with
      | false => rw [ho] at hx; cases hx
      | true => rw [ho] at hx; exact ⟨rfl, by simpa using hx⟩
    rw [ho.1, ho.2, Bool.and_true, if_pos rfl] at hR
    refine ⟨fun i a0 a1 a2 a3 b0 b1 b2 b3 => ∃ (k : Nat) (w : Tr), i = k ∧ k ≤ p.length ∧ a0 = w.kind ∧ a1 = w.text ∧ a2 = w.keys ∧ a3 = w.items ∧ Sm w ∧ openT w = true ∧ findP v p = findP w (p.drop k), fun i _ _ _ _ _ _ _ _ => p.length - i.toNat, ⟨0, v, rfl, by omega, rfl, rfl, rfl, rfl, hv, ho.1, by simp⟩, ?_⟩
    rintro i a0 a1 a2 a3 b0 b1 b2 b3 ⟨k, w, rfl, hk, rfl, rfl, rfl, rfl, hw, how, hf⟩
    refine ⟨fun hc => ?_, fun hc => ?_⟩
    · have hc' : k < p.length := by simp at hc; omega
      have hdrop : p.drop k = p[k] :: p.drop (k + 1) := List.drop_eq_getElem_cons hc'
      refine ⟨p[k], ⟨by omega, strIt hc'⟩, ?_⟩
      rw [tr_eta]
      have hst := rStep_pc (gl := gl) hw (s := p[k]) (by have := hp.s _ (List.getElem_mem hc'); omega) (R := fun r => r = stepP w p[k]) rfl
      refine hst.mono fun r hr => ?_
      subst hr
      rcases stepP_ok (allT_here (open_all how)) p[k] with e | ⟨j, e, hj⟩
      · refine ⟨fun _ => ?_, fun hx => by simp [e] at hx⟩
        rw [hdrop, findP_no (by omega)] at hf
        rw [hf] at hR; exact hR
      · refine ⟨fun hx => by simp at hx; omega, fun _ => ?_⟩
        rw [e]
        have hw2 := wsucc hc' (by omega)
        rw [hw2]
        have hm := List.getElem_mem hj
        refine ⟨w.items[j], ⟨by omega, item_at hj⟩, ⟨k + 1, w.items[j], rfl, by omega, rfl, rfl, rfl, rfl, hw.item hm, open_item how hm, ?_⟩, by simp only [Int.toNat_natCast]; omega⟩
        rw [hf, hdrop, findP_yes e hj]
    · have hc' : k = p.length := by simp at hc; omega
      subst hc'
      rw [List.drop_length, findP_nil] at hf
      rw [hf] at hR
      rw [tr_eta]
      refine rClone_pc w hw ?_
      rw [show Tr.mk w.kind w.text w.keys w.items = w from tr_eta w]; exact hR
end Go.Proofs.YtaoceiiakcpbaaaGreatDoor
end
section
namespace Go.Proofs.YtaoceiiakcpbaaaGreatDoor
open Go Go.X Go.Proofs
set_option linter.unusedVariables false
theorem num1 : nmText (numParse (Lib.itoa 1)).1 = [49] := by kernel_rfl
theorem num2 : nmText (numParse (Lib.itoa 2)).1 = [50] := by kernel_rfl
theorem ps_a : prsP [97] = ([], 2) := by kernel_rfl
theorem ps_t : prsP [47, 126, 50] = ([], 2) := by kernel_rfl
theorem ps_n : prsP [] = ([], 0) := by kernel_rfl
theorem rp_1 : rightP [⟨#[97, 47, 98]⟩, ⟨#[126]⟩, ⟨#[]⟩] = true := by kernel_rfl
def smT : Tr := .mk 6 ⟨#[]⟩ [⟨#[97]⟩] [.mk 5 ⟨#[]⟩ [] [.mk 3 (bl [49]) [] [], .mk 3 (bl [50]) [] []]]
theorem fd_1 : findR smT [⟨#[97]⟩, ⟨#[49]⟩] = (.mk 3 (bl [50]) [] [], true) := by kernel_rfl
theorem fd_2 : (findR smT [⟨#[97]⟩, ⟨#[48, 49]⟩]).2 = false := by kernel_rfl
theorem tx_1 : bl (txtP (([⟨#[97, 47, 98]⟩, ⟨#[126]⟩, ⟨#[]⟩] : List ByteArray).map lb)) = ⟨#[47, 97, 126, 49, 98, 47, 126, 48, 47]⟩ := by kernel_rfl
theorem smT_sm : Sm smT := by
  refine Sm.few ?_ ?_
  · have : tks smT = 5 := by kernel_rfl
    omega
  · have leaf : ∀ b : Bs, b.length ≤ 2048 → txS (.mk 3 (bl b) [] []) := fun b hb => by
      rw [txS, txSL]; exact ⟨⟨by rw [bl_size]; exact hb, by simp⟩, trivial⟩
    unfold smT
    rw [txS, txSL, txSL, txS, txSL, txSL, txSL]
    exact ⟨⟨by decide, by decide⟩, ⟨⟨by decide, by simp⟩, leaf _ (by decide), leaf _ (by decide), trivial⟩, trivial⟩
theorem sl_small {l : List ByteArray} (h : l.length ≤ 1000000) (h2 : ∀ x ∈ l, x.size ≤ 1048576) : SL l := ⟨h, fun x hx => by rw [lb_len]; exact h2 x hx⟩
theorem small_pc {gl : Fr} (hg : GL gl) {R : Bool → Prop} (hR : R true) : PC Tryz.prog gl 9 [] [.bool] R := by
  apply pu_scarflaw07_small
  refine Text_pc hg (sl_small (by decide) (by decide)) (fun _ => ?_) (fun hx => by rw [rp_1] at hx; cases hx)
  rw [tx_1]
  refine Parse_pc hg (s := [97]) (by decide) ?_
  rw [ps_a]
  refine Parse_pc hg (s := [47, 126, 50]) (by decide) ?_
  rw [ps_t]
  refine Parse_pc hg (s := []) (by decide) ?_
  rw [ps_n]
  refine Num_pc hg (by decide) (by decide) ?_
  refine Num_pc hg (by decide) (by decide) ?_
  rw [num1, num2]
  refine Row_pc ?_
  refine Map_pc ?_
  refine Find_pc hg (v := smT) smT_sm (sl_small (by decide) (by decide)) ?_
  rw [fd_1]
  refine Find_pc hg (v := smT) smT_sm (sl_small (by decide) (by decide)) ?_
  rw [fd_2]
  have key : ∀ b, b = true → R b := fun b hb => hb ▸ hR
  exact key _ (by kernel_rfl)
end Go.Proofs.YtaoceiiakcpbaaaGreatDoor
end
section
namespace Go.Proofs.YtaoceiiakcpbaaaGreatDoor
open Go Go.X Go.Proofs
set_option linter.unusedVariables false
theorem rClone_po {gl : Fr} (v : Tr) (hv : Sm v) {R : Tr → Prop} (h : R v) : PO Tryz.prog gl 18 [Arg.mk .tree v] R := by
  have hil := hv.items
  have hkl := hv.keys
  apply po_scarfref06_Clone
  refine ⟨by simp only [List.length_nil]; omega, fun i b0 b1 b2 b3 o0 o1 o2 o3 => ∃ k : Nat, i = k ∧ k ≤ v.items.length ∧ o0 = v.kind ∧ o1 = v.text ∧ o2 = v.keys ∧ o3 = v.items.take k, fun i _ _ _ _ _ _ _ _ => v.items.length - i.toNat, ⟨0, rfl, by omega, rfl, rfl, by simp, by simp⟩, ?_⟩
  rintro i b0 b1 b2 b3 o0 o1 o2 o3 ⟨k, rfl, hk, rfl, rfl, rfl, rfl⟩
  refine ⟨fun hc => ?_, fun hc => ?_⟩
  · have hc' : k < v.items.length := by simp at hc; omega
    refine ⟨v.items[k], ⟨by omega, item_at hc'⟩, ?_⟩
    rw [tr_eta]
    have hm := List.getElem_mem hc'
    refine rClone_pc v.items[k] (hv.item hm) ⟨by rw [List.length_take]; simp; omega, ?_⟩
    rw [wsucc hc' (by omega), tr_eta]
    exact ⟨⟨k + 1, rfl, by omega, rfl, rfl, rfl, by rw [List.take_succ_eq_append_getElem hc']⟩, by simp only [Int.toNat_natCast]; omega⟩
  · have hc' : k = v.items.length := by simp at hc; omega
    subst hc'
    rw [List.take_length]
    rw [show Tr.mk v.kind v.text v.keys v.items = v from tr_eta v]; exact h
theorem rclone_go {gl : Fr} {h : Heap} {M : Fr} {v : Tr} {u : Value} (hv : Sm v) (hM : Fr.le gl M) (ag : AgM M h) (hu : RdV M .tree v u) {K : Value → Heap → Prop}
    (hK : ∀ (h' : Heap) (M' : Fr) (sk si : Sl) (e : TypeId) (cells : List Value), Later h M h' M' → Rd M' (.row .str) v.keys [slV sk] → Owns h' h.size e 4 si cells → RowC M' .tree v.items cells → v.items.length ≤ 140737488355328 → si.len = v.items.length → (∀ p, si.a = some p → M' p.block = none) →
      K (.agg #[.int .i64 v.kind, .string v.text, slV sk, slV si]) h') : XC Tryz.prog 18 #[u] h K := by
  have H : PO Tryz.prog gl 18 [Arg.mk .tree v] (fun r => r = v) := rClone_po v hv rfl
  refine (H h M [u] hM ag (args1 hu args0)).mono ?_
  rintro w h' ⟨k, M', r, sk, si, e, cells, h1, h2, h3, rfl, h5, h6, h7, h8, h9, h10, h11⟩
  have h11 : r = v := h11
  subst h11
  exact hK h' M' sk si e cells ⟨k, h1, h2, h3⟩ h5 h6 h7 h8 h9 h10
theorem row_put {M : Fr} {xs : List Tr} {cells : List Value} {b : Nat} {cs : Array Value} {si : Sl} {k : Nat} {y : Tr} {yc : List Value} (hr : RowC M .tree xs cells) (ea : si.a = some ⟨b, 0, none⟩) (hb : M b = none) (hc : cut cs 0 (xs.length * 4) = cells) (hsz : xs.length * 4 ≤ cs.size) (hl : si.len = xs.length) (hcap : si.len ≤ si.cap) (hn : xs.length ≤ 140737488355328)
    (hk : k < xs.length) (hy : TrRd M y yc) : Rd (Mx M b (upd cs (k * 4) yc)) (.row .tree) (xs.set k y) [slV si] := by
  have hM : Fr.le M (Mx M b (upd cs (k * 4) yc)) := fun i c e => by
    unfold Mx
    by_cases hi : i = b
    · subst hi; rw [hb] at e; cases e
    · rw [if_neg hi]; exact e
  have hyl : yc.length = 4 := by cases hy; rfl
  have hu : k * 4 + yc.length ≤ cs.size := by omega
  refine ⟨_, rfl, si.a, si.cap, by rw [slV, hl, List.length_set], ⟨by rw [List.length_set]; exact hn, by rw [List.length_set]; omega⟩, .inr ⟨b, 0, upd cs (k * 4) yc, ea, by unfold Mx; rw [if_pos rfl], fun i hi => ?_⟩⟩
  have hi' : i < xs.length := by simpa using hi
  rw [Nat.zero_add]
  by_cases hik : i = k
  · subst hik
    rw [List.getElem_set_self]
    have := cut_upd hu
    rw [hyl] at this
    show Rd _ .tree y (cut _ (i * 4) 4)
    rw [this]
    exact TrRd.mono hM hy
  · rw [List.getElem_set_ne (by omega)]
    show Rd _ .tree xs[i] (cut _ (i * 4) 4)
    rw [cut_upd_ne hu (by omega)]
    have := hr.2 i hi'
    rw [← hc] at this
    change Rd M .tree xs[i] ((List.drop (i * 4) (cut cs 0 (xs.length * 4))).take 4) at this
    rw [cutcut (by omega)] at this
    exact Rd.mono (t := .tree) hM this
set_option maxHeartbeats 2000000 in
theorem rset_pc {gl : Fr} {w : Tr} (hw : Sm w) : ∀ (p : List ByteArray) (v : Tr), (stepsP v p).length = p.length → Sm v → SL p → ∀ {R : Tr → Prop}, R (setP v p w) → PC Tryz.prog gl 50 [Arg.mk .tree v, Arg.mk (.row .str) p, Arg.mk .tree w] [.tree] R := by
  intro p
  induction p with
  | nil =>
    intro v _ hv hp R hR h M vs hM ag ha
    match vs, ha with
    | [u1, u2, u3], ⟨hu1, hu2, hu3, _⟩ =>
    obtain ⟨sk, si, rfl, rk, ri⟩ := rdTree hu1
    obtain ⟨sp, rfl, rp⟩ := rdRow hu2
    have hu30 : RdV M .tree w u3 := hu3
    obtain ⟨wk, wi, rfl, rwk, rwi⟩ := rdTree hu3
    have hl : sp.len = 0 := (rowLen rp).1
    apply PX.of
    apply sh_scarfref07_set v.kind v.text sk si sp w.kind w.text wk wi
    intro h1 h2 h3
    have z1 : h1.size = h.size + 1 := Array.size_push _
    have z2 : h2.size = h1.size + 1 := Array.size_push _
    have z3 : h3.size = h2.size + 1 := Array.size_push _
    have k1 : Keep h.size h h1 := Keep.push _ _ (Nat.le_refl _)
    have k2 : Keep h1.size h1 h2 := Keep.push _ _ (Nat.le_refl _)
    have k3 : Keep h2.size h2 h3 := Keep.push _ _ (Nat.le_refl _)
    have b2 : Blk h2 h1.size (tcells w.kind w.text wk wi).toArray := Blk.new _ _ _
    have b3 : Blk h3 h2.size (tcells 0 ⟨#[]⟩ ⟨none, 0, 0⟩ ⟨none, 0, 0⟩).toArray := Blk.new _ _ _
    clear_value h1 h2 h3
    have K3 : Keep h.size h h3 := (k1.trans k2 (by omega)).trans k3 (by omega)
    refine ⟨fun _ => ?_, fun hx => (by rw [hl] at hx; simp at hx)⟩
    refine ⟨w.kind, w.text, wk, wi, (b2.ofKeep k3).ld (cs := tcells w.kind w.text wk wi), ?_⟩
    have hcl : PC Tryz.prog gl 18 [Arg.mk .tree w] [.tree] (fun r => r = w) := rClone_pc w hw rfl
    refine hcl.go (vs := [.agg #[.int .i64 w.kind, .string w.text, slV wk, slV wi]]) hM (ag.keep K3) (args1 hu30 args0) fun x h9 M9 r L9 hret hr => ?_
    have hr : r = w := hr
    subst hr
    obtain ⟨ck, ci, rfl, rck, rci⟩ := rdTree (ret1.1 hret)
    refine ⟨r.kind, r.text, ck, ci, rfl, ?_⟩
    have z9 := L9.keep.size
    refine storeTree (b3.ofKeep L9.keep) rfl _ _ _ _ fun h14 b14 z14 f14 => ⟨r.kind, r.text, ck, ci, b14.ld (cs := tcells r.kind r.text ck ci), M9, r, ?_, ret1.2 (rdTree_mk rck rci), hR⟩
    refine ⟨⟨by omega, fun i hi => by rw [f14 i (by omega), L9.keep.get i (by omega)]; exact K3.get i hi⟩, L9.le, fun b hb => L9.old b (by omega), fun b c e => ?_⟩
    have hne : b ≠ h2.size := fun e' => by
      subst e'
      rw [L9.old _ (by omega)] at e
      have := ag.lt e; omega
    obtain ⟨T, m, e2⟩ := L9.ag b c e
    exact ⟨T, m, by rw [f14 b hne]; exact e2⟩
  | cons s p ih =>
    intro v hf hv hp R hR h M vs hM ag ha
    obtain ⟨k, hk, e1, e2, e3⟩ := stepsP_full hf
    match vs, ha with
    | [u1, u2, u3], ⟨hu1, hu2, hu3, _⟩ =>
    have hu10 : RdV M .tree v u1 := hu1
    have hu30 : RdV M .tree w u3 := hu3
    obtain ⟨sk, si, rfl, rk, ri⟩ := rdTree hu1
    obtain ⟨sp, rfl, rp⟩ := rdRow hu2
    obtain ⟨wk, wi, rfl, rwk, rwi⟩ := rdTree hu3
    have rp : Rd M (.row .str) (s :: p) [slV sp] := rp
    obtain ⟨hl, hb1, hb2⟩ := rowLen rp
    have hl' : sp.len = p.length + 1 := by rw [hl]; rfl
    have hb2' : p.length + 1 ≤ sp.cap := hb2
    have hli : si.len = v.items.length := (rowLen ri).1
    apply PX.of
    apply sh_scarfref07_set v.kind v.text sk si sp w.kind w.text wk wi
    intro h1 h2 h3
    have z1 : h1.size = h.size + 1 := Array.size_push _
    have z2 : h2.size = h1.size + 1 := Array.size_push _
    have z3 : h3.size = h2.size + 1 := Array.size_push _
    have k1 : Keep h.size h h1 := Keep.push _ _ (Nat.le_refl _)
    have k2 : Keep h1.size h1 h2 := Keep.push _ _ (Nat.le_refl _)
    have k3 : Keep h2.size h2 h3 := Keep.push _ _ (Nat.le_refl _)
    have b1 : Blk h1 h.size (tcells v.kind v.text sk si).toArray := Blk.new _ _ _
    have b2 : Blk h2 h1.size (tcells w.kind w.text wk wi).toArray := Blk.new _ _ _
    have b3 : Blk h3 h2.size (tcells 0 ⟨#[]⟩ ⟨none, 0, 0⟩ ⟨none, 0, 0⟩).toArray := Blk.new _ _ _
    have b1' := (b1.ofKeep k2).ofKeep k3
    have b2' := b2.ofKeep k3
    clear_value h1 h2 h3
    have K3 : Keep h.size h h3 := (k1.trans k2 (by omega)).trans k3 (by omega)
    refine ⟨fun hx => (by rw [hl'] at hx; simp at hx; omega), fun _ => ?_⟩
    refine ⟨v.kind, v.text, sk, si, b1'.ld (cs := tcells v.kind v.text sk si), ?_⟩
    refine rclone_go hv hM (ag.keep K3) hu10 fun h24 M24 ck ci e cells L24 rck own rcells hcn hcl hfree => ⟨v.kind, v.text, ck, ci, rfl, ?_⟩
    have z24 := L24.keep.size
    intro h29
    have z29 : h29.size = h24.size + 1 := Array.size_push _
    have k29 : Keep h24.size h24 h29 := Keep.push _ _ (Nat.le_refl _)
    have b29 : Blk h29 h24.size (tcells 0 ⟨#[]⟩ ⟨none, 0, 0⟩ ⟨none, 0, 0⟩).toArray := Blk.new _ _ _
    clear_value h29
    refine storeTree b29 rfl _ _ _ _ fun h30 b30 z30 f30 => ?_
    have k30 : Keep h24.size h24 h30 := ⟨by omega, fun i hi => by rw [f30 i (by omega)]; exact k29.get i hi⟩
    have K30 : Keep h3.size h3 h30 := L24.keep.trans k30 (by omega)
    have ag30 := L24.ag.keep k30
    have hM24 := hM.trans L24.le
    have rk24 := Rd.mono L24.le rk
    have ri24 := Rd.mono L24.le ri
    have rp24 := Rd.mono L24.le rp
    refine ⟨v.kind, v.text, sk, si, (b1'.ofKeep K30).ld (cs := tcells v.kind v.text sk si), ?_⟩
    obtain ⟨pa, ea, ps, hps, hps2⟩ := strAt (L := sp.len) ag30 rp24 (k := 0) (by simp) (i := 0) rfl rfl (Q := fun x => x = s) rfl
    subst hps2
    refine ⟨pa, ea, ps, hps, (k : Int), fun h39 k39 => ?_, fun h41 k41 => ?_⟩
    · have hst : PC Tryz.prog gl 49 [Arg.mk .tree v, Arg.mk .str ps] [.int .i64] (fun r => r = (k : Int)) := rStep_pc hv (hp.s ps (by simp)) e1
      refine hst.go (vs := [.agg #[.int .i64 v.kind, .string v.text, slV sk, slV si], .string ps]) hM24 (ag30.keep k39) (args1 (hu10.mono L24.le) (args1 (rdStr ps) args0)) fun x h38 M38 r L38 hret hr => ?_
      have hr : r = (k : Int) := hr
      subst hr
      exact ⟨retI hret, L38.keep⟩
    · have z41 := k41.size
      have K41 : Keep h3.size h3 h41 := K30.trans k41 (by omega)
      have ag41 := ag30.keep k41
      have b41 : Blk h41 h24.size (tcells v.kind v.text ck ci).toArray := b30.ofKeep k41
      obtain ⟨b, cs, q2, q3, q4, q5, q6, q7⟩ : ∃ b cs, ci.a = some ⟨b, 0, none⟩ ∧ h3.size ≤ b ∧ Blk h24 b cs ∧ ci.len * 4 ≤ cs.size ∧ cut cs 0 (ci.len * 4) = cells ∧ ci.len ≤ ci.cap := by
        rcases Owns.blk own with ⟨h0, _⟩ | hx
        · omega
        · exact hx
      have hb41 : Blk h41 b cs := (q4.ofKeep k30).keep (k41.get b (by have := q4.lt; omega))
      have hbn24 : b < h24.size := q4.lt
      have hbM : M24 b = none := hfree _ q2
      obtain ⟨ia, xk, xi, eia, eld, rxk, rxi⟩ := treeAt ag41 ri24 hk
      refine ⟨ci, b41.cellAdd (o := 0) (k := 3) rfl, si, (b1'.ofKeep K41).cellAdd (o := 0) (k := 3) rfl, ia, ⟨eia, by omega, by omega⟩, v.items[k].kind, v.items[k].text, xk, xi, by rw [Int.toNat_natCast]; exact eld,
        w.kind, w.text, wk, wi, (b2'.ofKeep K41).ld (cs := tcells w.kind w.text wk wi), ⟨b, 0, none⟩, ⟨q2, by omega, by omega⟩, .inl rfl, ⟨by omega, by omega, by omega, by omega⟩, Keep.refl _ _, ?_⟩
      have rp' : RdV M24 (.row .str) p (.slice (resl sp.a 1 ((1 : Int).toNat) (((sp.cap : Int) : Int).toNat)) (((sp.len : Int) : Int).toNat - (1 : Int).toNat) (((sp.cap : Int) : Int).toNat - (1 : Int).toNat)) := by
        have := Rd.sub (a := sp.a) (n := sp.len) (c := sp.cap) rp24 (l := 1) (r := sp.len) (m := sp.cap) (by omega) (by rw [hl]; exact Nat.le_refl _) (by omega) (Nat.le_refl _)
        rw [hl, List.take_length] at this
        rw [rdv1 rfl, hl]
        exact this
      have hp' : SL p := ⟨by have := hp.n; simp at this; omega, fun x hx => hp.s x (by simp [hx])⟩
      have hih : PC Tryz.prog gl 50 [Arg.mk .tree v.items[k], Arg.mk (.row .str) p, Arg.mk .tree w] [.tree] (fun r => r = setP v.items[k] p w) := ih v.items[k] e3 (hv.item (List.getElem_mem hk)) hp' rfl
      refine hih.go (vs := [.agg #[.int .i64 v.items[k].kind, .string v.items[k].text, slV xk, slV xi], _, .agg #[.int .i64 w.kind, .string w.text, slV wk, slV wi]]) hM24 ag41 (args1 (rdTree_mk rxk rxi) (args1 rp' (args1 (hu30.mono L24.le) args0))) fun x h55 M55 r L55 hret hr => ?_
      have hr : r = setP v.items[k] p w := hr
      subst hr
      have hret1 := ret1.1 hret
      obtain ⟨yk, yi, rfl, ryk, ryi⟩ := rdTree hret1
      have z55 := L55.keep.size
      refine ⟨_, _, yk, yi, rfl, L55.keep, ?_⟩
      have hq55 : Blk h55 b cs := hb41.ofKeep L55.keep
      rw [addM, Nat.zero_add, Int.toNat_natCast]
      refine storeN (vs := tcells _ _ yk yi) okVal hq55 (tcells_cells _ _ _ _) szVal (by show k * 4 + 4 ≤ cs.size; omega) (tcells_one _ _ _ _) fun h60 b60 z60 f60 => ?_
      have c60 : Blk h60 h24.size (tcells v.kind v.text ck ci).toArray := (b41.ofKeep L55.keep).keep (f60 _ (by omega))
      refine ⟨v.kind, v.text, ck, ci, c60.ld (cs := tcells v.kind v.text ck ci), ?_⟩
      have b3' : Blk h60 h2.size (tcells 0 ⟨#[]⟩ ⟨none, 0, 0⟩ ⟨none, 0, 0⟩).toArray := ((b3.ofKeep K41).ofKeep L55.keep).keep (f60 _ (by omega))
      refine storeTree b3' rfl _ _ _ _ fun h65 b65 z65 f65 => ⟨v.kind, v.text, ck, ci, b65.ld (cs := tcells v.kind v.text ck ci), ?_⟩
      have kz := K3.size
      have hbM55 : M55 b = none := by rw [L55.old b (by omega)]; exact hbM
      have hyrd : TrRd M55 (setP v.items[k] p w) (tcells (setP v.items[k] p w).kind (setP v.items[k] p w).text yk yi) := by
        have h0 : Rd M55 .tree (.mk (setP v.items[k] p w).kind (setP v.items[k] p w).text (setP v.items[k] p w).keys (setP v.items[k] p w).items) [.int .i64 (setP v.items[k] p w).kind, .string (setP v.items[k] p w).text, slV yk, slV yi] := TrRd.of ryk ryi
        rw [tr_eta] at h0; exact h0
      have hput := row_put (k := k) (b := b) (cs := cs) (si := ci) (rcells.mono L55.le) q2 hbM55 (by rw [← hcl]; exact q6) (by omega) hcl q7 hcn hk hyrd
      have hle : Fr.le M55 (Mx M55 b (upd cs (k * 4) (tcells (setP v.items[k] p w).kind (setP v.items[k] p w).text yk yi))) := fun i c e => by
        unfold Mx
        by_cases hi : i = b
        · subst hi; rw [hbM55] at e; cases e
        · rw [if_neg hi]; exact e
      refine ⟨Mx M55 b (upd cs (k * 4) (tcells (setP v.items[k] p w).kind (setP v.items[k] p w).text yk yi)), setP v (ps :: p) w, ⟨⟨by omega, fun i hi => ?_⟩, L24.le.trans (L55.le.trans hle), fun i hi => ?_, fun i c hi => ?_⟩, ret1.2 ?_, hR⟩
      · rw [f65 i (by omega), f60 i (by omega), L55.keep.get i (by omega), k41.get i (by omega), k30.get i (by omega), L24.keep.get i (by omega)]; exact K3.get i hi
      · unfold Mx
        rw [if_neg (by omega), L55.old i (by omega), L24.old i (by omega)]
      · unfold Mx at hi
        by_cases hib : i = b
        · subst hib
          rw [if_pos rfl] at hi
          cases hi
          obtain ⟨T, e'⟩ := b60
          exact ⟨T, (0, 0), by rw [f65 i (by omega)]; exact e'⟩
        · rw [if_neg hib] at hi
          obtain ⟨T, m, e'⟩ := L55.ag i c hi
          have hne : i ≠ h2.size := fun e'' => by
            subst e''
            rw [L55.old _ (by omega), L24.old _ (by omega)] at hi
            have := ag.lt hi; omega
          exact ⟨T, m, by rw [f65 i hne, f60 i hib]; exact e'⟩
      · rw [setP_yes e1 hk]
        exact rdTree_mk (v := setI v k (setP v.items[k] p w)) (Rd.mono (L55.le.trans hle) rck) hput
theorem rSet_pc {gl : Fr} (hg : GL gl) {v w : Tr} (hv : Sm v) (hw : Sm w) {p : List ByteArray} (hp : SL p) {R : Tr × Int → Prop} (hR : R (setR v p w)) : PC Tryz.prog gl 21 [Arg.mk .tree v, Arg.mk (.row .str) p, Arg.mk .tree w] [.tree, .int .i64] R := by
  apply pu_scarfref07_Set
  rw [tr_eta, tr_eta]
  unfold setR at hR
  refine rOpen_pc hg hv (rOpen_pc hg hw (rRight_pc hp ⟨fun hx => ?_, fun hx => ?_⟩))
  · have : (openT v && openT w && rightP p) = false := by
      cases ho : openT v <;> cases ho2 : openT w <;> cases ho3 : rightP p <;> simp [ho, ho2, ho3] at hx ⊢
    rw [this] at hR; exact hR
  · have ho : openT v = true ∧ openT w = true ∧ rightP p = true := by
      cases ho : openT v <;> cases ho2 : openT w <;> cases ho3 : rightP p <;> simp [ho, ho2, ho3] at hx ⊢
    obtain ⟨o1, o2, o3⟩ := ho
    rw [o1, o2, o3] at hR
    simp only [Bool.and_self, if_true] at hR
    refine rFind_pc hg hv hp ?_
    unfold findR
    rw [o1, o3]
    simp only [Bool.and_self, if_true]
    by_cases hf : (stepsP v p).length = p.length
    · rw [if_pos hf] at hR
      have hfd : findP v p = some (lastT v (stepsP v p)) := by unfold findP; rw [if_pos hf]
      rw [hfd]
      refine ⟨fun hx => (by simp at hx), fun _ => rset_pc hw p v hf hv hp ?_⟩
      have s1 := openT_sz o1
      have s2 := openT_sz o2
      have hs := setP_sm hv hw (by omega) p
      rw [tr_eta]
      refine rOpen_pc hg hs ⟨fun hx => ?_, fun hx => ?_⟩
      · have : openT (setP v p w) = false := by simpa using hx
        rw [this] at hR; exact hR
      · have : openT (setP v p w) = true := by simpa using hx
        rw [this] at hR; exact hR
    · rw [if_neg hf] at hR
      have hfd : findP v p = none := by unfold findP; rw [if_neg hf]
      rw [hfd]
      exact ⟨fun _ => hR, fun hx => by simp at hx⟩
end Go.Proofs.YtaoceiiakcpbaaaGreatDoor
end
section
namespace Go.Proofs.YtaoceiiakcpbaaaGreatDoor
open Go Go.X Go.Proofs
set_option linter.unusedVariables false
theorem Copy_on {gl : Fr} (hg : GL gl) {v : Tr} (hv : Sm v) (ho : openT v = true) {h : Heap} {M : Fr} {u : Value} (hM : Fr.le gl M) (ag : AgM M h) (hu : RdV M .tree v u) {K : Value → Heap → Prop}
    (hK : ∀ (h' : Heap) (bs : List Nat) (sk si : Sl), Keep h.size h h' → OT h' v bs (tcells v.kind v.text sk si) → (∀ b ∈ bs, h.size ≤ b) → K (.agg #[.int .i64 v.kind, .string v.text, slV sk, slV si]) h') : XC Tryz.prog 47 #[u] h K := by
  have hu0 := hu
  obtain ⟨sk, si, rfl, rk, ri⟩ := rdTree hu
  apply sh_value_Copy v.kind v.text sk si
  intro h1 h2
  have z1 : h1.size = h.size + 1 := Array.size_push _
  have z2 : h2.size = h1.size + 1 := Array.size_push _
  have k1 : Keep h.size h h1 := Keep.push _ _ (Nat.le_refl _)
  have k2 : Keep h1.size h1 h2 := Keep.push _ _ (Nat.le_refl _)
  have b1 : Blk h1 h.size (tcells v.kind v.text sk si).toArray := Blk.new _ _ _
  have b2 : Blk h2 h1.size (tcells 0 ⟨#[]⟩ ⟨none, 0, 0⟩ ⟨none, 0, 0⟩).toArray := Blk.new _ _ _
  clear_value h1 h2
  have K2 : Keep h.size h h2 := k1.trans k2 (by omega)
  have ag2 := ag.keep K2
  refine ⟨v.kind, v.text, sk, si, (b1.ofKeep k2).ld (cs := tcells v.kind v.text sk si), ?_⟩
  have hopen : PC Tryz.prog gl 45 [Arg.mk .tree v] [.bool] (fun r => r = openT v) := Open_pc hg hv rfl
  refine hopen.go (vs := [.agg #[.int .i64 v.kind, .string v.text, slV sk, slV si]]) hM ag2 (args1 hu0 args0) fun w h3 M3 r L3 hret hr => ?_
  have hr : r = openT v := hr
  refine ⟨r, retB hret, fun hx => ?_, fun hx => ?_⟩
  · rw [hr, ho] at hx; cases hx
  · refine ⟨v.kind, v.text, sk, si, ((b1.ofKeep k2).ofKeep L3.keep).ld (cs := tcells v.kind v.text sk si), ?_⟩
    have K3 : Keep h.size h h3 := K2.trans L3.keep (by have := K2.size; omega)
    refine (clone_on (tsz v) v (Nat.le_refl _) hv (ag.keep K3) hu0).mono ?_
    rintro w' h4 ⟨k4, bs, ck, ci, rfl, ot, hbs⟩
    have z3 := L3.keep.size
    have z4 := k4.size
    refine ⟨v.kind, v.text, ck, ci, rfl, ?_⟩
    refine storeTree (((b2.ofKeep L3.keep).ofKeep k4)) rfl _ _ _ _ fun h5 b5 z5 f5 => ?_
    have K5 : Keep h.size h h5 := ⟨by have := K3.size; omega, fun i hi => by rw [f5 i (by omega), k4.get i (by have := K3.size; omega)]; exact K3.get i hi⟩
    have ot5 := ot.frame fun b hb => f5 b (by have := hbs b hb; omega)
    have hsz := K3.size
    exact ⟨v.kind, v.text, ck, ci, b5.ld (cs := tcells v.kind v.text ck ci), hK h5 bs ck ci K5 ot5 fun b hb => by have := hbs b hb; omega⟩
theorem OT.zero (h : Heap) : OT h zT [] (tcells 0 ⟨#[]⟩ ⟨none, 0, 0⟩ ⟨none, 0, 0⟩) :=
  OT.mk (k := 0) (s := ⟨#[]⟩) (ks := []) (xs := []) (sk := ⟨none, 0, 0⟩) (si := ⟨none, 0, 0⟩) (bk := []) (bb := []) (b := 0) (cs := #[]) (bf := fun _ => []) ⟨rfl, by simp, by simp, .inl ⟨rfl, rfl⟩⟩ ⟨rfl, by simp, by simp⟩ (.inl ⟨rfl, rfl⟩) (fun i hi => absurd hi (by simp)) (by simp)
theorem leads_go {gl : Fr} (hg : GL gl) {v : Tr} (hv : Sm v) (ho : allT nodeOk v = true) {p : List ByteArray} (hp : SL p) {h : Heap} {M : Fr} {u1 u2 : Value} (hM : Fr.le gl M) (ag : AgM M h) (hu1 : RdV M .tree v u1) (hu2 : RdV M (.row .str) p u2) {K : Value → Heap → Prop}
    (hK : ∀ (h' : Heap) (M' : Fr) (sa wk wi : Sl), Later h M h' M' → Rd M' (.row (.int .i64)) ((stepsP v p).map fun q => (q.1 : Int)) [slV sa] → Rd M' (.row .str) (lastT v (stepsP v p)).keys [slV wk] → Rd M' (.row .tree) (lastT v (stepsP v p)).items [slV wi] →
      K (.tuple #[slV sa, .agg #[.int .i64 (lastT v (stepsP v p)).kind, .string (lastT v (stepsP v p)).text, slV wk, slV wi], .bool (decide ((stepsP v p).length = p.length))]) h') : XC Tryz.prog 46 #[u1, u2] h K := by
  have hl : PC Tryz.prog gl 46 [Arg.mk .tree v, Arg.mk (.row .str) p] [.row (.int .i64), .tree, .bool] (fun r => r = ((stepsP v p).map (fun q => (q.1 : Int)), lastT v (stepsP v p), decide ((stepsP v p).length = p.length))) := leads_pc hg hv ho hp rfl
  refine hl.go (vs := [u1, u2]) hM ag (args1 hu1 (args1 hu2 args0)) fun w h' M' r L hret hr => ?_
  have hr : r = _ := hr
  subst hr
  obtain ⟨us, ⟨x1, us1, rfl, r1, x2, us2, rfl, r2, x3, rfl, r3⟩, rfl⟩ := hret
  obtain ⟨sa, rfl, ra⟩ := rdRow r1
  obtain ⟨wk, wi, rfl, rwk, rwi⟩ := rdTree r2
  rw [rdv1 rfl] at r3
  have : x3 = .bool (decide ((stepsP v p).length = p.length)) := by simpa [Rd] using r3
  subst this
  exact hK h' M' sa wk wi L ra rwk rwi
set_option maxHeartbeats 2000000 in
theorem Find_on {gl : Fr} (hg : GL gl) {v : Tr} (hv : Sm v) {p : List ByteArray} (hp : SL p) {h : Heap} {M : Fr} {u1 u2 : Value} (hM : Fr.le gl M) (ag : AgM M h) (hu1 : RdV M .tree v u1) (hu2 : RdV M (.row .str) p u2) {K : Value → Heap → Prop}
    (hK : ∀ (h' : Heap) (bs : List Nat) (sk si : Sl), Keep h.size h h' → OT h' (findR v p).1 bs (tcells (findR v p).1.kind (findR v p).1.text sk si) → (∀ b ∈ bs, h.size ≤ b) → K (.tuple #[.agg #[.int .i64 (findR v p).1.kind, .string (findR v p).1.text, slV sk, slV si], .bool (findR v p).2]) h') :
    XC Tryz.prog 16 #[u1, u2] h K := by
  have hu10 := hu1
  have hu20 := hu2
  obtain ⟨sk, si, rfl, rk, ri⟩ := rdTree hu1
  obtain ⟨sp, rfl, rp⟩ := rdRow hu2
  apply sh_pointer_Find v.kind v.text sk si sp
  intro h1 h2
  have z1 : h1.size = h.size + 1 := Array.size_push _
  have z2 : h2.size = h1.size + 1 := Array.size_push _
  have k1 : Keep h.size h h1 := Keep.push _ _ (Nat.le_refl _)
  have k2 : Keep h1.size h1 h2 := Keep.push _ _ (Nat.le_refl _)
  have b1 : Blk h1 h.size (tcells v.kind v.text sk si).toArray := Blk.new _ _ _
  have b2 : Blk h2 h1.size (tcells 0 ⟨#[]⟩ ⟨none, 0, 0⟩ ⟨none, 0, 0⟩).toArray := Blk.new _ _ _
  have b1' := b1.ofKeep k2
  clear_value h1 h2
  have K2 : Keep h.size h h2 := k1.trans k2 (by omega)
  refine ⟨v.kind, v.text, sk, si, b1'.ld (cs := tcells v.kind v.text sk si), ?_⟩
  have hopen : PC Tryz.prog gl 45 [Arg.mk .tree v] [.bool] (fun r => r = openT v) := Open_pc hg hv rfl
  refine hopen.go (vs := [.agg #[.int .i64 v.kind, .string v.text, slV sk, slV si]]) hM (ag.keep K2) (args1 hu10 args0) fun w h8 M8 r L8 hret hr => ?_
  have hr : r = openT v := hr
  subst hr
  have K8 := L8.keep
  have z8 := K8.size
  refine ⟨openT v, retB hret, fun x g => Keep h2.size h2 g ∧ ∃ b, x = .bool b ∧ (openT v = true → b = rightP p), fun hx => ?_, fun hx => ⟨false, Keep.mono K8 (Nat.le_refl _), false, rfl, fun ho => by rw [ho] at hx; cases hx⟩, fun hx x g hj => ?_, fun b g hj => ?_⟩
  · have hright : PC Tryz.prog gl 12 [Arg.mk (.row .str) p] [.bool] (fun r => r = rightP p) := Right_pc hg hp rfl
    refine hright.go (vs := [slV sp]) (hM.trans L8.le) L8.ag (args1 (hu20.mono L8.le) args0) fun w h15 M15 r L15 hret hr => ?_
    have hr : r = rightP p := hr
    exact ⟨r, retB hret, K8.trans L15.keep (by omega), r, rfl, fun _ => hr⟩
  · obtain ⟨_, b, e, _⟩ := hj; exact ⟨b, e⟩
  · obtain ⟨kg, b', e, hb'⟩ := hj
    cases e
    have zg := kg.size
    have KG : Keep h.size h g := K2.trans kg (by omega)
    have zero : ∀ g', Keep h2.size h2 g' → findR v p = (zT, false) → XRunU Tryz.prog (Instr.storeAt 34 (.pointer (some ⟨Array.size h1, 0, none⟩)) (.agg #[.int .i64 0, .string (⟨#[]⟩ : ByteArray), .slice none 0 0, .slice none 0 0])) g' (fun h_20 => ∃ r_21 : Int, ∃ r_22 : ByteArray, ∃ r_23 : Sl, ∃ r_24 : Sl, ldList h_20 ⟨Array.size h1, 0, none⟩ 0 [.int .i64 r_21, .string r_22, .slice r_23.a r_23.len r_23.cap, .slice r_24.a r_24.len r_24.cap] ∧ K (.tuple #[.agg #[.int .i64 r_21, .string r_22, .slice r_23.a r_23.len r_23.cap, .slice r_24.a r_24.len r_24.cap], .bool false]) h_20) := fun g' kg' e => by
      have := kg'.size
      refine storeTree (b2.ofKeep kg') rfl 0 ⟨#[]⟩ ⟨none, 0, 0⟩ ⟨none, 0, 0⟩ fun h5 b5 z5 f5 => ⟨0, ⟨#[]⟩, ⟨none, 0, 0⟩, ⟨none, 0, 0⟩, b5.ld (cs := tcells 0 ⟨#[]⟩ ⟨none, 0, 0⟩ ⟨none, 0, 0⟩), ?_⟩
      have := hK h5 [] ⟨none, 0, 0⟩ ⟨none, 0, 0⟩ ⟨by omega, fun i hi => by rw [f5 i (by omega), kg'.get i (by omega)]; exact K2.get i hi⟩ (by rw [e]; exact OT.zero h5) (by simp)
      rw [e] at this
      exact this
    refine ⟨fun hx => zero g kg ?_, fun hx => ?_⟩
    · unfold findR
      cases ho : openT v with
      | false => rfl
      | true =>
        have := hb' ho
        rw [ho, this] at hx
        have : rightP p = false := by simpa using hx
        rw [this]; rfl
    · have ho : openT v = true := by
        cases ho : openT v with
        | true => rfl
        | false => rw [ho] at hx; cases hx
      have hr : rightP p = true := by rw [← hb' ho]; rw [ho] at hx; simpa using hx
      refine ⟨v.kind, v.text, sk, si, (b1'.ofKeep kg).ld (cs := tcells v.kind v.text sk si), ?_⟩
      have agg := ag.keep KG
      refine leads_go hg hv (open_all ho) hp hM agg hu10 hu20 fun h30 M30 sa wk wi L30 ra rwk rwi => ⟨sa, _, _, wk, wi, _, rfl, ?_⟩
      have z30 := L30.keep.size
      intro h37
      have z37 : h37.size = h30.size + 1 := Array.size_push _
      have k37 : Keep h30.size h30 h37 := Keep.push _ _ (Nat.le_refl _)
      have b37 : Blk h37 h30.size (tcells 0 ⟨#[]⟩ ⟨none, 0, 0⟩ ⟨none, 0, 0⟩).toArray := Blk.new _ _ _
      clear_value h37
      refine storeTree b37 rfl _ _ _ _ fun h38 b38 z38 f38 => ?_
      have k38 : Keep h30.size h30 h38 := ⟨by omega, fun i hi => by rw [f38 i (by omega)]; exact k37.get i hi⟩
      have kg38 : Keep h2.size h2 h38 := (kg.trans L30.keep (by omega)).trans k38 (by omega)
      refine ⟨fun hx => zero h38 kg38 ?_, fun hx => ?_⟩
      · have : (stepsP v p).length ≠ p.length := by simpa using hx
        unfold findR findP
        rw [ho, hr, if_neg this]; rfl
      · have hf : (stepsP v p).length = p.length := by simpa using hx
        have hfr : findR v p = (lastT v (stepsP v p), true) := by
          unfold findR findP
          rw [ho, hr, if_pos hf]; rfl
        obtain ⟨q1, q2⟩ := open_last p.length v p (Nat.le_refl _) ho hv
        refine ⟨_, _, wk, wi, b38.ld (cs := tcells _ _ wk wi), ?_⟩
        refine Copy_on hg q2 q1 (hM.trans L30.le) (L30.ag.keep k38) (rdTree_mk rwk rwi) fun h49 bs ck ci k49 ot hbs => ⟨_, _, ck, ci, rfl, ?_⟩
        have z49 := k49.size
        refine storeTree ((b2.ofKeep kg38).ofKeep k49) rfl _ _ _ _ fun h54 b54 z54 f54 => ⟨_, _, ck, ci, b54.ld (cs := tcells _ _ ck ci), ?_⟩
        have := hK h54 bs ck ci ⟨by omega, fun i hi => by rw [f54 i (by omega), k49.get i (by omega), kg38.get i (by omega)]; exact K2.get i hi⟩ (by rw [hfr]; exact ot.frame fun b hb => f54 b (by have := hbs b hb; omega)) (fun b hb => by have := hbs b hb; omega)
        rw [hfr] at this
        exact this
end Go.Proofs.YtaoceiiakcpbaaaGreatDoor
end
section
namespace Go.Proofs.YtaoceiiakcpbaaaGreatDoor
open Go Go.X Go.Proofs
set_option linter.unusedVariables false
set_option maxHeartbeats 4000000 in
theorem Set_on {gl : Fr} (hg : GL gl) {v w : Tr} (hv : Sm v) (hw : Sm w) {p : List ByteArray} (hp : SL p) {h : Heap} {M : Fr} {u1 u2 u3 : Value} (hM : Fr.le gl M) (ag : AgM M h) (hu1 : RdV M .tree v u1) (hu2 : RdV M (.row .str) p u2) (hu3 : RdV M .tree w u3) {K : Value → Heap → Prop}
    (hK : ∀ (h' : Heap) (bs : List Nat) (sk si : Sl), Keep h.size h h' → OT h' (setR v p w).1 bs (tcells (setR v p w).1.kind (setR v p w).1.text sk si) → (∀ b ∈ bs, h.size ≤ b) → K (.tuple #[.agg #[.int .i64 (setR v p w).1.kind, .string (setR v p w).1.text, slV sk, slV si], .int .i64 (setR v p w).2]) h') :
    XC Tryz.prog 20 #[u1, u2, u3] h K := by
  have hu10 := hu1
  have hu20 := hu2
  have hu30 := hu3
  obtain ⟨sk, si, rfl, rk, ri⟩ := rdTree hu1
  obtain ⟨sp, rfl, rp⟩ := rdRow hu2
  obtain ⟨wk, wi, rfl, rwk, rwi⟩ := rdTree hu3
  apply sh_pointer_Set v.kind v.text sk si sp w.kind w.text wk wi
  intro h1 h2 h3
  have z1 : h1.size = h.size + 1 := Array.size_push _
  have z2 : h2.size = h1.size + 1 := Array.size_push _
  have z3 : h3.size = h2.size + 1 := Array.size_push _
  have k1 : Keep h.size h h1 := Keep.push _ _ (Nat.le_refl _)
  have k2 : Keep h1.size h1 h2 := Keep.push _ _ (Nat.le_refl _)
  have k3 : Keep h2.size h2 h3 := Keep.push _ _ (Nat.le_refl _)
  have b1 : Blk h1 h.size (tcells v.kind v.text sk si).toArray := Blk.new _ _ _
  have b2 : Blk h2 h1.size (tcells w.kind w.text wk wi).toArray := Blk.new _ _ _
  have b3 : Blk h3 h2.size (tcells 0 ⟨#[]⟩ ⟨none, 0, 0⟩ ⟨none, 0, 0⟩).toArray := Blk.new _ _ _
  have b1' := (b1.ofKeep k2).ofKeep k3
  have b2' := b2.ofKeep k3
  clear_value h1 h2 h3
  have K3 : Keep h.size h h3 := (k1.trans k2 (by omega)).trans k3 (by omega)
  have zero : ∀ (g : Heap) (e : Int), Keep h3.size h3 g → setR v p w = (zT, e) → XRunU Tryz.prog (Instr.storeAt 34 (.pointer (some ⟨Array.size h2, 0, none⟩)) (.agg #[.int .i64 0, .string (⟨#[]⟩ : ByteArray), .slice none 0 0, .slice none 0 0])) g (fun h_20 => ∃ r_21 : Int, ∃ r_22 : ByteArray, ∃ r_23 : Sl, ∃ r_24 : Sl, ldList h_20 ⟨Array.size h2, 0, none⟩ 0 [.int .i64 r_21, .string r_22, .slice r_23.a r_23.len r_23.cap, .slice r_24.a r_24.len r_24.cap] ∧ K (.tuple #[.agg #[.int .i64 r_21, .string r_22, .slice r_23.a r_23.len r_23.cap, .slice r_24.a r_24.len r_24.cap], .int .i64 e]) h_20) := fun g e kg hz => by
    have := kg.size
    refine storeTree (b3.ofKeep kg) rfl 0 ⟨#[]⟩ ⟨none, 0, 0⟩ ⟨none, 0, 0⟩ fun h5 b5 z5 f5 => ⟨0, ⟨#[]⟩, ⟨none, 0, 0⟩, ⟨none, 0, 0⟩, b5.ld (cs := tcells 0 ⟨#[]⟩ ⟨none, 0, 0⟩ ⟨none, 0, 0⟩), ?_⟩
    have := hK h5 [] ⟨none, 0, 0⟩ ⟨none, 0, 0⟩ ⟨by omega, fun i hi => by rw [f5 i (by omega), kg.get i (by omega)]; exact K3.get i hi⟩ (by rw [hz]; exact OT.zero h5) (by simp)
    rw [hz] at this
    exact this
  refine ⟨v.kind, v.text, sk, si, b1'.ld (cs := tcells v.kind v.text sk si), ?_⟩
  have hopen : PC Tryz.prog gl 45 [Arg.mk .tree v] [.bool] (fun r => r = openT v) := Open_pc hg hv rfl
  refine hopen.go (vs := [.agg #[.int .i64 v.kind, .string v.text, slV sk, slV si]]) hM (ag.keep K3) (args1 hu10 args0) fun x h9 M9 r L9 hret hr => ?_
  have hr : r = openT v := hr
  subst hr
  have z9 := L9.keep.size
  refine ⟨openT v, retB hret, w.kind, w.text, wk, wi, fun _ => (b2'.ofKeep L9.keep).ld (cs := tcells w.kind w.text wk wi), ?_⟩
  refine ⟨fun y g => Keep h3.size h3 g ∧ ∃ b, y = .bool b ∧ (openT v = true → b = openT w), fun hx => ?_, fun hx => ⟨false, L9.keep, false, rfl, fun ho => by rw [ho] at hx; cases hx⟩, fun hx y g hj => ?_, fun b g hj => ?_⟩
  · have hopen2 : PC Tryz.prog gl 45 [Arg.mk .tree w] [.bool] (fun r => r = openT w) := Open_pc hg hw rfl
    refine hopen2.go (vs := [.agg #[.int .i64 w.kind, .string w.text, slV wk, slV wi]]) (hM.trans L9.le) L9.ag (args1 (hu30.mono L9.le) args0) fun y h15 M15 r L15 hret hr => ?_
    have hr : r = openT w := hr
    exact ⟨r, retB hret, L9.keep.trans L15.keep (by omega), r, rfl, fun _ => hr⟩
  · obtain ⟨_, b, e, _⟩ := hj; exact ⟨b, e⟩
  obtain ⟨kg, b', e, hb'⟩ := hj
  cases e
  have zg := kg.size
  have KG : Keep h.size h g := K3.trans kg (by omega)
  have agg := ag.keep KG
  refine ⟨fun y g2 => Keep h3.size h3 g2 ∧ ∃ c, y = .bool c ∧ ((openT v && b) = true → c = rightP p), fun hx => ?_, fun hx => ⟨false, kg, false, rfl, fun ho => by rw [Bool.and_eq_true] at ho; rw [ho.1, ho.2] at hx; cases hx⟩, fun hx y g2 hj => ?_, fun c g2 hj => ?_⟩
  · have hright : PC Tryz.prog gl 12 [Arg.mk (.row .str) p] [.bool] (fun r => r = rightP p) := Right_pc hg hp rfl
    refine hright.go (vs := [slV sp]) hM agg (args1 hu20 args0) fun y h15 M15 r L15 hret hr => ?_
    have hr : r = rightP p := hr
    exact ⟨r, retB hret, kg.trans L15.keep (by omega), r, rfl, fun _ => hr⟩
  · obtain ⟨_, c, e, _⟩ := hj; exact ⟨c, e⟩
  obtain ⟨kg2, c', e, hc'⟩ := hj
  cases e
  have zg2 := kg2.size
  have KG2 : Keep h.size h g2 := K3.trans kg2 (by omega)
  have agg2 := ag.keep KG2
  have hall : (openT v && openT w && rightP p) = (openT v && b && c) := by
    cases ho : openT v with
    | false => rfl
    | true =>
      rw [← hb' ho]
      cases hb : b with
      | false => rfl
      | true => rw [hc' (by rw [ho, hb]; rfl)]
  refine ⟨fun hx => zero g2 1 kg2 ?_, fun hx => ?_⟩
  · unfold setR
    rw [hall]
    have : (openT v && b && c) = false := by cases h1 : openT v <;> cases h2 : b <;> cases h3 : c <;> simp [h1, h2, h3] at hx ⊢
    rw [this]; rfl
  have h3c : (openT v && b && c) = true := by cases h1 : openT v <;> cases h2 : b <;> cases h3 : c <;> simp [h1, h2, h3] at hx ⊢
  rw [← hall] at h3c
  have ho : openT v = true ∧ openT w = true ∧ rightP p = true := by simpa [and_assoc] using h3c
  obtain ⟨ov, ow, hr⟩ := ho
  have hset : setR v p w = if (stepsP v p).length = p.length then (if openT (setP v p w) then (setP v p w, 0) else (zT, 1)) else (zT, 8) := by
    unfold setR; rw [ov, ow, hr]; rfl
  refine ⟨v.kind, v.text, sk, si, (b1'.ofKeep kg2).ld (cs := tcells v.kind v.text sk si), ?_⟩
  refine leads_go hg hv (open_all ov) hp hM agg2 hu10 hu20 fun h45 M45 sa lk li L45 ra rlk rli => ⟨sa, _, _, lk, li, _, rfl, ?_⟩
  have z45 := L45.keep.size
  intro h52
  have z52 : h52.size = h45.size + 1 := Array.size_push _
  have k52 : Keep h45.size h45 h52 := Keep.push _ _ (Nat.le_refl _)
  have b52 : Blk h52 h45.size (tcells 0 ⟨#[]⟩ ⟨none, 0, 0⟩ ⟨none, 0, 0⟩).toArray := Blk.new _ _ _
  clear_value h52
  refine storeTree b52 rfl _ _ _ _ fun h53 b53 z53 f53 => ?_
  have k53 : Keep h45.size h45 h53 := ⟨by omega, fun i hi => by rw [f53 i (by omega)]; exact k52.get i hi⟩
  have kg53 : Keep h3.size h3 h53 := (kg2.trans L45.keep (by omega)).trans k53 (by omega)
  have ag53 := L45.ag.keep k53
  refine ⟨fun hx => zero h53 8 kg53 ?_, fun hx => ?_⟩
  · have : (stepsP v p).length ≠ p.length := by simpa using hx
    rw [hset, if_neg this]
  have hf : (stepsP v p).length = p.length := by simpa using hx
  rw [if_pos hf] at hset
  refine ⟨v.kind, v.text, sk, si, (b1'.ofKeep kg53).ld (cs := tcells v.kind v.text sk si), ?_⟩
  refine Copy_on hg hv ov (hM.trans L45.le) ag53 (hu10.mono L45.le) fun h64 bs ck ci k64 ot hbs => ⟨v.kind, v.text, ck, ci, rfl, ?_⟩
  have z64 := k64.size
  intro h69
  have z69 : h69.size = h64.size + 1 := Array.size_push _
  have k69 : Keep h64.size h64 h69 := Keep.push _ _ (Nat.le_refl _)
  have b69 : Blk h69 h64.size (tcells 0 ⟨#[]⟩ ⟨none, 0, 0⟩ ⟨none, 0, 0⟩).toArray := Blk.new _ _ _
  clear_value h69
  refine storeTree b69 rfl _ _ _ _ fun h70 b70 z70 f70 => ?_
  have k70 : Keep h64.size h64 h70 := ⟨by omega, fun i hi => by rw [f70 i (by omega)]; exact k69.get i hi⟩
  have kg70 : Keep h53.size h53 h70 := k64.trans k70 (by omega)
  have ag70 := ag53.keep kg70
  have ot70 : OT h70 v bs (tcells v.kind v.text ck ci) := ot.frame fun b hb => k70.get b (ot.lt b hb)
  have foc0 : Foc h70 h53.size h64.size ⟨h64.size, 0, none⟩ v id := Foc.root b70 rfl (by omega) ot70 fun c hc => ⟨hbs c hc, by have := ot.lt c hc; omega⟩
  obtain ⟨hla, hna, hca⟩ := rowLen ra
  have hsl : sa.len = p.length := by rw [hla, List.length_map, hf]
  have hpn := hp.n
  refine ⟨fun pl i g => g = h70 ∧ ∃ (k : Nat) (pa : Addr) (x : Tr) (T : Tr → Tr), i = (k : Int) ∧ k ≤ p.length ∧ pl = some pa ∧ Foc h70 h53.size h64.size pa x T ∧ (stepsP x (p.drop k)).length = (p.drop k).length ∧ ((stepsP v p).map fun q => (q.1 : Int)).drop k = (stepsP x (p.drop k)).map (fun q => (q.1 : Int)) ∧ T (setP x (p.drop k) w) = setP v p w,
    fun _ i _ => p.length - i.toNat, ⟨rfl, 0, _, v, id, rfl, by omega, rfl, foc0, by simpa using hf, by simp, by simp⟩, ?_⟩
  rintro pl i g ⟨rfl, k, pa, x, T, rfl, hk, rfl, foc, hfull, hat, hT⟩
  refine ⟨fun hc => ?_, fun hc => ?_⟩
  · have hc' : k < p.length := by rw [hsl] at hc; simp at hc; omega
    have hdrop : p.drop k = p[k] :: p.drop (k + 1) := List.drop_eq_getElem_cons hc'
    rw [hdrop] at hfull hat hT
    obtain ⟨j, hj, e1, e2, e3⟩ := stepsP_full hfull
    rw [e2, List.map_cons] at hat
    rw [setP_yes e1 hj] at hT
    have hlen : k < ((stepsP v p).map fun q => (q.1 : Int)).length := by rw [List.length_map, hf]; exact hc'
    rw [List.drop_eq_getElem_cons hlen] at hat
    injection hat with hat1 hat2
    obtain ⟨ab, ao, acs, ea, ecs, erd⟩ := Go.X.rowAt ra hlen
    obtain ⟨xi, aa, f1, f2, f3, f4⟩ := foc.step hj
    refine ⟨⟨ab, ao, none⟩, ⟨ea, by omega, by rw [hsl]; omega⟩, (j : Int), ?_, pa, rfl, xi, f1, aa, ⟨f2, by omega, by omega⟩, ?_⟩
    · rw [addM, Int.toNat_natCast]
      have h1 : cut acs (ao + k * 1) 1 = [.int .i64 (((stepsP v p).map fun q => (q.1 : Int))[k])] := erd
      rw [hat1] at h1
      exact cellCut ag70 ecs h1
    · rw [wsucc hc' (by omega), Int.toNat_natCast]
      exact ⟨⟨rfl, k + 1, aa.add (j * 4), x.items[j], _, rfl, by omega, rfl, f4, e3, hat2, hT⟩, by simp only [Int.toNat_natCast]; omega⟩
  · have hc' : k = p.length := by rw [hsl] at hc; simp at hc; omega
    subst hc'
    rw [List.drop_length] at hT
    have hT' : T w = setP v p w := by rw [← hT]; rfl
    have kk : Keep h3.size h3 g := kg53.trans kg70 (by omega)
    refine ⟨w.kind, w.text, wk, wi, (b2'.ofKeep kk).ld (cs := tcells w.kind w.text wk wi), ?_⟩
    refine Copy_on hg hw ow (hM.trans L45.le) ag70 (hu30.mono L45.le) fun h86 bw dk di k86 otw hbw => ⟨w.kind, w.text, dk, di, rfl, pa, rfl, ?_⟩
    have z86 := k86.size
    obtain ⟨b, o, cs, rfl, hbase, hblt, hbk, hcs, hput⟩ := foc.put k86 otw hbw
    refine storeN (vs := tcells w.kind w.text dk di) okVal hbk (tcells_cells _ _ _ _) szVal hcs (tcells_one _ _ _ _) fun h92 b92 z92 f92 => ?_
    obtain ⟨cs', bs', hb', hs', ot', hbs'⟩ := hput h92 b92 z92 f92
    rw [hT'] at ot'
    obtain ⟨fk, fi, ecells⟩ := ot'.cells
    have hb'' : Blk h92 h64.size (tcells (setP v p w).kind (setP v p w).text fk fi).toArray := by
      have : cs' = (tcells (setP v p w).kind (setP v p w).text fk fi).toArray := by
        apply Array.ext'; rw [ecells]; rfl
      rw [← this]; exact hb'
    rw [show cs'.toList = tcells (setP v p w).kind (setP v p w).text fk fi from ecells] at ot'
    have kg92 : Keep h53.size h53 h92 := ⟨by omega, fun i hi => by rw [f92 i (by omega), k86.get i (by omega)]; exact kg70.get i hi⟩
    have kk92 : Keep h3.size h3 h92 := kg53.trans kg92 (by omega)
    refine ⟨_, _, fk, fi, hb''.ld (cs := tcells _ _ fk fi), ?_⟩
    have s1 := openT_sz ov
    have s2 := openT_sz ow
    have hsm := setP_sm hv hw (by omega) p
    have ag92 : AgM M45 h92 := ag53.keep kg92
    have agx : AgM (MxL M45 h92 bs') h92 := MxL.ag ag92 bs'
    have hlex : Fr.le M45 (MxL M45 h92 bs') := fun b c e => by
      have := ag53.lt e
      unfold MxL; rw [if_neg (fun hm => by have := (hbs' b hm).1; omega)]; exact e
    have hopen3 : PC Tryz.prog gl 45 [Arg.mk .tree (setP v p w)] [.bool] (fun r => r = openT (setP v p w)) := Open_pc hg hsm rfl
    refine hopen3.go (vs := [.agg #[.int .i64 (setP v p w).kind, .string (setP v p w).text, slV fk, slV fi]]) ((hM.trans L45.le).trans hlex) agx (args1 ot'.rdv args0) fun y h98 M98 r L98 hret hr2 => ?_
    have hr2 : r = openT (setP v p w) := hr2
    subst hr2
    have z98 := L98.keep.size
    refine ⟨openT (setP v p w), retB hret, fun hx => zero h98 1 (kk92.trans L98.keep (by omega)) ?_, fun hx => ?_⟩
    · have : openT (setP v p w) = false := by simpa using hx
      rw [hset, this]; rfl
    · have hop : openT (setP v p w) = true := by simpa using hx
      rw [hop, if_pos rfl] at hset
      refine ⟨_, _, fk, fi, (hb''.ofKeep L98.keep).ld (cs := tcells _ _ fk fi), ?_⟩
      refine storeTree ((b3.ofKeep kk92).ofKeep L98.keep) rfl _ _ _ _ fun h109 b109 z109 f109 => ⟨_, _, fk, fi, b109.ld (cs := tcells _ _ fk fi), ?_⟩
      have hge : ∀ c ∈ bs', h53.size ≤ c := fun c hc => (hbs' c hc).1
      have kz3 := K3.size
      have := hK h109 bs' fk fi ⟨by omega, fun i hi => by rw [f109 i (by omega), L98.keep.get i (by omega), kk92.get i (by omega)]; exact K3.get i hi⟩
        (by rw [hset]; exact (ot'.frame fun c hc => L98.keep.get c (ot'.lt c hc)).frame fun c hc => f109 c (by have := hge c hc; omega)) (fun c hc => by have := hge c hc; omega)
      rw [hset] at this
      exact this
end Go.Proofs.YtaoceiiakcpbaaaGreatDoor
end
section
namespace Go.Proofs.YtaoceiiakcpbaaaGreatDoor
open Go Go.X Go.Proofs
set_option linter.unusedVariables false
theorem setR_cases (v w : Tr) (p : List ByteArray) : (setR v p w = (zT, 1) ∨ setR v p w = (zT, 8)) ∨ (openT v = true ∧ openT w = true ∧ rightP p = true ∧ (stepsP v p).length = p.length ∧ openT (setP v p w) = true ∧ setR v p w = (setP v p w, 0)) := by
  unfold setR
  cases h : (openT v && openT w && rightP p) with
  | false => exact .inl (.inl rfl)
  | true =>
    rw [if_pos rfl]
    split
    · rename_i hf
      split
      · rename_i ho
        simp only [Bool.and_eq_true] at h
        exact .inr ⟨h.1.1, h.1.2, h.2, hf, ho, rfl⟩
      · exact .inl (.inl rfl)
    · exact .inl (.inr rfl)
theorem findR_sm {v : Tr} (hv : Sm v) {p : List ByteArray} : tsz (findR v p).1 ≤ 1000000000000 := by
  unfold findR
  cases h : (openT v && rightP p) with
  | false => rw [if_neg (by simp)]; decide
  | true =>
    rw [if_pos rfl]
    rw [Bool.and_eq_true] at h
    unfold findP
    split
    · rename_i x hx
      split at hx
      · cases hx
        exact (open_last p.length v p (Nat.le_refl _) h.1 hv).2.sz
      · cases hx
    · decide
end Go.Proofs.YtaoceiiakcpbaaaGreatDoor
end
section
namespace Go.Proofs.YtaoceiiakcpbaaaGreatDoor
open Go Go.X Go.Proofs
set_option linter.unusedVariables false
theorem okStrT : okInfo Tryz.prog 9 = true := by kernel_rfl
theorem szStrT : szOf Tryz.prog 9 = 1 := by kernel_rfl
theorem okIntT : okInfo Tryz.prog 3 = true := by kernel_rfl
theorem szIntT : szOf Tryz.prog 3 = 1 := by kernel_rfl
def But (bs : List Nat) (h h' : Heap) : Prop := h.size ≤ h'.size ∧ ∀ i, i < h.size → i ∉ bs → h'[i]? = h[i]?
theorem But.refl (bs : List Nat) (h : Heap) : But bs h h := ⟨Nat.le_refl _, fun _ _ _ => rfl⟩
theorem But.trans {bs : List Nat} {a b c : Heap} (x : But bs a b) (y : But bs b c) : But bs a c := ⟨Nat.le_trans x.1 y.1, fun i hi hn => (y.2 i (by have := x.1; omega) hn).trans (x.2 i hi hn)⟩
set_option maxHeartbeats 2000000 in
theorem Spoil_on (n : Nat) : ∀ (v : Tr), tsz v ≤ n → ∀ {h : Heap} {bs : List Nat} {sk si : Sl}, OT h v bs (tcells v.kind v.text sk si) → ∀ {K : Value → Heap → Prop}, (∀ h', But bs h h' → K (.tuple #[]) h') → XC Tryz.prog 22 #[.agg #[.int .i64 v.kind, .string v.text, slV sk, slV si]] h K := by
  induction n with
  | zero => intro v hn; have := tsz_pos v; omega
  | succ n ih =>
  intro v hn h bs sk si ot K hK
  have hcell := ot
  generalize hq : tcells v.kind v.text sk si = cells at hcell
  cases hcell with
  | @mk kd s ks xs sk' si' bk bb b cs bf hkk hnn hz hi hd =>
  have : sk' = sk ∧ si' = si := by
    simp only [tcells, slV, List.cons.injEq, Value.slice.injEq, and_true] at hq
    obtain ⟨_, _, ⟨a1, a2, a3⟩, a4, a5, a6⟩ := hq
    cases sk; cases si; cases sk'; cases si'
    simp only at a1 a2 a3 a4 a5 a6
    subst a1; subst a2; subst a3; subst a4; subst a5; subst a6; exact ⟨rfl, rfl⟩
  obtain ⟨rfl, rfl⟩ := this
  obtain ⟨hk1, hk2, hk3, hk4⟩ := hkk
  rw [List.nodup_append] at hd
  obtain ⟨nd1, nd2, nd3⟩ := hd
  rw [List.nodup_append] at nd2
  obtain ⟨nd4, nd5, nd6⟩ := nd2
  have nf := nd_flat.1 nd5
  have hlt := ot.lt
  apply sh_scarflaw06_Spoil kd s sk' si'
  intro h1
  have z1 : h1.size = h.size + 1 := Array.size_push _
  have k1 : Keep h.size h h1 := Keep.push _ _ (Nat.le_refl _)
  have b1 : Blk h1 h.size (tcells kd s sk' si').toArray := Blk.new _ _ _
  clear_value h1
  refine ⟨fun i g => ∃ k : Nat, i = (k : Int) ∧ k ≤ ks.length ∧ h1.size ≤ g.size ∧ (∀ x, x < h1.size → x ∉ bk → g[x]? = h1[x]?) ∧ (∀ bx ∈ bk, ∃ c : Array Value, Blk g bx c ∧ ks.length ≤ c.size), fun i _ => ks.length - i.toNat, ⟨0, rfl, by omega, Nat.le_refl _, fun _ _ _ => rfl, fun bx hbx => ?_⟩, ?_⟩
  · rcases hk4 with ⟨_, rfl⟩ | ⟨b', cs', rfl, e1, e2, e3⟩
    · cases hbx
    · simp at hbx; subst hbx
      refine ⟨cs', e2.ofKeep k1, ?_⟩
      have := congrArg List.length e3
      unfold cut at this
      simp at this; omega
  rintro i g ⟨k, rfl, hk, zg, fg, blk⟩
  have hnb : h.size ∉ bk := fun hm => by have := hlt h.size (by simp [hm]); omega
  have bg : Blk g h.size (tcells kd s sk' si').toArray := b1.keep (fg _ (by omega) hnb)
  refine ⟨sk', bg.cellAdd (o := 0) (k := 2) rfl, fun hc => ?_, fun hc => ?_⟩
  · have hc' : k < ks.length := by rw [hk1] at hc; simp at hc; omega
    rcases hk4 with ⟨h0, _⟩ | ⟨b', cs', rfl, e1, e2, e3⟩
    · rw [h0] at hc'; simp at hc'
    obtain ⟨c, hbc, hcs⟩ := blk b' (by simp)
    refine ⟨sk', bg.cellAdd (o := 0) (k := 2) rfl, ⟨b', 0, none⟩, ⟨e1, by omega, by omega⟩, ?_⟩
    rw [addM, Nat.zero_add, Int.toNat_natCast, Nat.mul_one]
    refine storeN (vs := [.string (⟨#[115, 112, 111, 105, 108, 116]⟩ : ByteArray)]) okStrT hbc rfl szStrT (by simp; omega) (by simp [Value.oneCell']) fun h9 b9 z9 f9 => ?_
    rw [wsucc hc' (by omega)]
    refine ⟨⟨k + 1, rfl, by omega, by omega, fun x hx hm => by rw [f9 x (fun e => hm (by simp [e]))]; exact fg x hx hm, fun bx hbx => ?_⟩, by simp only [Int.toNat_natCast]; omega⟩
    simp at hbx; subst hbx
    exact ⟨_, b9, by rw [upd_size (by simp; omega)]; exact hcs⟩
  have hfl : ∀ i, i < xs.length → ∀ x ∈ bf i, x ∉ bk ∧ x ∉ bb ∧ x < h.size := fun i hi' x hx =>
    ⟨fun hm => nd3 x hm x (List.mem_append_right _ (mem_flat.2 ⟨i, hi', hx⟩)) rfl, fun hm => nd6 x hm x (mem_flat.2 ⟨i, hi', hx⟩) rfl, hlt x (by simp only [List.mem_append]; exact .inr (.inr (mem_flat.2 ⟨i, hi', hx⟩)))⟩
  have hbbk : ∀ x ∈ bb, x ∉ bk ∧ x < h.size := fun x hx => ⟨fun hm => nd3 x hm x (List.mem_append_left _ hx) rfl, hlt x (by simp [hx])⟩
  refine ⟨fun i g' => ∃ (k : Nat) (cs' : Array Value), i = (k : Int) ∧ k ≤ xs.length ∧ h1.size ≤ g'.size ∧ (∀ x, x < h1.size → x ∉ bk ++ (bb ++ (List.range xs.length).flatMap bf) → g'[x]? = h1[x]?) ∧ (∀ bx ∈ bb, Blk g' bx cs' ∧ xs.length * 4 ≤ cs'.size) ∧ (∀ i (hx : i < xs.length), k ≤ i → OT g' xs[i] (bf i) (cut cs' (i * 4) 4)),
    fun i _ => xs.length - i.toNat, ⟨0, cs, rfl, by omega, zg, fun x hx hm => fg x hx (fun e => hm (by simp [e])), fun bx hbx => ?_, fun i hx _ => ?_⟩, ?_⟩
  · rcases hz with ⟨_, rfl⟩ | ⟨rfl, e1, e2, e3⟩
    · cases hbx
    · simp at hbx; subst hbx
      exact ⟨(e2.ofKeep k1).keep (fg bx (by have := (hbbk bx (by simp)).2; omega) (hbbk bx (by simp)).1), e3⟩
  · exact (hi i hx).frame fun x hx' => by
      obtain ⟨q1, q2, q3⟩ := hfl i hx x hx'
      rw [fg x (by omega) q1]; exact k1.get x q3
  rintro i g' ⟨j, cs', rfl, hj, zg', fg', blk', todo⟩
  have hnb2 : h.size ∉ bk ++ (bb ++ (List.range xs.length).flatMap bf) := fun hm => by have := hlt h.size hm; omega
  have bg' : Blk g' h.size (tcells kd s sk' si').toArray := b1.keep (fg' _ (by omega) hnb2)
  refine ⟨si', bg'.cellAdd (o := 0) (k := 3) rfl, fun hc => ?_, fun hc => ?_⟩
  · have hc' : j < xs.length := by rw [hnn.1] at hc; simp at hc; omega
    rcases hz with ⟨h0, _⟩ | ⟨rfl, e1, e2, e3⟩
    · rw [h0] at hc'; simp at hc'
    obtain ⟨hbb, hcs⟩ := blk' b (by simp)
    have otj := todo j hc' (Nat.le_refl _)
    obtain ⟨tk, ti, hcut⟩ := otj.cells
    rw [hcut] at otj
    refine ⟨si', bg'.cellAdd (o := 0) (k := 3) rfl, ⟨b, 0, none⟩, ⟨e1, by omega, by omega⟩, xs[j].kind, xs[j].text, tk, ti, ?_, ?_⟩
    · rw [addM, Nat.zero_add, Int.toNat_natCast]
      exact ldBlk hbb (vs := tcells xs[j].kind xs[j].text tk ti) (o := j * 4) (i := 0) hcut
    · have hm : xs[j] ∈ xs := List.getElem_mem hc'
      have hlt2 := tsz_item (v := .mk kd s ks xs) hm
      refine ih xs[j] (by omega) otj fun h22 hbut => ⟨rfl, ?_⟩
      have z22 := hbut.1
      have hsz : ∀ x, x ∈ bf j → x < h.size := fun x hx => (hfl j hc' x hx).2.2
      have bg22 : Blk h22 h.size (tcells kd s sk' si').toArray := bg'.keep (hbut.2 _ (by omega) fun hm => by have := hsz _ hm; omega)
      refine ⟨si', bg22.cellAdd (o := 0) (k := 3) rfl, ⟨b, 0, none⟩, ⟨e1, by omega, by omega⟩, ?_⟩
      have hbn : b ∉ bf j := fun hm => (hfl j hc' b hm).2.1 (by simp)
      have hb22 : Blk h22 b cs' := hbb.keep (hbut.2 b (by have := (hbbk b (by simp)).2; omega) hbn)
      rw [addM, addM, Nat.zero_add, Nat.add_zero, Int.toNat_natCast]
      refine storeN (vs := [.int .i64 (-7)]) okIntT hb22 rfl szIntT (by show j * 4 + 1 ≤ cs'.size; omega) (by simp [Value.oneCell']) fun h25 b25 z25 f25 => ?_
      rw [wsucc hc' (by omega)]
      refine ⟨⟨j + 1, upd cs' (j * 4) [.int .i64 (-7)], rfl, by omega, by omega, fun x hx hm => ?_, fun bx hbx => ?_, fun i hx hi' => ?_⟩, by simp only [Int.toNat_natCast]; omega⟩
      · rw [f25 x (fun e => hm (by simp [e])), hbut.2 x (by omega) fun hm' => hm (by simp only [List.mem_append]; exact .inr (.inr (mem_flat.2 ⟨j, hc', hm'⟩)))]
        exact fg' x hx hm
      · simp at hbx; subst hbx
        exact ⟨b25, by rw [upd_size (by show j * 4 + 1 ≤ cs'.size; omega)]; exact hcs⟩
      · rw [cut_upd_ne (by show j * 4 + 1 ≤ cs'.size; omega) (by right; show j * 4 + 1 ≤ i * 4; omega)]
        have oi := todo i hx (by omega)
        refine oi.frame fun x hx' => ?_
        rw [f25 x (fun e => (hfl i hx x hx').2.1 (by simp [e])), hbut.2 x (oi.lt x hx') fun hm' => nf.2 j i (by omega) hx x hm' x hx' rfl]
  · refine hK g' ⟨by omega, fun x hx hm => ?_⟩
    rw [fg' x (by omega) hm]; exact k1.get x hx
end Go.Proofs.YtaoceiiakcpbaaaGreatDoor
end
section
namespace Go.Proofs.YtaoceiiakcpbaaaGreatDoor
open Go Go.X Go.Proofs
set_option linter.unusedVariables false
theorem box_go {h : Heap} {k : Int} {s : ByteArray} {sk si : Sl} {K : Heap → Prop} (hK : ∀ h' : Heap, Keep h.size h h' → h'.size = h.size + 1 → Blk h' h.size (tcells k s sk si).toArray → K h') :
    let h_1 : Heap := Array.push h (.cells #[.int .i64 0, .string (⟨#[]⟩ : ByteArray), .slice none 0 0, .slice none 0 0] 34); XRunU Tryz.prog (Instr.storeAt 34 (.pointer (some ⟨Array.size h, 0, none⟩)) (.agg #[.int .i64 k, .string s, .slice sk.a sk.len sk.cap, .slice si.a si.len si.cap])) h_1 K := by
  intro h1
  have z1 : h1.size = h.size + 1 := Array.size_push _
  have k1 : Keep h.size h h1 := Keep.push _ _ (Nat.le_refl _)
  have b1 : Blk h1 h.size (tcells 0 ⟨#[]⟩ ⟨none, 0, 0⟩ ⟨none, 0, 0⟩).toArray := Blk.new _ _ _
  clear_value h1
  exact storeTree b1 rfl k s sk si fun h5 b5 z5 f5 => hK h5 ⟨by omega, fun i hi => by rw [f5 i (by omega)]; exact k1.get i hi⟩ (by omega) b5
theorem setR_sz {v w : Tr} {p : List ByteArray} : tsz (setR v p w).1 ≤ 1000000000000 := by
  rcases setR_cases v w p with (e | e) | ⟨o1, o2, _, _, _, e⟩
  · rw [e]; decide
  · rw [e]; decide
  · rw [e]
    have := openT_sz o1
    have := openT_sz o2
    have := setP_sz w p v
    show tsz (setP v p w) ≤ _
    omega
theorem Equal_go {gl : Fr} {a b : Tr} (ha : tsz a ≤ 1000000000000) {h : Heap} {M : Fr} {u1 u2 : Value} (hM : Fr.le gl M) (ag : AgM M h) (h1 : RdV M .tree a u1) (h2 : RdV M .tree b u2) {K : Value → Heap → Prop}
    (hK : ∀ (h' : Heap) (r : Bool), Keep h.size h h' → (r = true ↔ a = b) → K (.bool r) h') : XC Tryz.prog 17 #[u1, u2] h K := by
  have he : PC Tryz.prog gl 17 [Arg.mk .tree a, Arg.mk .tree b] [.bool] (fun r => r = true ↔ a = b) := rEqual_pc a b ha fun r hr => hr
  refine he.go (vs := [u1, u2]) hM ag (args1 h1 (args1 h2 args0)) fun w h' M' r L hret hr => ?_
  rw [retB hret]
  exact hK h' r L.keep hr
theorem Few_go {gl : Fr} {v : Tr} {m : Int} (hm : 0 ≤ m ∧ m ≤ 1000) {h : Heap} {M : Fr} {u1 : Value} (hM : Fr.le gl M) (ag : AgM M h) (h1 : RdV M .tree v u1) {K : Value → Heap → Prop}
    (hK : ∀ (h' : Heap) (r : Bool), Keep h.size h h' → (r = true → ((tks v : Nat) : Int) ≤ m ∧ Sm v) → K (.bool r) h') : XC Tryz.prog 15 #[u1, .int .i64 m] h K := by
  have he : PC Tryz.prog gl 15 [Arg.mk .tree v, Arg.mk (.int .i64) m] [.bool] (fun r => r = true → ((tks v : Nat) : Int) ≤ m ∧ Sm v) := Few_pc hm fun r hr => hr
  refine he.go (vs := [u1, .int .i64 m]) hM ag (args1 h1 (args1 (rdInt _ _) args0)) fun w h' M' r L hret hr => ?_
  rw [retB hret]
  exact hK h' r L.keep hr
theorem Short_go {gl : Fr} {l : List ByteArray} {h : Heap} {M : Fr} {u1 : Value} (hM : Fr.le gl M) (ag : AgM M h) (h1 : RdV M (.row .str) l u1) {K : Value → Heap → Prop}
    (hK : ∀ (h' : Heap) (r : Bool), Keep h.size h h' → (r = true → PS l) → K (.bool r) h') : XC Tryz.prog 10 #[u1] h K := by
  have he : PC Tryz.prog gl 10 [Arg.mk (.row .str) l] [.bool] (fun r => r = true → PS l) := Short_pc fun r hr => hr
  refine he.go (vs := [u1]) hM ag (args1 h1 args0) fun w h' M' r L hret hr => ?_
  rw [retB hret]
  exact hK h' r L.keep hr
theorem Clone_go {gl : Fr} {v : Tr} (hv : Sm v) {h : Heap} {M : Fr} {u : Value} (hM : Fr.le gl M) (ag : AgM M h) (hu : RdV M .tree v u) {K : Value → Heap → Prop}
    (hK : ∀ (h' : Heap) (M' : Fr) (sk si : Sl), Later h M h' M' → RdV M' .tree v (.agg #[.int .i64 v.kind, .string v.text, slV sk, slV si]) → K (.agg #[.int .i64 v.kind, .string v.text, slV sk, slV si]) h') : XC Tryz.prog 18 #[u] h K := by
  have he : PC Tryz.prog gl 18 [Arg.mk .tree v] [.tree] (fun r => r = v) := rClone_pc v hv rfl
  refine he.go (vs := [u]) hM ag (args1 hu args0) fun w h' M' r L hret hr => ?_
  have hr : r = v := hr
  subst hr
  have hr1 := ret1.1 hret
  obtain ⟨sk, si, rfl, rk, ri⟩ := rdTree hr1
  exact hK h' M' sk si L hr1
set_option maxHeartbeats 8000000 in
theorem Finds_pc {gl : Fr} (hg : GL gl) {v w : Tr} {path : List ByteArray} {R : Bool → Prop} (hR : R true) : PC Tryz.prog gl 5 [Arg.mk .tree v, Arg.mk (.row .str) path, Arg.mk .tree w] [.bool] R := by
  intro h M vs hM ag ha
  match vs, ha with
  | [u1, u2, u3], ⟨hu1, hu2, hu3, _⟩ =>
  have hu10 : RdV M .tree v u1 := hu1
  have hu20 : RdV M (.row .str) path u2 := hu2
  have hu30 : RdV M .tree w u3 := hu3
  obtain ⟨sk, si, rfl, rk, ri⟩ := rdTree hu1
  obtain ⟨sp, rfl, rp⟩ := rdRow hu2
  obtain ⟨wk, wi, rfl, rwk, rwi⟩ := rdTree hu3
  apply PX.of
  apply sh_scarflaw07_PointerFinds v.kind v.text sk si sp w.kind w.text wk wi
  intro h1 h2
  have z1 : h1.size = h.size + 1 := Array.size_push _
  have z2 : h2.size = h1.size + 1 := Array.size_push _
  have k1 : Keep h.size h h1 := Keep.push _ _ (Nat.le_refl _)
  have k2 : Keep h1.size h1 h2 := Keep.push _ _ (Nat.le_refl _)
  have b1 : Blk h1 h.size (tcells v.kind v.text sk si).toArray := Blk.new _ _ _
  have b2 : Blk h2 h1.size (tcells w.kind w.text wk wi).toArray := Blk.new _ _ _
  have bv := b1.ofKeep k2
  clear_value h1 h2
  have K2 : Keep h.size h h2 := k1.trans k2 (by omega)
  have fin : ∀ g : Heap, Keep h.size h g → ∃ M' r, Later h M g M' ∧ RetV M' [.bool] r (.bool true) ∧ R r := fun g kg => ⟨M, true, Later.same ag kg, ret1.2 (rdBool true), hR⟩
  have hsmall : PC Tryz.prog gl 9 [] [.bool] (fun r => r = true) := small_pc hg rfl
  refine hsmall.go (vs := []) hM (ag.keep K2) args0 fun x h4 M4 r L4 hret hr => ?_
  have hr : r = true := hr
  subst hr
  refine ⟨true, retB hret, ?_⟩
  have k4 : Keep h2.size h2 h4 := L4.keep
  have z4 := k4.size
  refine ⟨v.kind, v.text, sk, si, (bv.ofKeep k4).ld (cs := tcells v.kind v.text sk si), ?_⟩
  refine Few_go (by decide) hM (ag.keep (K2.trans k4 (by omega))) hu10 fun h11 c1 k11 hc1 => ⟨c1, rfl, w.kind, w.text, wk, wi, fun _ => ((b2.ofKeep k4).ofKeep k11).ld (cs := tcells w.kind w.text wk wi), ?_⟩
  have k11' : Keep h2.size h2 h11 := k4.trans k11 (by omega)
  have z11 := k11'.size
  refine ⟨fun y g => Keep h2.size h2 g ∧ ∃ b, y = .bool b ∧ (c1 = true → b = true → ((tks w : Nat) : Int) ≤ 300 ∧ Sm w), fun hx => ?_, fun hx => ⟨false, k11', false, rfl, fun e => by rw [e] at hx; cases hx⟩, fun _ y g hj => by obtain ⟨_, b, e, _⟩ := hj; exact ⟨b, e⟩, fun c2 g hj => ?_⟩
  · exact Few_go (by decide) hM (ag.keep (K2.trans k11' (by omega))) hu30 fun h22 c k22 hc => ⟨c, rfl, k11'.trans k22 (by omega), c, rfl, fun _ => hc⟩
  obtain ⟨kg, c2', e, hc2⟩ := hj
  cases e
  have zg := kg.size
  refine ⟨fun y g => Keep h2.size h2 g ∧ ∃ b, y = .bool b ∧ ((bif c1 then c2 else false) = true → b = true → PS path), fun hx => ?_, fun hx => ⟨false, kg, false, rfl, fun e => by rw [e] at hx; cases hx⟩, fun _ y g hj => by obtain ⟨_, b, e, _⟩ := hj; exact ⟨b, e⟩, fun c3 g2 hj => ?_⟩
  · exact Short_go hM (ag.keep (K2.trans kg (by omega))) hu20 fun h22 c k22 hc => ⟨c, rfl, kg.trans k22 (by omega), c, rfl, fun _ => hc⟩
  obtain ⟨kg2, c3', e, hc3⟩ := hj
  cases e
  have zg2 := kg2.size
  refine ⟨fun _ => fin g2 (K2.trans kg2 (by omega)), fun hx => ?_⟩
  have hx' : c1 = true ∧ c2 = true ∧ c3 = true := by
    cases c1 <;> cases c2 <;> cases c3 <;> first | exact ⟨rfl, rfl, rfl⟩ | cases hx
  obtain ⟨rfl, rfl, rfl⟩ := hx'
  obtain ⟨_, hv⟩ := hc1 rfl
  obtain ⟨_, hw⟩ := hc2 rfl rfl
  have hp := PS.sl (hc3 rfl rfl)
  clear hc1 hc2 hc3 hx hsmall
  have KG2 : Keep h.size h g2 := K2.trans kg2 (by omega)
  refine ⟨v.kind, v.text, sk, si, (bv.ofKeep kg2).ld (cs := tcells v.kind v.text sk si), ?_⟩
  refine Clone_go hv hM (ag.keep KG2) hu10 fun h42 M42 ak ai L42 rwas => ⟨v.kind, v.text, ak, ai, rfl, ?_⟩
  refine box_go fun h48 k48 z48 b48 => ?_
  have z42 := L42.keep.size
  have k248 : Keep h2.size h2 h48 := (kg2.trans L42.keep (by omega)).trans k48 (by omega)
  refine ⟨w.kind, w.text, wk, wi, (b2.ofKeep k248).ld (cs := tcells w.kind w.text wk wi), ?_⟩
  refine Clone_go hw (hM.trans L42.le) (L42.ag.keep k48) (hu30.mono L42.le) fun h54 M54 ok oi L54 rown => ⟨w.kind, w.text, ok, oi, rfl, ?_⟩
  refine box_go fun h60 k60 z60 b60 => ?_
  have z54 := L54.keep.size
  have k4860 : Keep h48.size h48 h60 := L54.keep.trans k60 (by omega)
  have k260 : Keep h2.size h2 h60 := k248.trans k4860 (by omega)
  have b48' := b48.ofKeep k4860
  have ag60 : AgM M54 h60 := L54.ag.keep k60
  have hM54 : Fr.le gl M54 := (hM.trans L42.le).trans L54.le
  have le54 : Fr.le M M54 := L42.le.trans L54.le
  have rv60 := hu10.mono le54
  have rp60 := hu20.mono le54
  have rw60 := hu30.mono le54
  have rwas60 := rwas.mono L54.le
  refine ⟨v.kind, v.text, sk, si, (bv.ofKeep k260).ld (cs := tcells v.kind v.text sk si), ?_⟩
  refine Find_on hg hv hp hM54 ag60 rv60 rp60 fun h66 bx xk xi k66 otx hbx => ⟨_, _, xk, xi, _, rfl, ?_⟩
  refine box_go fun h73 k73 z73 b73 => ?_
  have z66 := k66.size
  have k6073 : Keep h60.size h60 h73 := k66.trans k73 (by omega)
  have k273 : Keep h2.size h2 h73 := k260.trans k6073 (by omega)
  refine ⟨v.kind, v.text, sk, si, (bv.ofKeep k273).ld (cs := tcells v.kind v.text sk si), ?_⟩
  have hrf : PC Tryz.prog gl 19 [Arg.mk .tree v, Arg.mk (.row .str) path] [.tree, .bool] (fun r => r = findR v path) := rFind_pc hg hv hp rfl
  have otx73 := otx.frame fun b hb => k73.get b (otx.lt b hb)
  refine hrf.go (vs := [.agg #[.int .i64 v.kind, .string v.text, slV sk, slV si], slV sp]) (M := M54) hM54 (ag60.keep k6073) (args1 rv60 (args1 rp60 args0)) fun x h79 M79 r L79 hret hr => ?_
  have hr : r = findR v path := hr
  subst hr
  obtain ⟨us, ⟨y1, us1, rfl, ry, y2, rfl, ry2⟩, rfl⟩ := hret
  have ry0 : RdV M79 .tree (findR v path).1 y1 := ry
  obtain ⟨yk, yi, rfl, ryk, ryi⟩ := rdTree ry
  obtain rfl : y2 = .bool (findR v path).2 := by rw [rdv1 rfl] at ry2; simpa [Rd] using ry2
  refine ⟨(findR v path).1.kind, (findR v path).1.text, yk, yi, _, rfl, ?_⟩
  refine box_go fun h86 k86 z86 b86 => ?_
  have z79 := L79.keep.size
  have k7386 : Keep h73.size h73 h86 := L79.keep.trans k86 (by omega)
  have k286 : Keep h2.size h2 h86 := k273.trans k7386 (by omega)
  refine ⟨v.kind, v.text, sk, si, (bv.ofKeep k286).ld (cs := tcells v.kind v.text sk si), w.kind, w.text, wk, wi, (b2.ofKeep k286).ld (cs := tcells w.kind w.text wk wi), ?_⟩
  have k6086 : Keep h60.size h60 h86 := k6073.trans k7386 (by omega)
  refine Set_on hg hv hw hp hM54 (ag60.keep k6086) rv60 rp60 rw60 fun h96 ba ak2 ai2 k96 ota hba => ⟨_, _, ak2, ai2, _, rfl, ?_⟩
  refine box_go fun h103 k103 z103 b103 => ?_
  have z96 := k96.size
  have k86103 : Keep h86.size h86 h103 := k96.trans k103 (by omega)
  have k2103 : Keep h2.size h2 h103 := k286.trans k86103 (by omega)
  have k60103 : Keep h60.size h60 h103 := k6086.trans k86103 (by omega)
  refine ⟨v.kind, v.text, sk, si, (bv.ofKeep k2103).ld (cs := tcells v.kind v.text sk si), w.kind, w.text, wk, wi, (b2.ofKeep k2103).ld (cs := tcells w.kind w.text wk wi), ?_⟩
  have hrs : PC Tryz.prog gl 21 [Arg.mk .tree v, Arg.mk (.row .str) path, Arg.mk .tree w] [.tree, .int .i64] (fun r => r = setR v path w) := rSet_pc hg hv hw hp rfl
  have ota103 := ota.frame fun b hb => k103.get b (ota.lt b hb)
  have k79103 : Keep h79.size h79 h103 := k86.trans k86103 (by omega)
  refine hrs.go (vs := [.agg #[.int .i64 v.kind, .string v.text, slV sk, slV si], slV sp, .agg #[.int .i64 w.kind, .string w.text, slV wk, slV wi]]) (M := M79) (hM54.trans L79.le) (L79.ag.keep k79103) (args1 (rv60.mono L79.le) (args1 (rp60.mono L79.le) (args1 (rw60.mono L79.le) args0))) fun x h113 M113 r L113 hret hr => ?_
  have hr : r = setR v path w := hr
  subst hr
  obtain ⟨us, ⟨t1, us1, rfl, rt, t2, rfl, rt2⟩, rfl⟩ := hret
  have rt0 : RdV M113 .tree (setR v path w).1 t1 := rt
  obtain ⟨tk, ti, rfl, rtk, rti⟩ := rdTree rt
  obtain rfl : t2 = .int .i64 (setR v path w).2 := by rw [rdv1 rfl] at rt2; simpa [Rd] using rt2
  refine ⟨(setR v path w).1.kind, (setR v path w).1.text, tk, ti, _, rfl, ?_⟩
  refine box_go fun h120 k120 z120 b120 => ?_
  have z113 := L113.keep.size
  have k103120 : Keep h103.size h103 h120 := L113.keep.trans k120 (by omega)
  have k86120 : Keep h86.size h86 h120 := k86103.trans k103120 (by omega)
  have k73120 : Keep h73.size h73 h120 := k7386.trans k86120 (by omega)
  have k60120 : Keep h60.size h60 h120 := k6073.trans k73120 (by omega)
  have k2120 : Keep h2.size h2 h120 := k260.trans k60120 (by omega)
  have ag120 : AgM M113 h120 := L113.ag.keep k120
  have otx120 := otx73.frame fun b hb => k73120.get b (otx73.lt b hb)
  have ota120 := ota103.frame fun b hb => k103120.get b (ota103.lt b hb)
  have bxM : ∀ b ∈ bx, M113 b = none := fun b hb => by
    have h1 := hbx b hb
    have h2 := otx.lt b hb
    cases hm : M54 b with
    | some c => have := ag60.lt hm; omega
    | none => rw [L113.old b (by omega), L79.old b (by omega)]; exact hm
  have baM : ∀ b ∈ ba, M113 b = none := fun b hb => by
    have h1 := hba b hb
    have h2 := ota.lt b hb
    rw [L113.old b (by omega)]
    cases hm : M79 b with
    | some c => have := L79.ag.lt hm; omega
    | none => rfl
  have lex : ∀ bs : List Nat, (∀ b ∈ bs, M113 b = none) → Fr.le M113 (MxL M113 h120 bs) := fun bs hb b c e => by
    unfold MxL; rw [if_neg (fun hm => by rw [hb b hm] at e; cases e)]; exact e
  have hM113 : Fr.le gl M113 := (hM54.trans L79.le).trans L113.le
  refine ⟨_, _, xk, xi, (b73.ofKeep k73120).ld (cs := tcells _ _ xk xi), (findR v path).1.kind, (findR v path).1.text, yk, yi, (b86.ofKeep k86120).ld (cs := tcells _ _ yk yi), ?_⟩
  refine Equal_go (findR_sm hv) (hM113.trans (lex bx bxM)) (MxL.ag ag120 bx) otx120.rdv ((ry0.mono L113.le).mono (lex bx bxM)) fun h130 r1 k130 hr1 => ⟨r1, rfl, ?_⟩
  have hr1 : r1 = true := hr1.2 rfl
  subst hr1
  have z130 := k130.size
  have k103130 : Keep h103.size h103 h130 := k103120.trans k130 (by omega)
  refine ⟨_, _, ak2, ai2, fun _ => (b103.ofKeep k103130).ld (cs := tcells _ _ ak2 ai2), (setR v path w).1.kind, (setR v path w).1.text, tk, ti, fun _ => (b120.ofKeep k130).ld (cs := tcells _ _ tk ti), ?_⟩
  have ota130 := ota120.frame fun b hb => k130.get b (ota120.lt b hb)
  have lea : Fr.le M113 (MxL M113 h130 ba) := fun b c e => by
    unfold MxL; rw [if_neg (fun hm => by rw [baM b hm] at e; cases e)]; exact e
  refine ⟨fun y g => Keep h130.size h130 g ∧ y = .bool true, fun _ => ?_, fun hx => (by cases hx), fun _ y g hj => ⟨true, hj.2⟩, fun c4 g4 hj => ?_⟩
  · refine Equal_go setR_sz (hM113.trans lea) (MxL.ag (ag120.keep k130) ba) ota130.rdv (rt0.mono lea) fun h145 r2 k145 hr2 => ⟨r2, rfl, k145, ?_⟩
    rw [hr2.2 rfl]
  obtain ⟨kg4, e⟩ := hj
  cases e
  have zg4 := kg4.size
  have k120g : Keep h120.size h120 g4 := k130.trans kg4 (by omega)
  have k73g : Keep h73.size h73 g4 := k73120.trans k120g (by omega)
  have k103g : Keep h103.size h103 g4 := k103120.trans k120g (by omega)
  have k60g : Keep h60.size h60 g4 := k60120.trans k120g (by omega)
  have otxg := otx120.frame fun b hb => k120g.get b (otx120.lt b hb)
  have otag := ota120.frame fun b hb => k120g.get b (ota120.lt b hb)
  refine ⟨_, _, xk, xi, (b73.ofKeep k73g).ld (cs := tcells _ _ xk xi), ?_⟩
  refine Spoil_on _ _ (Nat.le_refl _) otxg fun h155 hb155 => ⟨rfl, ?_⟩
  have z155 := hb155.1
  have bx66 : ∀ b ∈ bx, b < h66.size := fun b hb => otx.lt b hb
  have ba96 : ∀ b ∈ ba, b < h96.size := fun b hb => ota.lt b hb
  have otaS := otag.frame fun b hb => hb155.2 b (otag.lt b hb) fun hm => by have := bx66 b hm; have := hba b hb; omega
  have b103S : Blk h155 h96.size (tcells (setR v path w).1.kind (setR v path w).1.text ak2 ai2).toArray := (b103.ofKeep k103g).keep (hb155.2 _ (by omega) fun hm => by have := bx66 _ hm; omega)
  refine ⟨_, _, ak2, ai2, b103S.ld (cs := tcells _ _ ak2 ai2), ?_⟩
  refine Spoil_on _ _ (Nat.le_refl _) otaS fun h161 hb161 => ⟨rfl, ?_⟩
  have z161 := hb161.1
  have old : ∀ b, b < h60.size → h161[b]? = h60[b]? := fun b hb => by
    rw [hb161.2 b (by omega) fun hm => by have := hba b hm; omega, hb155.2 b (by omega) fun hm => by have := hbx b hm; omega]
    exact k60g.get b hb
  have k60s : Keep h60.size h60 h161 := ⟨by omega, old⟩
  have k2s : Keep h2.size h2 h161 := k260.trans k60s (by omega)
  have k48s : Keep h48.size h48 h161 := k4860.trans k60s (by omega)
  have ag161 : AgM M54 h161 := ag60.keep k60s
  have t1 : ((findR v path).2 == (findR v path).2) = true := by simp
  have t2 : ((setR v path w).2 == (setR v path w).2) = true := by simp
  simp only [t1, t2, cond_true]
  refine ⟨v.kind, v.text, sk, si, fun _ => (bv.ofKeep k2s).ld (cs := tcells v.kind v.text sk si), v.kind, v.text, ak, ai, fun _ => (b48.ofKeep k48s).ld (cs := tcells v.kind v.text ak ai), ?_⟩
  refine ⟨fun y g => Keep h161.size h161 g ∧ y = .bool true, fun _ => ?_, fun hx => (by cases hx), fun _ y g hj => ⟨true, hj.2⟩, fun c5 g5 hj => ?_⟩
  · refine Equal_go hv.sz hM54 ag161 rv60 rwas60 fun h145 r2 k145 hr2 => ⟨r2, rfl, k145, ?_⟩
    rw [hr2.2 rfl]
  obtain ⟨kg5, e⟩ := hj
  cases e
  have zg5 := kg5.size
  have k2g5 : Keep h2.size h2 g5 := k2s.trans kg5 (by omega)
  have k60g5 : Keep h60.size h60 g5 := k60s.trans kg5 (by omega)
  simp only [cond_true]
  refine ⟨w.kind, w.text, wk, wi, fun _ => (b2.ofKeep k2g5).ld (cs := tcells w.kind w.text wk wi), w.kind, w.text, ok, oi, fun _ => (b60.ofKeep k60g5).ld (cs := tcells w.kind w.text ok oi), ?_⟩
  refine ⟨fun y g => Keep g5.size g5 g ∧ y = .bool true, fun _ => ?_, fun hx => (by cases hx), fun _ y g hj => ⟨true, hj.2⟩, fun c6 g6 hj => ?_⟩
  · refine Equal_go hw.sz hM54 (ag60.keep k60g5) rw60 rown fun h145 r2 k145 hr2 => ⟨r2, rfl, k145, ?_⟩
    rw [hr2.2 rfl]
  obtain ⟨kg6, e⟩ := hj
  cases e
  have zg6 := kg6.size
  exact fin g6 (K2.trans (k2g5.trans kg6 (by omega)) (by omega))
end Go.Proofs.YtaoceiiakcpbaaaGreatDoor
end
