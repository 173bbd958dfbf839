/- A part of the proof: nothing is stated here for its own sake. -/
import Derived.Test.YtaoceiiakcpbaaaGreatDoorPbE
section
namespace Go.Proofs.YtaoceiiakcpbaaaGreatDoor
open Go Go.X Go.Proofs
set_option linter.unusedVariables false
theorem elemInt : ElemT Tryz.prog 71 3 (.int .i64 0) 1 8 := ⟨by kernel_rfl, ⟨Tryz.t3, by kernel_rfl, by kernel_rfl, by kernel_rfl, by kernel_rfl⟩, rfl, by omega⟩
theorem okInts : okInfo Tryz.prog 71 = true := by kernel_rfl
theorem szInts : szOf Tryz.prog 71 = 1 := by kernel_rfl
def intV (l : List Int) : List Value := l.map (Value.int .i64)
structure LI (h0 : Heap) (M : Fr) (rec : Rec) (sp : Sl) (w x : Tr) (os : List Int) (g : Heap) : Prop where
  keep : Keep h0.size h0 g
  size : h0.size + 7 ≤ g.size
  v : ∃ sk si, Blk g h0.size (tcells w.kind w.text sk si).toArray ∧ Rd M (.row .str) w.keys [slV sk] ∧ Rd M (.row .tree) w.items [slV si]
  z : Blk g (h0.size + 1) (tcells 0 ⟨#[]⟩ ⟨none, 0, 0⟩ ⟨none, 0, 0⟩).toArray
  o : ∃ so, Blk g (h0.size + 2) #[slV so] ∧ Owns g (h0.size + 7) 3 1 so (intV os) ∧ so.len = os.length
  c : ∃ sk si, Blk g (h0.size + 3) (tcells x.kind x.text sk si).toArray ∧ Rd M (.row .str) x.keys [slV sk] ∧ Rd M (.row .tree) x.items [slV si]
  p : Blk g (h0.size + 4) #[slV sp]
  d : g[h0.size + 5]? = some (.deferred (some []))
  l : g[h0.size + 6]? = some (.loop (rec .ready none))
theorem LI.frame {h0 : Heap} {M : Fr} {rec : Rec} {sp : Sl} {w x : Tr} {os : List Int} {g g' : Heap} (I : LI h0 M rec sp w x os g) (k : Keep g.size g g') : LI h0 M rec sp w x os g' := by
  have hs := I.size
  have hk := k.size
  obtain ⟨sk, si, v1, v2, v3⟩ := I.v
  obtain ⟨so, o1, o2, o3⟩ := I.o
  obtain ⟨tk, ti, c1, c2, c3⟩ := I.c
  exact ⟨⟨by have := I.keep.size; omega, fun i hi => (k.get i (by omega)).trans (I.keep.get i hi)⟩, by omega, ⟨sk, si, v1.ofKeep k, v2, v3⟩, I.z.ofKeep k, ⟨so, o1.ofKeep k, o2.keepN k, o3⟩, ⟨tk, ti, c1.ofKeep k, c2, c3⟩, I.p.ofKeep k, by rw [k.get _ (by omega)]; exact I.d, by rw [k.get _ (by omega)]; exact I.l⟩
theorem set_ne' {h : Heap} {l i : Nat} {o : Obj} (hi : i ≠ l) : (h.setIfInBounds l o)[i]? = h[i]? := Array.getElem?_setIfInBounds_ne (Ne.symm hi)
theorem set_self' {h : Heap} {l : Nat} {o : Obj} (hl : l < h.size) : (h.setIfInBounds l o)[l]? = some o := Array.getElem?_setIfInBounds_self_of_lt hl
set_option maxRecDepth 100000 in
set_option maxHeartbeats 2000000 in
theorem round_ok {h0 : Heap} {M : Fr} {rec : Rec} {sp : Sl} {w x : Tr} {os : List Int} {h : Heap} (I : LI h0 M rec sp w x os h) (r : Int) (hos : os.length < 1000000) {sk si : Sl} (hk : Rd M (.row .str) x.keys [slV sk]) (hi : Rd M (.row .tree) x.items [slV si]) {K : Value → Heap → Prop}
    (hK : ∀ h', LI h0 M rec sp x x (os ++ [r]) h' → K (.bool true) h') :
    roundF Tryz.prog 27 (ropsOf (codeOf Tryz.f46)) [3, 4] 5 (fun h3 => h3[h0.size + 6]? = some (.loop (rec .ready none))) (fun h3 => h3.setIfInBounds (h0.size + 6) (.loop (rec .busy none)))
      (fun h4 => h4[h0.size + 6]? = some (.loop (rec .busy none)) ∧ K (.bool true) (h4.setIfInBounds (h0.size + 6) (.loop (rec .ready none))))
      [(13, [], .int .i64 r), (14, [], .agg #[.int .i64 x.kind, .string x.text, .slice sk.a sk.len sk.cap, .slice si.a si.len si.cap]), (2, [], .pointer (some ⟨h0.size, 0, none⟩)), (7, [], .pointer (some ⟨h0.size + 2, 0, none⟩))] h := by
  have hs := I.size
  obtain ⟨so, o1, o2, o3⟩ := I.o
  obtain ⟨vk, vi, v1, v2, v3⟩ := I.v
  obtain ⟨ck, ci, c1, c2, c3⟩ := I.c
  have hsb : ∀ p, so.a = some p → h0.size + 7 ≤ p.block ∧ p.block < h.size := fun p hp => o2.base_le p hp
  refine rd_pointer_leads r x.kind x.text sk si ⟨h0.size, 0, none⟩ ⟨h0.size + 2, 0, none⟩ h _ _ _ ?_
  intro h11
  have z11 : h11.size = h.size + 1 := Array.size_push _
  have k11 : Keep h.size h h11 := Keep.push _ _ (Nat.le_refl _)
  have b11 : Blk h11 h.size (tcells 0 ⟨#[]⟩ ⟨none, 0, 0⟩ ⟨none, 0, 0⟩).toArray := Blk.new _ _ _
  clear_value h11
  refine storeTree b11 rfl _ _ _ _ fun h12 b12 z12 f12 => ?_
  have g12 : ∀ i, i < h.size → h12[i]? = h[i]? := fun i hi => (f12 i (by omega)).trans (k11.get i hi)
  refine ⟨by rw [g12 _ (by omega)]; exact I.l, ?_⟩
  generalize hG : h12.setIfInBounds (h0.size + 6) (.loop (rec .busy none)) = G
  have zG : G.size = h.size + 1 := by rw [← hG, Array.size_setIfInBounds]; omega
  have gG : ∀ i, i < h.size → i ≠ h0.size + 6 → G[i]? = h[i]? := fun i hi hn => by rw [← hG, set_ne' hn]; exact g12 i hi
  have lG : G[h0.size + 6]? = some (.loop (rec .busy none)) := by rw [← hG]; exact set_self' (by omega)
  have bG : Blk G h.size (tcells x.kind x.text sk si).toArray := b12.keep (by rw [← hG, set_ne' (by omega)])
  have oG : Blk G (h0.size + 2) #[slV so] := o1.keep (gG _ (by omega) (by omega))
  refine ⟨so, oG.cell (o := 0) rfl, x.kind, x.text, sk, si, bG.ld (cs := tcells x.kind x.text sk si), ?_⟩
  intro h18
  have z18 : h18.size = h.size + 2 := by show (G.push _).size = _; rw [Array.size_push, zG]
  have k18 : Keep G.size G h18 := Keep.push _ _ (Nat.le_refl _)
  have b18 : Blk h18 G.size #[.int .i64 r] := Blk.new _ _ _
  clear_value h18
  refine ⟨⟨k18.get _ (by show h.size < _; omega), k18.get _ (by show h0.size + 2 < _; omega), trivial⟩, ?_⟩
  have oo18 : Owns h18 (h0.size + 7) 3 1 so (intV os) := o2.keep fun p hp => by
    have := hsb p hp
    rw [k18.get _ (by omega), gG _ (by omega) (by omega)]
  refine append_own elemInt oo18 (src := ⟨some ⟨G.size, 0, none⟩, 1, 1⟩) (news := [.int .i64 r]) (n := h18.size) ?_ rfl (by simp [Value.oneCell']) (by simp only; omega) (by simp only; omega) (by omega) fun s' h20 q1 q2 q3 q4 q5 => ⟨s', rfl, ?_⟩
  · refine .inr ⟨G.size, 0, rfl, by omega, fun i v hv => ?_⟩
    match i, hv with
    | 0, hv => cases hv; exact b18.cell rfl
  have g20 : ∀ i, i < h18.size → (∀ p, so.a = some p → i ≠ p.block) → h20[i]? = h18[i]? := q3
  have t20 : h20[h.size]? = G[h.size]? := (g20 _ (by omega) fun p hp => by have := hsb p hp; omega).trans (k18.get _ (by omega))
  refine ⟨⟨t20, trivial⟩, ?_⟩
  have low20 : ∀ i, i < h0.size + 7 → i ≠ h0.size + 6 → h20[i]? = h[i]? := fun i hi hn => (g20 i (by omega) fun p hp => by have := hsb p hp; omega).trans ((k18.get _ (by omega)).trans (gG i (by omega) hn))
  have l20 : h20[h0.size + 6]? = some (.loop (rec .busy none)) := (g20 _ (by omega) fun p hp => by have := hsb p hp; omega).trans ((k18.get _ (by omega)).trans lG)
  refine storeN (vs := [slV s']) okInts (o1.keep (low20 _ (by omega) (by omega))) rfl szInts (by simp) (by simp [Value.oneCell', slV]) fun h22 b22 z22 f22 => ?_
  have e22 : upd #[slV so] 0 [slV s'] = #[slV s'] := by simp [upd]
  rw [e22] at b22
  refine ⟨⟨(f22 _ (by show h.size ≠ _; omega)).trans t20, trivial⟩, ?_⟩
  refine storeTree (v1.keep ((f22 _ (by omega)).trans (low20 _ (by omega) (by omega)))) rfl _ _ _ _ fun h23 b23 z23 f23 => ?_
  have l23 : h23[h0.size + 6]? = some (.loop (rec .busy none)) := (f23 _ (by omega)).trans ((f22 _ (by omega)).trans l20)
  refine ⟨l23, hK _ ?_⟩
  have low : ∀ i, i < h0.size + 7 → i ≠ h0.size + 6 → i ≠ h0.size → i ≠ h0.size + 2 → (h23.setIfInBounds (h0.size + 6) (.loop (rec .ready none)))[i]? = h[i]? := fun i hi h1 h2 h3 => (set_ne' h1).trans ((f23 _ h2).trans ((f22 _ h3).trans (low20 i hi h1)))
  have q1' : s'.len = so.len + 1 := q1
  refine ⟨⟨by rw [Array.size_setIfInBounds]; have := I.keep.size; omega, fun i hi => (low i (by omega) (by omega) (by omega) (by omega)).trans (I.keep.get i hi)⟩, by rw [Array.size_setIfInBounds]; omega, ⟨sk, si, b23.keep (set_ne' (by omega)), hk, hi⟩, I.z.keep (low _ (by omega) (by omega) (by omega) (by omega)), ⟨s', b22.keep ((set_ne' (by omega)).trans (f23 _ (by omega))), ?_, by rw [q1', o3]; simp⟩, ⟨ck, ci, c1.keep (low _ (by omega) (by omega) (by omega) (by omega)), c2, c3⟩, I.p.keep (low _ (by omega) (by omega) (by omega) (by omega)), (low _ (by omega) (by omega) (by omega) (by omega)).trans I.d, set_self' (by omega)⟩
  have e : intV (os ++ [r]) = intV os ++ [.int .i64 r] := by unfold intV; rw [List.map_append]; rfl
  rw [e]
  refine q2.keep fun p hp => ?_
  have := q2.base_le p hp
  rw [set_ne' (by omega), f23 _ (by omega), f22 _ (by omega)]
theorem LI.setC {h0 : Heap} {M : Fr} {rec : Rec} {sp : Sl} {w x y : Tr} {os : List Int} {g g' : Heap} (I : LI h0 M rec sp w x os g) (hz : g'.size = g.size) (hf : ∀ j, j ≠ h0.size + 3 → g'[j]? = g[j]?) {sk si : Sl} (hb : Blk g' (h0.size + 3) (tcells y.kind y.text sk si).toArray) (hk : Rd M (.row .str) y.keys [slV sk]) (hi : Rd M (.row .tree) y.items [slV si]) : LI h0 M rec sp w y os g' := by
  have hs := I.size
  obtain ⟨vk, vi, v1, v2, v3⟩ := I.v
  obtain ⟨so, o1, o2, o3⟩ := I.o
  refine ⟨⟨by have := I.keep.size; omega, fun i hi => (hf i (by omega)).trans (I.keep.get i hi)⟩, by omega, ⟨vk, vi, v1.keep (hf _ (by omega)), v2, v3⟩, I.z.keep (hf _ (by omega)), ⟨so, o1.keep (hf _ (by omega)), o2.keep fun p hp => hf _ (by have := o2.base_le p hp; omega), o3⟩, ⟨sk, si, hb, hk, hi⟩, I.p.keep (hf _ (by omega)), (hf _ (by omega)).trans I.d, (hf _ (by omega)).trans I.l⟩
theorem rowC_ints (M : Fr) (xs : List Int) : RowC M (.int .i64) xs (intV xs) := by
  refine ⟨by simp [sz, intV], fun i hi => ?_⟩
  simp only [sz, Nat.mul_one]
  have hi' : i < (intV xs).length := by unfold intV; simpa using hi
  rw [List.drop_eq_getElem_cons hi', List.take_succ_cons, List.take_zero]
  simp only [intV, List.getElem_map]
  rfl
theorem intsRd {M : Fr} {h0 h : Heap} (ag : AgM M h0) (k : Keep h0.size h0 h) {base : Nat} (hb : h0.size ≤ base) {so : Sl} {xs : List Int} (H : Owns h base 3 1 so (intV xs)) (hl : so.len = xs.length) (hn : xs.length ≤ 140737488355328) : ∃ M', Later h0 M h M' ∧ RdV M' (.row (.int .i64)) xs (slV so) := by
  rcases Owns.blk H with ⟨h0', hc⟩ | ⟨b, cs, e1, e2, e3, e4, e5, e6⟩
  · refine ⟨M, Later.same ag k, ?_⟩
    have : xs = [] := List.eq_nil_of_length_eq_zero (by omega)
    subst this
    rw [rdv1 rfl]
    exact ⟨_, rfl, so.a, so.cap, by rw [slV, h0']; rfl, ⟨by simp, by simp⟩, .inl rfl⟩
  · refine ⟨MxL M h [b], MxL.later ag k (fun x hx => by simp at hx; omega), ?_⟩
    rw [rdv1 rfl, slV, e1, hl]
    refine RowC.rd (cs := cs) (rowC_ints _ xs) (MxL.at (by simp) e3) ?_ ⟨hn, by omega⟩
    rw [← e5, hl]; rfl
set_option maxRecDepth 100000 in
set_option maxHeartbeats 800000 in
theorem leads_pc {gl : Fr} (hg : GL gl) {v : Tr} (hv : Sm v) (ho : allT nodeOk v = true) {p : List ByteArray} (hp : SL p) {R : List Int × Tr × Bool → Prop} (hR : R ((stepsP v p).map (fun q => (q.1 : Int)), lastT v (stepsP v p), decide ((stepsP v p).length = p.length))) :
    PC Tryz.prog gl 46 [Arg.mk .tree v, Arg.mk (.row .str) p] [.row (.int .i64), .tree, .bool] R := by
  intro h M vs hM ag ha
  match vs, ha with
  | [u, w], ⟨hu, hw, _⟩ =>
    have hu : RdV M .tree v u := hu
    obtain ⟨sk, si, rfl, rk, ri⟩ := rdTree hu
    obtain ⟨sp, rfl, hr⟩ := rdRow hw
    have hr : Rd M (.row .str) p [slV sp] := hr
    obtain ⟨hlen, hb1, hb2⟩ := rowLen hr
    have hpn := hp.n
    apply PX.of
    obtain ⟨RR, hRR⟩ : ∃ RR : Value → Heap → Prop, RR = fun v h' => ∃ M' r, Later h M h' M' ∧ RetV M' [.row (.int .i64), .tree, .bool] r v ∧ R r := ⟨_, rfl⟩
    refine XC.mono (R := RR) ?_ (fun v h' hx => by rw [hRR] at hx; exact hx)
    refine XC_range (P := Tryz.prog) Tryz.mixed (ro := ropsOf (codeOf Tryz.f46)) (n := 27) (rs := [.tmp 4, .cell 5 34, .tmp 6]) Tryz.func46 (by kernel_rfl) (by kernel_rfl) (by kernel_rfl) (by kernel_rfl) (by kernel_rfl) (by kernel_rfl) (by decide) [.agg #[.int .i64 v.kind, .string v.text, slV sk, slV si], slV sp] (by kernel_rfl) ?_
    refine hd_pointer_leads v.kind v.text sk si sp h _ ?_
    intro h1 h2 h3
    have z1 : h1.size = h.size + 1 := Array.size_push _
    have z2 : h2.size = h1.size + 1 := Array.size_push _
    have z3 : h3.size = h2.size + 1 := Array.size_push _
    have k1 : Keep h.size h h1 := Keep.push _ _ (Nat.le_refl _)
    have k2 : Keep h1.size h1 h2 := Keep.push _ _ (Nat.le_refl _)
    have k3 : Keep h2.size h2 h3 := Keep.push _ _ (Nat.le_refl _)
    have b1 : Blk h1 h.size (tcells v.kind v.text sk si).toArray := Blk.new _ _ _
    have b2 : Blk h2 h1.size (tcells 0 ⟨#[]⟩ ⟨none, 0, 0⟩ ⟨none, 0, 0⟩).toArray := Blk.new _ _ _
    have b3 : Blk h3 h2.size #[slV ⟨none, 0, 0⟩] := Blk.new _ _ _
    clear_value h1 h2 h3
    refine ⟨v.kind, v.text, sk, si, ((b1.ofKeep k2).ofKeep k3).ld (cs := tcells v.kind v.text sk si), ?_⟩
    apply sh_pointer_walk v.kind v.text sk si sp
    intro h4 h5
    have z4 : h4.size = h3.size + 1 := Array.size_push _
    have z5 : h5.size = h4.size + 1 := Array.size_push _
    have k4 : Keep h3.size h3 h4 := Keep.push _ _ (Nat.le_refl _)
    have k5 : Keep h4.size h4 h5 := Keep.push _ _ (Nat.le_refl _)
    have b4 : Blk h4 h3.size (tcells v.kind v.text sk si).toArray := Blk.new _ _ _
    have b5 : Blk h5 h4.size #[slV sp] := Blk.new _ _ _
    clear_value h4 h5
    have e1 : h1.size = h.size + 1 := z1
    have e2 : h2.size = h.size + 2 := by omega
    have e3 : h3.size = h.size + 3 := by omega
    have e4 : h4.size = h.size + 4 := by omega
    have e5 : h5.size = h.size + 5 := by omega
    refine ⟨_, rfl, _, _, _, _, _, _, rfl, by kernel_rfl, ?_⟩
    rw [e1, e2, e3, e4, e5, show h.size + 5 + 1 = h.size + 6 from rfl]
    intro rec hY
    have K0 : Keep h.size h h5 := (((k1.trans k2 (by omega)).trans k3 (by omega)).trans k4 (by omega)).trans k5 (by omega)
    obtain ⟨g6, hg6⟩ : ∃ g6, (h5.push (.deferred (some []))).push (.loop (rec .ready none)) = g6 := ⟨_, rfl⟩
    have z6 : g6.size = h.size + 7 := by rw [← hg6, Array.size_push, Array.size_push]; omega
    have k6 : Keep h5.size h5 g6 := by
      rw [← hg6]
      exact (Keep.push h5 (.deferred (some [])) (Nat.le_refl _)).trans (Keep.push _ _ (by rw [Array.size_push]; omega)) (Nat.le_refl _)
    have I0 : LI h M rec sp v v [] g6 := by
      refine ⟨K0.trans k6 (by omega), by omega, ⟨sk, si, (((b1.ofKeep k2).ofKeep k3).ofKeep k4 |>.ofKeep k5).ofKeep k6, rk, ri⟩, ?_, ⟨⟨none, 0, 0⟩, ?_, Owns.nil _ _ _ _, rfl⟩, ⟨sk, si, ?_, rk, ri⟩, ?_, ?_, ?_⟩
      · rw [← e1]; exact ((b2.ofKeep k3).ofKeep k4 |>.ofKeep k5).ofKeep k6
      · rw [← e2]; exact ((b3.ofKeep k4).ofKeep k5).ofKeep k6
      · rw [← e3]; exact (b4.ofKeep k5).ofKeep k6
      · rw [← e4]; exact b5.ofKeep k6
      · rw [← hg6, Array.getElem?_push, if_neg (by rw [Array.size_push]; omega), ← e5]; exact get_push _ _
      · rw [← hg6]
        have := get_push (h5.push (.deferred (some []))) (.loop (rec .ready none))
        rw [Array.size_push, e5] at this; exact this
    rw [hg6]
    clear hg6
    have fin : ∀ (w : Tr) (done : List (Nat × Tr)) (g : Heap), stepsP v p = done → lastT v done = w → LI h M rec sp w w (done.map fun q => (q.1 : Int)) g →
        (g[h.size + 6]? = some (.loop (rec .ready none)) ∧ tailF Tryz.prog 27 (ropsOf (codeOf Tryz.f46)) 6 [.tmp 4, .cell 5 34, .tmp 6] (h.size + 5) RR
          [(1, [], .slice sp.a sp.len sp.cap), (2, [], .pointer (some ⟨h.size, 0, none⟩)), (5, [], .pointer (some ⟨h.size + 1, 0, none⟩)), (7, [], .pointer (some ⟨h.size + 2, 0, none⟩))] (g.setIfInBounds (h.size + 6) (.loop (rec .exhausted none)))) := by
      intro w done g hdone hlast I
      refine ⟨I.l, ?_⟩
      have hs := I.size
      obtain ⟨so, o1, o2, o3⟩ := I.o
      obtain ⟨vk, vi, v1, v2, v3⟩ := I.v
      obtain ⟨G, hG⟩ : ∃ G, g.setIfInBounds (h.size + 6) (.loop (rec .exhausted none)) = G := ⟨_, rfl⟩
      have zG : G.size = g.size := by rw [← hG, Array.size_setIfInBounds]
      have gG : ∀ i, i ≠ h.size + 6 → G[i]? = g[i]? := fun i hi => by rw [← hG]; exact set_ne' hi
      rw [hG]
      unfold tailF
      refine tl_pointer_leads sp ⟨h.size, 0, none⟩ ⟨h.size + 1, 0, none⟩ ⟨h.size + 2, 0, none⟩ G (fun h1 => h1[h.size + 5]? = some (.deferred (some []))) (fun h1 => h1.setIfInBounds (h.size + 5) (.deferred none)) RR ?_
      have oG : Blk G (h.size + 2) #[slV so] := o1.keep (gG _ (by omega))
      refine ⟨so, oG.cell (o := 0) rfl, w.kind, w.text, vk, vi, (v1.keep (gG _ (by omega))).ld (cs := tcells w.kind w.text vk vi), so, oG.cell (o := 0) rfl, ?_⟩
      refine storeTree (I.z.keep (gG _ (by omega))) rfl _ _ _ _ fun h30 b30 z30 f30 => ?_
      refine ⟨⟨f30 _ (by show h.size + 2 ≠ _; omega), trivial⟩, (f30 _ (by omega)).trans ((gG _ (by omega)).trans I.d), w.kind, w.text, vk, vi, (b30.keep (set_ne' (by omega))).ld (cs := tcells w.kind w.text vk vi), ?_⟩
      have KF : Keep h.size h (h30.setIfInBounds (h.size + 5) (.deferred none)) := ⟨by rw [Array.size_setIfInBounds]; have := I.keep.size; omega, fun i hi => by rw [set_ne' (by omega), f30 _ (by omega), gG _ (by omega)]; exact I.keep.get i hi⟩
      have OF : Owns (h30.setIfInBounds (h.size + 5) (.deferred none)) (h.size + 7) 3 1 so (intV (done.map fun q => (q.1 : Int))) := o2.keep fun q hq => by
        have := o2.base_le q hq
        rw [set_ne' (by omega), f30 _ (by omega), gG _ (by omega)]
      have hdl := stepsP_len v p
      rw [hdone] at hdl
      obtain ⟨M', L', hrd⟩ := intsRd ag KF (by omega) OF o3 (by rw [List.length_map]; omega)
      rw [hRR]
      refine ⟨M', (done.map (fun q => (q.1 : Int)), w, decide (done.length = p.length)), L', ⟨[slV so, .agg #[.int .i64 w.kind, .string w.text, slV vk, slV vi], .bool (decide (done.length = p.length))], ⟨_, _, rfl, hrd, _, _, rfl, rdTree_mk (Rd.mono L'.le v2) (Rd.mono L'.le v3), _, rfl, rdBool _⟩, ?_⟩, ?_⟩
      · have hbq : (((so.len : Nat) : Int) == ((sp.len : Nat) : Int)) = decide (done.length = p.length) := by
          rw [o3, hlen, List.length_map, Bool.eq_iff_iff]; simp; omega
        rw [hbq]; rfl
      · rw [hdone, hlast] at hR; exact hR
    show XCI Tryz.prog 98 #[.func (.yield (h.size + 6)) #[] #[], .pointer (some ⟨h.size + 4, 0, none⟩), .pointer (some ⟨h.size + 3, 0, none⟩)] g6 _
    refine yi_pointer_walk_1 (h.size + 6) ⟨h.size + 4, 0, none⟩ ⟨h.size + 3, 0, none⟩ g6 _ ?_
    refine ⟨sp, I0.p.cell (o := 0) rfl, fun i g => ∃ (k : Nat) (w : Tr) (done : List (Nat × Tr)), i = k ∧ k ≤ p.length ∧ Sm w ∧ allT nodeOk w = true ∧ done.length = k ∧ stepsP v p = done ++ stepsP w (p.drop k) ∧ lastT v done = w ∧ LI h M rec sp w w (done.map fun q => (q.1 : Int)) g, fun i _ => p.length - i.toNat, ⟨0, v, [], rfl, by omega, hv, ho, rfl, by simp, rfl, I0⟩, ?_⟩
    rintro i g ⟨k, w, done, rfl, hk, hw, how, hdl, hst, hla, I⟩
    refine ⟨fun hc => ?_, fun hc => ?_⟩
    · have hc' : k < p.length := by simp at hc; omega
      have agg : AgM M g := ag.keep I.keep
      refine strAt agg hr hc' rfl rfl ?_
      obtain ⟨ck, ci, c1, c2, c3⟩ := I.c
      refine ⟨w.kind, w.text, ck, ci, c1.ld (cs := tcells w.kind w.text ck ci), ?_⟩
      have hpk := hp.s _ (List.getElem_mem hc')
      have hit : PC Tryz.prog gl 99 [Arg.mk .tree w, Arg.mk .str p[k]] [.int .i64] (fun r => r = stepP w p[k]) := item_pc hg hpk rfl
      refine hit.go (vs := [.agg #[.int .i64 w.kind, .string w.text, slV ck, slV ci], .string p[k]]) hM agg (args1 (rdTree_mk c2 c3) (args1 (rdStr _) args0)) fun q g13 M13 r L13 hret hrr => ?_
      have hrr : r = stepP w p[k] := hrr
      subst hrr
      have I13 := I.frame L13.keep
      have hdrop : p.drop k = p[k] :: p.drop (k + 1) := List.drop_eq_getElem_cons hc'
      refine ⟨stepP w p[k], retI hret, fun hneg => ?_, fun hpos => ?_⟩
      · have hneg' : stepP w p[k] < 0 := by simpa using hneg
        rw [hdrop, stepsP_no hneg', List.append_nil] at hst
        exact fin w done g13 hst hla I13
      · have hpos' : ¬ stepP w p[k] < 0 := by simpa using hpos
        obtain ⟨j, hj, hjl⟩ : ∃ j : Nat, stepP w p[k] = j ∧ j < w.items.length := by
          rcases stepP_ok (allT_here how) p[k] with e | e
          · omega
          · exact e
        have c1' := c1.ofKeep L13.keep
        have ag13 : AgM M g13 := ag.keep I13.keep
        obtain ⟨hcl, _, _⟩ := rowLen c3
        obtain ⟨a, xk, xi, ea, xld, xk', xi'⟩ := treeAt ag13 c3 hjl
        have hm : w.items[j] ∈ w.items := List.getElem_mem hjl
        rw [hj]
        refine ⟨ci, c1'.cellAdd (o := 0) (k := 3) rfl, a, ⟨ea, by omega, by omega⟩, w.items[j].kind, w.items[j].text, xk, xi, by rw [Int.toNat_natCast]; exact xld, ?_⟩
        refine storeTree c1' rfl _ _ _ _ fun g21 b21 z21 f21 => ?_
        have I21 : LI h M rec sp w w.items[j] (done.map fun q => (q.1 : Int)) g21 := I13.setC z21 f21 b21 xk' xi'
        refine ⟨w.items[j].kind, w.items[j].text, xk, xi, b21.ld (cs := tcells w.items[j].kind w.items[j].text xk xi), ?_⟩
        have key : ∀ K : Value → Heap → Prop, (∀ h', LI h M rec sp w.items[j] w.items[j] ((done.map fun q => (q.1 : Int)) ++ [(j : Int)]) h' → K (.bool true) h') → YX Tryz.prog (h.size + 6) #[.int .i64 (j : Int), .agg #[.int .i64 w.items[j].kind, .string w.items[j].text, .slice xk.a xk.len xk.cap, .slice xi.a xi.len xi.cap]] g21 K := fun K hK =>
          @hY _ _ _ K I21.l (round_ok (K := K) I21 (j : Int) (by rw [List.length_map]; omega) xk' xi' hK)
        refine key _ fun g27 I27 => ⟨true, rfl, fun hx => (by cases hx), fun _ => ?_⟩
        have hw2 := wsucc hc' (by omega)
        rw [hw2]
        refine ⟨⟨k + 1, w.items[j], done ++ [(j, w.items[j])], rfl, by omega, hw.item hm, allT_item how hm, by simp [hdl], ?_, by unfold lastT; simp, by rw [List.map_append]; exact I27⟩, by simp only [Int.toNat_natCast]; omega⟩
        rw [hst, hdrop, stepsP_yes hj hjl]; simp
    · have hc' : k = p.length := by simp at hc; omega
      subst hc'
      rw [List.drop_length] at hst
      have : stepsP w [] = [] := by simp [stepsP]
      rw [this, List.append_nil] at hst
      exact fin w done g hst hla I
end Go.Proofs.YtaoceiiakcpbaaaGreatDoor
end
section
namespace Go.X
open Go Go.RowKit
set_option linter.unusedVariables false
def setI (v : Tr) (k : Nat) (x : Tr) : Tr := .mk v.kind v.text v.keys (v.items.set k x)
theorem nd_flat {n : Nat} {bf : Nat → List Nat} : ((List.range n).flatMap bf).Nodup ↔ (∀ i, i < n → (bf i).Nodup) ∧ ∀ i j, i < j → j < n → ∀ x ∈ bf i, ∀ y ∈ bf j, x ≠ y := by
  unfold List.Nodup
  rw [List.pairwise_flatMap, List.pairwise_iff_getElem]
  constructor
  · rintro ⟨h1, h2⟩
    refine ⟨fun i hi => h1 i (by simpa using hi), fun i j hij hj => ?_⟩
    have := h2 i j (by simp; omega) (by simpa using hj) hij
    simpa using this
  · rintro ⟨h1, h2⟩
    refine ⟨fun i hi => h1 i (by simpa using hi), fun i j hi hj hij => ?_⟩
    simp at hi hj
    simpa using h2 i j hij hj
theorem upd_self {cs : Array Value} {o n : Nat} (h : o + n ≤ cs.size) : upd cs o (cut cs o n) = cs := by
  have hl : (cut cs o n).length = n := by unfold cut; simp; omega
  apply Array.ext'
  apply List.ext_getElem?
  intro q
  rw [upd_get (by rw [hl]; exact h)]
  split
  · rfl
  · split
    · rw [cutAt_get, if_pos (by omega)]; congr 1; omega
    · rfl
theorem OT.put1 {h : Heap} {v : Tr} {bs : List Nat} {cells : List Value} (H : OT h v bs cells) {k : Nat} (hk : k < v.items.length) :
    ∃ (b : Nat) (cs : Array Value) (si : Sl) (bx : List Nat), cells[3]? = some (slV si) ∧ si.a = some ⟨b, 0, none⟩ ∧ si.len = v.items.length ∧ Blk h b cs ∧ v.items.length * 4 ≤ cs.size ∧ b ∈ bs ∧ OT h v.items[k] bx (cut cs (k * 4) 4) ∧ b ∉ bx ∧ (∀ c ∈ bx, c ∈ bs) ∧
      ∀ (h' : Heap) (x' : Tr) (cells' : List Value) (b' : List Nat), (∀ c ∈ bs, c ∉ bx → c ≠ b → h'[c]? = h[c]?) → Blk h' b (upd cs (k * 4) cells') → OT h' x' b' cells' → (∀ c ∈ b', c ∈ bx ∨ c ∉ bs) → ∃ bn, OT h' (setI v k x') bn cells ∧ ∀ c ∈ bn, c ∈ bs ∨ c ∈ b' := by
  cases H with
  | @mk kd s ks xs sk si bk bb b cs bf hkk hn hz hi hd =>
    have hk : k < xs.length := hk
    rcases hz with ⟨h0, _⟩ | ⟨rfl, e1, hb, hcs⟩
    · rw [h0] at hk; simp at hk
    rw [List.nodup_append] at hd
    obtain ⟨nd1, nd2, nd3⟩ := hd
    rw [List.nodup_append] at nd2
    obtain ⟨nd4, nd5, nd6⟩ := nd2
    have nf := nd_flat.1 nd5
    have hbn : ∀ i, i < xs.length → b ∉ bf i := fun i hi hm => nd6 b (by simp) b (List.mem_flatMap.2 ⟨i, by simpa using hi, hm⟩) rfl
    have hin : ∀ i, i < xs.length → ∀ c ∈ bf i, c ∈ bk ++ ([b] ++ (List.range xs.length).flatMap bf) := fun i hi c hc => by
      simp only [List.mem_append, List.mem_flatMap, List.mem_range]
      exact .inr (.inr ⟨i, hi, hc⟩)
    refine ⟨b, cs, si, bf k, rfl, e1, hn.1, hb, hcs, by simp, hi k hk, hbn k hk, hin k hk, fun h' x' cells' b' hf hb' ho hfr => ?_⟩
    have hl' : cells'.length = 4 := ho.len
    have dis : ∀ c ∈ b', ∀ i, i < xs.length → i ≠ k → c ∉ bf i := fun c hc i hi' hne hm => by
      rcases hfr c hc with hx | hx
      · rcases Nat.lt_or_gt_of_ne hne with hlt | hlt
        · exact nf.2 i k hlt hk c hm c hx rfl
        · exact nf.2 k i hlt hi' c hx c hm rfl
      · exact hx (hin i hi' c hm)
    have disb : b ∉ b' := fun hm => by
      rcases hfr b hm with hx | hx
      · exact hbn k hk hx
      · exact hx (by simp)
    have disk : ∀ c ∈ bk, c ∉ b' := fun c hc hm => by
      rcases hfr c hm with hx | hx
      · exact nd3 c hc c (by rw [List.mem_append]; exact .inr (List.mem_flatMap.2 ⟨k, by simpa using hk, hx⟩)) rfl
      · exact hx (by simp [hc])
    have hkb : ∀ c ∈ bk, c ≠ b := fun c hc e => nd3 c hc b (by simp) e
    have hkf : ∀ c ∈ bk, ∀ i, i < xs.length → c ∉ bf i := fun c hc i hi' hm => nd3 c hc c (by rw [List.mem_append]; exact .inr (List.mem_flatMap.2 ⟨i, by simpa using hi', hm⟩)) rfl
    have hlen : (xs.set k x').length = xs.length := by simp
    have hu : k * 4 + cells'.length ≤ cs.size := by omega
    refine ⟨bk ++ ([b] ++ (List.range (xs.set k x').length).flatMap (fun i => if i = k then b' else bf i)), ?_, fun c hc => ?_⟩
    · refine OT.mk (b := b) (cs := upd cs (k * 4) cells') (hkk.frame fun c hc => hf c (by simp [hc]) (hkf c hc k hk) (hkb c hc)) (by rw [hlen]; exact hn) (.inr ⟨rfl, e1, hb', by rw [hlen, upd_size hu]; exact hcs⟩) (fun i hx => ?_) ?_
      · rw [hlen] at hx
        by_cases hik : i = k
        · subst hik
          rw [if_pos rfl]
          have := cut_upd hu
          rw [hl'] at this
          rw [this, List.getElem_set_self]; exact ho
        · rw [if_neg hik, List.getElem_set_ne (by omega), cut_upd_ne hu (by omega)]
          refine (hi i hx).frame fun c hc => hf c (hin i hx c hc) (fun hm => ?_) (fun e => hbn i hx (e ▸ hc))
          rcases Nat.lt_or_gt_of_ne hik with hlt | hlt
          · exact nf.2 i k hlt hk c hc c hm rfl
          · exact nf.2 k i hlt hx c hm c hc rfl
      · rw [hlen, List.nodup_append]
        refine ⟨nd1, ?_, fun x hx y hy => ?_⟩
        · rw [List.nodup_append]
          refine ⟨by simp, nd_flat.2 ⟨fun i hi' => ?_, fun i j hij hj x hx y hy e => ?_⟩, fun x hx y hy => ?_⟩
          · by_cases hik : i = k
            · rw [if_pos hik]; exact ho.nodup
            · rw [if_neg hik]; exact nf.1 i hi'
          · subst e
            by_cases hik : i = k
            · rw [if_pos hik] at hx
              rw [if_neg (by omega)] at hy
              exact dis x hx j hj (by omega) hy
            · rw [if_neg hik] at hx
              by_cases hjk : j = k
              · rw [if_pos hjk] at hy
                exact dis x hy i (by omega) hik hx
              · rw [if_neg hjk] at hy
                exact nf.2 i j hij hj x hx x hy rfl
          · simp at hx; subst hx
            obtain ⟨i, hi', hy⟩ := List.mem_flatMap.1 hy
            simp at hi'
            intro e; subst e
            by_cases hik : i = k
            · rw [if_pos hik] at hy; exact disb hy
            · rw [if_neg hik] at hy; exact hbn i hi' hy
        · intro e; subst e
          rw [List.mem_append] at hy
          rcases hy with hy | hy
          · simp at hy; exact hkb x hx hy
          · obtain ⟨i, hi', hy⟩ := List.mem_flatMap.1 hy
            simp at hi'
            by_cases hik : i = k
            · rw [if_pos hik] at hy; exact disk x hx hy
            · rw [if_neg hik] at hy; exact hkf x hx i hi' hy
    · rw [hlen, List.mem_append, List.mem_append] at hc
      rcases hc with hc | hc | hc
      · exact .inl (by simp [hc])
      · exact .inl (by simp at hc; simp [hc])
      · obtain ⟨i, hi', hc⟩ := List.mem_flatMap.1 hc
        simp at hi'
        by_cases hik : i = k
        · rw [if_pos hik] at hc; exact .inr hc
        · rw [if_neg hik] at hc; exact .inl (hin i hi' c hc)
def Foc (h : Heap) (base rb : Nat) (p : Addr) (x : Tr) (T : Tr → Tr) : Prop :=
  ∃ (b o : Nat) (cs : Array Value) (bx : List Nat), p = ⟨b, o, none⟩ ∧ Blk h b cs ∧ o + 4 ≤ cs.size ∧ OT h x bx (cut cs o 4) ∧ b ∉ bx ∧ base ≤ b ∧ (∀ c ∈ bx, base ≤ c) ∧
    ∀ (h' : Heap) (x' : Tr) (cells' : List Value) (b' : List Nat), (∀ c, c ≠ b → c ∉ bx → c < h.size → h'[c]? = h[c]?) → Blk h' b (upd cs o cells') → OT h' x' b' cells' → (∀ c ∈ b', c ∈ bx ∨ h.size ≤ c) →
      ∃ cs' bs', Blk h' rb cs' ∧ cs'.size = 4 ∧ OT h' (T x') bs' cs'.toList ∧ ∀ c ∈ bs', base ≤ c ∧ c ≠ rb
theorem Foc.step {h : Heap} {base rb : Nat} {p : Addr} {x : Tr} {T : Tr → Tr} (H : Foc h base rb p x T) {k : Nat} (hk : k < x.items.length) :
    ∃ (si : Sl) (a : Addr), cellH h (p.add 3) = some (slV si) ∧ si.a = some a ∧ si.len = x.items.length ∧ Foc h base rb (a.add (k * 4)) x.items[k] (fun y => T (setI x k y)) := by
  obtain ⟨b, o, cs, bx, rfl, hb, ho, ot, hbx, hbase, hbxb, hcl⟩ := H
  obtain ⟨b2, cs2, si, bx2, e3, ea, el, hb2, hcs2, hm2, ot2, hn2, hsub, hput⟩ := ot.put1 hk
  refine ⟨si, ⟨b2, 0, none⟩, ?_, ea, el, b2, k * 4, cs2, bx2, by rw [add_none, Nat.zero_add], hb2, by omega, ot2, hn2, hbxb b2 hm2, fun c hc => hbxb c (hsub c hc), fun h' x' cells' b' hf hb' ho' hfr => ?_⟩
  · rw [add_none]
    refine hb.cell ?_
    rw [cutAt_get, if_pos (by omega)] at e3
    rw [← Array.getElem?_toList]; exact e3
  · have hne : b ≠ b2 := fun e => hbx (e ▸ hm2)
    obtain ⟨bn, hbn, hbns⟩ := hput h' x' cells' b' (fun c hc hc2 hcb => hf c hcb hc2 (ot.lt c hc)) hb' ho' (fun c hc => (hfr c hc).imp id fun hx hm => by have := ot.lt c hm; omega)
    refine hcl h' (setI x k x') (cut cs o 4) bn (fun c hc hcx hcl => hf c (fun e => hcx (e ▸ hm2)) (fun hm => hcx (hsub c hm)) hcl) ?_ hbn fun c hc => ?_
    · rw [upd_self ho]
      exact hb.keep (hf b hne (fun hm => hbx (hsub b hm)) hb.lt)
    · rcases hbns c hc with hx | hx
      · exact .inl hx
      · rcases hfr c hx with hy | hy
        · exact .inl (hsub c hy)
        · exact .inr hy
theorem Foc.put {h : Heap} {base rb : Nat} {p : Addr} {x : Tr} {T : Tr → Tr} (H : Foc h base rb p x T) {h1 : Heap} (k : Keep h.size h h1) {w : Tr} {bw : List Nat} {cw : List Value} (ow : OT h1 w bw cw) (hbw : ∀ c ∈ bw, h.size ≤ c) :
    ∃ (b o : Nat) (cs : Array Value), p = ⟨b, o, none⟩ ∧ base ≤ b ∧ b < h.size ∧ Blk h1 b cs ∧ o + 4 ≤ cs.size ∧ ∀ h2 : Heap, Blk h2 b (upd cs o cw) → h2.size = h1.size → (∀ j, j ≠ b → h2[j]? = h1[j]?) →
      ∃ cs' bs', Blk h2 rb cs' ∧ cs'.size = 4 ∧ OT h2 (T w) bs' cs'.toList ∧ ∀ c ∈ bs', base ≤ c ∧ c ≠ rb := by
  obtain ⟨b, o, cs, bx, rfl, hb, ho, ot, hbx, hbase, hbxb, hcl⟩ := H
  have hlt := hb.lt
  refine ⟨b, o, cs, rfl, hbase, hlt, hb.ofKeep k, ho, fun h2 hb2 hs2 hf2 => ?_⟩
  refine hcl h2 w cw bw (fun c hc _ hcl => (hf2 c hc).trans (k.get c hcl)) hb2 (ow.frame fun c hc => hf2 c (fun e => by have := hbw c hc; omega)) fun c hc => .inr (hbw c hc)
theorem Foc.keep {h h' : Heap} {base rb : Nat} {p : Addr} {x : Tr} {T : Tr → Tr} (H : Foc h base rb p x T) (k : Keep h.size h h') : Foc h' base rb p x T := by
  obtain ⟨b, o, cs, bx, rfl, hb, ho, ot, hbx, hbase, hbxb, hcl⟩ := H
  have hz := k.size
  refine ⟨b, o, cs, bx, rfl, hb.ofKeep k, ho, ot.frame fun c hc => k.get c (ot.lt c hc), hbx, hbase, hbxb, fun h2 x' cells' b' hf hb' ho' hfr => hcl h2 x' cells' b' (fun c hc hcx hlt => (hf c hc hcx (by omega)).trans (k.get c hlt)) hb' ho' fun c hc => (hfr c hc).imp id fun hx => by omega⟩
end Go.X
end
section
namespace Go.X
open Go Go.Lib
set_option linter.unusedVariables false
def zT : Tr := .mk 0 ⟨#[]⟩ [] []
def findR (v : Tr) (p : List ByteArray) : Tr × Bool := if openT v && rightP p then (match findP v p with
  | some x => (x, true)
  | none => (zT, false)) else (zT, false)
end Go.X
end
section
namespace Go.Proofs.YtaoceiiakcpbaaaGreatDoor
open Go Go.X Go.Proofs
set_option linter.unusedVariables false
theorem Copy_pc {gl : Fr} (hg : GL gl) {v : Tr} (hv : Sm v) (ho : openT v = true) {R : Tr → Prop} (hR : R v) : PC Tryz.prog gl 47 [Arg.mk .tree v] [.tree] R := by
  intro h M vs hM ag ha
  match vs, ha with
  | [u], ⟨hu, _⟩ =>
    have hu : RdV M .tree v u := hu
    have hu0 := hu
    obtain ⟨sk, si, rfl, rk, ri⟩ := rdTree hu
    apply PX.of
    apply sh_value_Copy v.kind v.text sk si
    intro h1 h2
    have z1 : h1.size = h.size + 1 := Array.size_push _
    have z2 : h2.size = h1.size + 1 := Array.size_push _
    have k1 : Keep h.size h h1 := Keep.push _ _ (Nat.le_refl _)
    have k2 : Keep h1.size h1 h2 := Keep.push _ _ (Nat.le_refl _)
    have b1 : Blk h1 h.size (tcells v.kind v.text sk si).toArray := Blk.new _ _ _
    have b2 : Blk h2 h1.size (tcells 0 ⟨#[]⟩ ⟨none, 0, 0⟩ ⟨none, 0, 0⟩).toArray := Blk.new _ _ _
    clear_value h1 h2
    have K2 : Keep h.size h h2 := k1.trans k2 (by omega)
    have ag2 := ag.keep K2
    refine ⟨v.kind, v.text, sk, si, (b1.ofKeep k2).ld (cs := tcells v.kind v.text sk si), ?_⟩
    have hopen : PC Tryz.prog gl 45 [Arg.mk .tree v] [.bool] (fun r => r = openT v) := Open_pc hg hv rfl
    refine hopen.go (vs := [.agg #[.int .i64 v.kind, .string v.text, slV sk, slV si]]) hM ag2 (args1 hu0 args0) fun w h3 M3 r L3 hret hr => ?_
    have hr : r = openT v := hr
    refine ⟨r, retB hret, fun hx => ?_, fun hx => ?_⟩
    · rw [hr, ho] at hx; cases hx
    · refine ⟨v.kind, v.text, sk, si, ((b1.ofKeep k2).ofKeep L3.keep).ld (cs := tcells v.kind v.text sk si), ?_⟩
      have K3 : Keep h.size h h3 := K2.trans L3.keep (by have := K2.size; omega)
      refine (clone_on (tsz v) v (Nat.le_refl _) hv (ag.keep K3) hu0).mono ?_
      rintro w' h4 ⟨k4, bs, ck, ci, rfl, ot, hbs⟩
      have z3 := L3.keep.size
      have z4 := k4.size
      refine ⟨v.kind, v.text, ck, ci, rfl, ?_⟩
      refine storeTree (((b2.ofKeep L3.keep).ofKeep k4)) rfl _ _ _ _ fun h5 b5 z5 f5 => ?_
      have K5 : Keep h.size h h5 := ⟨by have := K3.size; omega, fun i hi => by rw [f5 i (by omega), k4.get i (by have := K3.size; omega)]; exact K3.get i hi⟩
      have ot5 := ot.frame fun b hb => f5 b (by have := hbs b hb; omega)
      have hsz := K3.size
      exact ⟨v.kind, v.text, ck, ci, b5.ld (cs := tcells v.kind v.text ck ci), MxL M h5 bs, v, MxL.later ag K5 (fun b hb => by have := hbs b hb; omega), ret1.2 ot5.rdv, hR⟩
theorem sized_item {v x : Tr} (h : sizedT v = true) (hx : x ∈ v.items) : sizedT x = true := by
  unfold sizedT at h ⊢
  simp at h ⊢
  have h1 := tsz_item hx
  have h2 : tdp x ≤ tdpL v.items := by
    have gen : ∀ l : List Tr, x ∈ l → tdp x ≤ tdpL l := by
      intro l
      induction l with
      | nil => intro hm; cases hm
      | cons y l ih =>
        intro hm
        rw [tdpL]
        rcases List.mem_cons.1 hm with rfl | hm
        · omega
        · have := ih hm; omega
    exact gen _ hx
  have h3 := tdp_eq v
  omega
theorem open_item {v x : Tr} (h : openT v = true) (hx : x ∈ v.items) : openT x = true := by
  unfold openT at h ⊢
  rw [Bool.and_eq_true] at h ⊢
  exact ⟨sized_item h.1 hx, allT_item h.2 hx⟩
theorem open_all {v : Tr} (h : openT v = true) : allT nodeOk v = true := by unfold openT at h; rw [Bool.and_eq_true] at h; exact h.2
theorem open_last (n : Nat) : ∀ (v : Tr) (p : List ByteArray), p.length ≤ n → openT v = true → Sm v → openT (lastT v (stepsP v p)) = true ∧ Sm (lastT v (stepsP v p)) := by
  induction n with
  | zero =>
    intro v p hp ho hs
    have : p = [] := List.eq_nil_of_length_eq_zero (by omega)
    subst this
    exact ⟨ho, hs⟩
  | succ n ih =>
    intro v p hp ho hs
    match p with
    | [] => exact ⟨ho, hs⟩
    | s :: p =>
      rcases stepP_ok (allT_here (open_all ho)) s with e | ⟨k, e, hk⟩
      · rw [stepsP_no (by omega)]; exact ⟨ho, hs⟩
      · rw [stepsP_yes e hk, lastT_cons]
        have hm := List.getElem_mem hk
        exact ih v.items[k] p (by simpa using hp) (open_item ho hm) (hs.item hm)
theorem Find_pc {gl : Fr} (hg : GL gl) {v : Tr} (hv : Sm v) {p : List ByteArray} (hp : SL p) {R : Tr × Bool → Prop} (hR : R (findR v p)) : PC Tryz.prog gl 16 [Arg.mk .tree v, Arg.mk (.row .str) p] [.tree, .bool] R := by
  apply pu_pointer_Find
  rw [tr_eta]
  unfold findR at hR
  refine Open_pc hg hv ⟨fun b => b = rightP p, fun _ => Right_pc hg hp rfl, fun b hb => ?_⟩
  cases ho : openT v with
  | false =>
    rw [ho] at hR
    exact ⟨fun _ => hR, fun hx => by cases hx⟩
  | true =>
    have hb' : b = rightP p := hb (by rw [ho]; rfl)
    subst hb'
    cases hr : rightP p with
    | false =>
      rw [ho, hr] at hR
      exact ⟨fun _ => hR, fun hx => by cases hx⟩
    | true =>
      rw [ho, hr, Bool.and_true, if_pos rfl] at hR
      refine ⟨fun hx => (by cases hx), fun _ => ?_⟩
      refine leads_pc hg hv (open_all ho) hp ⟨fun hx => ?_, fun hx => ?_⟩
      · have : findP v p = none := by unfold findP; rw [if_neg (by simpa using hx)]
        rw [this] at hR; exact hR
      · have : findP v p = some (lastT v (stepsP v p)) := by unfold findP; rw [if_pos (by simpa using hx)]
        rw [this] at hR
        obtain ⟨h1, h2⟩ := open_last p.length v p (Nat.le_refl _) ho hv
        rw [tr_eta]
        refine Copy_pc hg h2 h1 ?_
        rw [show Tr.mk (lastT v (stepsP v p)).kind (lastT v (stepsP v p)).text (lastT v (stepsP v p)).keys (lastT v (stepsP v p)).items = lastT v (stepsP v p) from tr_eta _]
        exact hR
end Go.Proofs.YtaoceiiakcpbaaaGreatDoor
end
section
namespace Go.Proofs.YtaoceiiakcpbaaaGreatDoor
open Go Go.X Go.Proofs
set_option linter.unusedVariables false
theorem num1 : nmText (numParse (Lib.itoa 1)).1 = [49] := by kernel_rfl
theorem num2 : nmText (numParse (Lib.itoa 2)).1 = [50] := by kernel_rfl
theorem ps_a : prsP [97] = ([], 2) := by kernel_rfl
theorem ps_t : prsP [47, 126, 50] = ([], 2) := by kernel_rfl
theorem ps_n : prsP [] = ([], 0) := by kernel_rfl
theorem rp_1 : rightP [⟨#[97, 47, 98]⟩, ⟨#[126]⟩, ⟨#[]⟩] = true := by kernel_rfl
def smT : Tr := .mk 6 ⟨#[]⟩ [⟨#[97]⟩] [.mk 5 ⟨#[]⟩ [] [.mk 3 (bl [49]) [] [], .mk 3 (bl [50]) [] []]]
theorem fd_1 : findR smT [⟨#[97]⟩, ⟨#[49]⟩] = (.mk 3 (bl [50]) [] [], true) := by kernel_rfl
theorem fd_2 : (findR smT [⟨#[97]⟩, ⟨#[48, 49]⟩]).2 = false := by kernel_rfl
theorem tx_1 : bl (txtP (([⟨#[97, 47, 98]⟩, ⟨#[126]⟩, ⟨#[]⟩] : List ByteArray).map lb)) = ⟨#[47, 97, 126, 49, 98, 47, 126, 48, 47]⟩ := by kernel_rfl
theorem smT_sm : Sm smT := by
  refine Sm.few ?_ ?_
  · have : tks smT = 5 := by kernel_rfl
    omega
  · have leaf : ∀ b : Bs, b.length ≤ 2048 → txS (.mk 3 (bl b) [] []) := fun b hb => by
      rw [txS, txSL]; exact ⟨⟨by rw [bl_size]; exact hb, by simp⟩, trivial⟩
    unfold smT
    rw [txS, txSL, txSL, txS, txSL, txSL, txSL]
    exact ⟨⟨by decide, by decide⟩, ⟨⟨by decide, by simp⟩, leaf _ (by decide), leaf _ (by decide), trivial⟩, trivial⟩
theorem sl_small {l : List ByteArray} (h : l.length ≤ 1000000) (h2 : ∀ x ∈ l, x.size ≤ 1048576) : SL l := ⟨h, fun x hx => by rw [lb_len]; exact h2 x hx⟩
theorem small_pc {gl : Fr} (hg : GL gl) {R : Bool → Prop} (hR : R true) : PC Tryz.prog gl 9 [] [.bool] R := by
  apply pu_scarflaw07_small
  refine Text_pc hg (sl_small (by decide) (by decide)) (fun _ => ?_) (fun hx => by rw [rp_1] at hx; cases hx)
  rw [tx_1]
  refine Parse_pc hg (s := [97]) (by decide) ?_
  rw [ps_a]
  refine Parse_pc hg (s := [47, 126, 50]) (by decide) ?_
  rw [ps_t]
  refine Parse_pc hg (s := []) (by decide) ?_
  rw [ps_n]
  refine Num_pc hg (by decide) (by decide) ?_
  refine Num_pc hg (by decide) (by decide) ?_
  rw [num1, num2]
  refine Row_pc ?_
  refine Map_pc ?_
  refine Find_pc hg (v := smT) smT_sm (sl_small (by decide) (by decide)) ?_
  rw [fd_1]
  refine Find_pc hg (v := smT) smT_sm (sl_small (by decide) (by decide)) ?_
  rw [fd_2]
  have key : ∀ b, b = true → R b := fun b hb => hb ▸ hR
  exact key _ (by kernel_rfl)
end Go.Proofs.YtaoceiiakcpbaaaGreatDoor
end
section
namespace Go.Proofs.YtaoceiiakcpbaaaGreatDoor
open Go Go.X Go.Proofs
set_option linter.unusedVariables false
theorem Texts_pc {gl : Fr} (hg : GL gl) {path : List ByteArray} {s : ByteArray} {other : List ByteArray} {R : Bool → Prop} (hR : R true) : PC Tryz.prog gl 7 [Arg.mk (.row .str) path, Arg.mk .str s, Arg.mk (.row .str) other] [.bool] R := by
  apply pu_scarflaw07_PointerTexts
  refine small_pc hg (Short_pc fun b hb => ⟨fun c => c = true → PS other, fun _ => Short_pc fun c hc => hc, fun c hc => ⟨fun _ => hR, fun hx => ?_⟩⟩)
  have hx' : b = true ∧ c = true ∧ s.size ≤ 2048 := by
    cases b with
    | false => cases hx
    | true => cases c with
      | false => cases hx
      | true => simp at hx; exact ⟨rfl, rfl, by omega⟩
  have hp : SL path := PS.sl (hb hx'.1)
  have ho : SL other := PS.sl (hc hx'.1 hx'.2.1)
  have hs : (lb s).length ≤ 1048576 := by rw [lb_len]; omega
  have key : ∀ t : ByteArray × Int, PC Tryz.prog gl 11 [Arg.mk (.row .str) path] [.str, .int .i64] (fun r => r = (if rightP path then (bl (txtP (path.map lb)), 0) else (bl [], 1))) := fun _ => Text_pc hg hp (fun h => by rw [h]; rfl) (fun h => by rw [h]; rfl)
  have key2 : PC Tryz.prog gl 23 [Arg.mk (.row .str) path] [.str, .int .i64] (fun r => r = (if rightP path then (bl (txtP (path.map lb)), 0) else (bl [], 1))) := rText_pc hp (fun h => by rw [h]; rfl) (fun h => by rw [h]; rfl)
  refine (key (⟨#[]⟩, 0)).mono fun r5 h5 => key2.mono fun r6 h6 => ?_
  subst h5; subst h6
  have p1 := Parse_pc hg (s := lb s) hs (R := fun r => r = ((prsP (lb s)).1.map bl, (prsP (lb s)).2)) rfl
  have p2 := rParse_pc (gl := gl) (s := lb s) hs (R := fun r => r = ((prsP (lb s)).1.map bl, (prsP (lb s)).2)) rfl
  have i1 := Index_pc2 hg (l := lb s) hs (R := fun r => r = idxP (lb s)) rfl
  have i2 := rIndex_pc (gl := gl) (l := lb s) hs (R := fun r => r = idxP (lb s)) rfl
  rw [bl_lb] at p1 p2 i1 i2
  refine p1.mono fun r7 h7 => p2.mono fun r8 h8 => i1.mono fun r9 h9 => i2.mono fun r10 h10 => ?_
  subst h7; subst h8; subst h9; subst h10
  generalize (if rightP path then (bl (txtP (path.map lb)), (0 : Int)) else (bl [], 1)) = t
  have et : (t.1.toList == t.1.toList) = true := by simp
  have e1 : (t.2 == t.2) = true := by simp
  have e2 : ((prsP (lb s)).2 == (prsP (lb s)).2) = true := by simp
  have e3 : ((idxP (lb s)).1 == (idxP (lb s)).1) = true := by simp
  have e4 : ((idxP (lb s)).2 == (idxP (lb s)).2) = true := by simp
  have hlen : ((prsP (lb s)).1.map bl).length ≤ 1000000 := by
    rw [List.length_map]
    by_cases h0 : (prsP (lb s)).2 = 0
    · have := (prsP_ok (s := lb s) (p := (prsP (lb s)).1) (by rw [← h0])).1; omega
    · rw [(prsP_bad h0).1]; simp
  refine ⟨fun r => r = true, fun _ => rSame_pc hlen fun r hr => hr.2 rfl, fun r12 h12 => ?_⟩
  simp only [et, e1, cond_true] at h12 ⊢
  have h12 := h12 trivial
  subst h12
  simp only [e2, e3, e4, cond_true]
  refine ⟨fun r => r = rightP path, fun _ => Right_pc hg hp rfl, fun r14 h14 => ⟨fun r => r = rightP path, fun _ => rRight_pc hp rfl, fun r16 h16 => ?_⟩⟩
  have h14 := h14 trivial
  have h16 := h16 trivial
  subst h14; subst h16
  have e5 : (rightP path == rightP path) = true := by simp
  simp only [e5]
  refine ⟨fun r => r = cmpP path other, fun _ => Compare_pc hp.n rfl, fun r18 h18 => ⟨fun r => r = cmpP path other, fun _ => rCompare_pc hp.n rfl, fun r20 h20 => ?_⟩⟩
  have h18 := h18 trivial
  have h20 := h20 trivial
  subst h18; subst h20
  have e6 : (cmpP path other == cmpP path other) = true := by simp
  rw [e6]; exact hR
end Go.Proofs.YtaoceiiakcpbaaaGreatDoor
end
