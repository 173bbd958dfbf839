/- A part of the proof: nothing is stated here for its own sake. -/
import Derived.Test.YtaoceiiakcpbaaaGreatDoorPdE
section
namespace Go.Proofs.YtaoceiiakcpbaaaGreatDoor
open Go Go.X Go.Proofs
set_option linter.unusedVariables false
theorem elemInt : ElemT Tryz.prog 71 3 (.int .i64 0) 1 8 := ⟨by kernel_rfl, ⟨Tryz.t3, by kernel_rfl, by kernel_rfl, by kernel_rfl, by kernel_rfl⟩, rfl, by omega⟩
theorem okInts : okInfo Tryz.prog 71 = true := by kernel_rfl
theorem szInts : szOf Tryz.prog 71 = 1 := by kernel_rfl
def intV (l : List Int) : List Value := l.map (Value.int .i64)
structure LI (h0 : Heap) (M : Fr) (rec : Rec) (sp : Sl) (w x : Tr) (os : List Int) (g : Heap) : Prop where
  keep : Keep h0.size h0 g
  size : h0.size + 7 ≤ g.size
  v : ∃ sk si, Blk g h0.size (tcells w.kind w.text sk si).toArray ∧ Rd M (.row .str) w.keys [slV sk] ∧ Rd M (.row .tree) w.items [slV si]
  z : Blk g (h0.size + 1) (tcells 0 ⟨#[]⟩ ⟨none, 0, 0⟩ ⟨none, 0, 0⟩).toArray
  o : ∃ so, Blk g (h0.size + 2) #[slV so] ∧ Owns g (h0.size + 7) 3 1 so (intV os) ∧ so.len = os.length
  c : ∃ sk si, Blk g (h0.size + 3) (tcells x.kind x.text sk si).toArray ∧ Rd M (.row .str) x.keys [slV sk] ∧ Rd M (.row .tree) x.items [slV si]
  p : Blk g (h0.size + 4) #[slV sp]
  d : g[h0.size + 5]? = some (.deferred (some []))
  l : g[h0.size + 6]? = some (.loop (rec .ready none))
theorem LI.frame {h0 : Heap} {M : Fr} {rec : Rec} {sp : Sl} {w x : Tr} {os : List Int} {g g' : Heap} (I : LI h0 M rec sp w x os g) (k : Keep g.size g g') : LI h0 M rec sp w x os g' := by
  have hs := I.size
  have hk := k.size
  obtain ⟨sk, si, v1, v2, v3⟩ := I.v
  obtain ⟨so, o1, o2, o3⟩ := I.o
  obtain ⟨tk, ti, c1, c2, c3⟩ := I.c
  exact ⟨⟨by have := I.keep.size; omega, fun i hi => (k.get i (by omega)).trans (I.keep.get i hi)⟩, by omega, ⟨sk, si, v1.ofKeep k, v2, v3⟩, I.z.ofKeep k, ⟨so, o1.ofKeep k, o2.keepN k, o3⟩, ⟨tk, ti, c1.ofKeep k, c2, c3⟩, I.p.ofKeep k, by rw [k.get _ (by omega)]; exact I.d, by rw [k.get _ (by omega)]; exact I.l⟩
theorem set_ne' {h : Heap} {l i : Nat} {o : Obj} (hi : i ≠ l) : (h.setIfInBounds l o)[i]? = h[i]? := Array.getElem?_setIfInBounds_ne (Ne.symm hi)
theorem set_self' {h : Heap} {l : Nat} {o : Obj} (hl : l < h.size) : (h.setIfInBounds l o)[l]? = some o := Array.getElem?_setIfInBounds_self_of_lt hl
set_option maxRecDepth 100000 in
set_option maxHeartbeats 2000000 in
theorem round_ok {h0 : Heap} {M : Fr} {rec : Rec} {sp : Sl} {w x : Tr} {os : List Int} {h : Heap} (I : LI h0 M rec sp w x os h) (r : Int) (hos : os.length < 1000000) {sk si : Sl} (hk : Rd M (.row .str) x.keys [slV sk]) (hi : Rd M (.row .tree) x.items [slV si]) {K : Value → Heap → Prop}
    (hK : ∀ h', LI h0 M rec sp x x (os ++ [r]) h' → K (.bool true) h') :
    roundF Tryz.prog 27 (ropsOf (codeOf Tryz.f46)) [3, 4] 5 (fun h3 => h3[h0.size + 6]? = some (.loop (rec .ready none))) (fun h3 => h3.setIfInBounds (h0.size + 6) (.loop (rec .busy none)))
      (fun h4 => h4[h0.size + 6]? = some (.loop (rec .busy none)) ∧ K (.bool true) (h4.setIfInBounds (h0.size + 6) (.loop (rec .ready none))))
      [(13, [], .int .i64 r), (14, [], .agg #[.int .i64 x.kind, .string x.text, .slice sk.a sk.len sk.cap, .slice si.a si.len si.cap]), (2, [], .pointer (some ⟨h0.size, 0, none⟩)), (7, [], .pointer (some ⟨h0.size + 2, 0, none⟩))] h := by
  have hs := I.size
  obtain ⟨so, o1, o2, o3⟩ := I.o
  obtain ⟨vk, vi, v1, v2, v3⟩ := I.v
  obtain ⟨ck, ci, c1, c2, c3⟩ := I.c
  have hsb : ∀ p, so.a = some p → h0.size + 7 ≤ p.block ∧ p.block < h.size := fun p hp => o2.base_le p hp
  refine rd_pointer_leads r x.kind x.text sk si ⟨h0.size, 0, none⟩ ⟨h0.size + 2, 0, none⟩ h _ _ _ ?_
  intro h11
  have z11 : h11.size = h.size + 1 := Array.size_push _
  have k11 : Keep h.size h h11 := Keep.push _ _ (Nat.le_refl _)
  have b11 : Blk h11 h.size (tcells 0 ⟨#[]⟩ ⟨none, 0, 0⟩ ⟨none, 0, 0⟩).toArray := Blk.new _ _ _
  clear_value h11
  refine storeTree b11 rfl _ _ _ _ fun h12 b12 z12 f12 => ?_
  have g12 : ∀ i, i < h.size → h12[i]? = h[i]? := fun i hi => (f12 i (by omega)).trans (k11.get i hi)
  refine ⟨by rw [g12 _ (by omega)]; exact I.l, ?_⟩
  generalize hG : h12.setIfInBounds (h0.size + 6) (.loop (rec .busy none)) = G
  have zG : G.size = h.size + 1 := by rw [← hG, Array.size_setIfInBounds]; omega
  have gG : ∀ i, i < h.size → i ≠ h0.size + 6 → G[i]? = h[i]? := fun i hi hn => by rw [← hG, set_ne' hn]; exact g12 i hi
  have lG : G[h0.size + 6]? = some (.loop (rec .busy none)) := by rw [← hG]; exact set_self' (by omega)
  have bG : Blk G h.size (tcells x.kind x.text sk si).toArray := b12.keep (by rw [← hG, set_ne' (by omega)])
  have oG : Blk G (h0.size + 2) #[slV so] := o1.keep (gG _ (by omega) (by omega))
  refine ⟨so, oG.cell (o := 0) rfl, x.kind, x.text, sk, si, bG.ld (cs := tcells x.kind x.text sk si), ?_⟩
  intro h18
  have z18 : h18.size = h.size + 2 := by show (G.push _).size = _; rw [Array.size_push, zG]
  have k18 : Keep G.size G h18 := Keep.push _ _ (Nat.le_refl _)
  have b18 : Blk h18 G.size #[.int .i64 r] := Blk.new _ _ _
  clear_value h18
  refine ⟨⟨k18.get _ (by show h.size < _; omega), k18.get _ (by show h0.size + 2 < _; omega), trivial⟩, ?_⟩
  have oo18 : Owns h18 (h0.size + 7) 3 1 so (intV os) := o2.keep fun p hp => by
    have := hsb p hp
    rw [k18.get _ (by omega), gG _ (by omega) (by omega)]
  refine append_own elemInt oo18 (src := ⟨some ⟨G.size, 0, none⟩, 1, 1⟩) (news := [.int .i64 r]) (n := h18.size) ?_ rfl (by simp [Value.oneCell']) (by simp only; omega) (by simp only; omega) (by omega) fun s' h20 q1 q2 q3 q4 q5 => ⟨s', rfl, ?_⟩
  · refine .inr ⟨G.size, 0, rfl, by omega, fun i v hv => ?_⟩
    match i, hv with
    | 0, hv => cases hv; exact b18.cell rfl
  have g20 : ∀ i, i < h18.size → (∀ p, so.a = some p → i ≠ p.block) → h20[i]? = h18[i]? := q3
  have t20 : h20[h.size]? = G[h.size]? := (g20 _ (by omega) fun p hp => by have := hsb p hp; omega).trans (k18.get _ (by omega))
  refine ⟨⟨t20, trivial⟩, ?_⟩
  have low20 : ∀ i, i < h0.size + 7 → i ≠ h0.size + 6 → h20[i]? = h[i]? := fun i hi hn => (g20 i (by omega) fun p hp => by have := hsb p hp; omega).trans ((k18.get _ (by omega)).trans (gG i (by omega) hn))
  have l20 : h20[h0.size + 6]? = some (.loop (rec .busy none)) := (g20 _ (by omega) fun p hp => by have := hsb p hp; omega).trans ((k18.get _ (by omega)).trans lG)
  refine storeN (vs := [slV s']) okInts (o1.keep (low20 _ (by omega) (by omega))) rfl szInts (by simp) (by simp [Value.oneCell', slV]) fun h22 b22 z22 f22 => ?_
  have e22 : upd #[slV so] 0 [slV s'] = #[slV s'] := by simp [upd]
  rw [e22] at b22
  refine ⟨⟨(f22 _ (by show h.size ≠ _; omega)).trans t20, trivial⟩, ?_⟩
  refine storeTree (v1.keep ((f22 _ (by omega)).trans (low20 _ (by omega) (by omega)))) rfl _ _ _ _ fun h23 b23 z23 f23 => ?_
  have l23 : h23[h0.size + 6]? = some (.loop (rec .busy none)) := (f23 _ (by omega)).trans ((f22 _ (by omega)).trans l20)
  refine ⟨l23, hK _ ?_⟩
  have low : ∀ i, i < h0.size + 7 → i ≠ h0.size + 6 → i ≠ h0.size → i ≠ h0.size + 2 → (h23.setIfInBounds (h0.size + 6) (.loop (rec .ready none)))[i]? = h[i]? := fun i hi h1 h2 h3 => (set_ne' h1).trans ((f23 _ h2).trans ((f22 _ h3).trans (low20 i hi h1)))
  have q1' : s'.len = so.len + 1 := q1
  refine ⟨⟨by rw [Array.size_setIfInBounds]; have := I.keep.size; omega, fun i hi => (low i (by omega) (by omega) (by omega) (by omega)).trans (I.keep.get i hi)⟩, by rw [Array.size_setIfInBounds]; omega, ⟨sk, si, b23.keep (set_ne' (by omega)), hk, hi⟩, I.z.keep (low _ (by omega) (by omega) (by omega) (by omega)), ⟨s', b22.keep ((set_ne' (by omega)).trans (f23 _ (by omega))), ?_, by rw [q1', o3]; simp⟩, ⟨ck, ci, c1.keep (low _ (by omega) (by omega) (by omega) (by omega)), c2, c3⟩, I.p.keep (low _ (by omega) (by omega) (by omega) (by omega)), (low _ (by omega) (by omega) (by omega) (by omega)).trans I.d, set_self' (by omega)⟩
  have e : intV (os ++ [r]) = intV os ++ [.int .i64 r] := by unfold intV; rw [List.map_append]; rfl
  rw [e]
  refine q2.keep fun p hp => ?_
  have := q2.base_le p hp
  rw [set_ne' (by omega), f23 _ (by omega), f22 _ (by omega)]
theorem LI.setC {h0 : Heap} {M : Fr} {rec : Rec} {sp : Sl} {w x y : Tr} {os : List Int} {g g' : Heap} (I : LI h0 M rec sp w x os g) (hz : g'.size = g.size) (hf : ∀ j, j ≠ h0.size + 3 → g'[j]? = g[j]?) {sk si : Sl} (hb : Blk g' (h0.size + 3) (tcells y.kind y.text sk si).toArray) (hk : Rd M (.row .str) y.keys [slV sk]) (hi : Rd M (.row .tree) y.items [slV si]) : LI h0 M rec sp w y os g' := by
  have hs := I.size
  obtain ⟨vk, vi, v1, v2, v3⟩ := I.v
  obtain ⟨so, o1, o2, o3⟩ := I.o
  refine ⟨⟨by have := I.keep.size; omega, fun i hi => (hf i (by omega)).trans (I.keep.get i hi)⟩, by omega, ⟨vk, vi, v1.keep (hf _ (by omega)), v2, v3⟩, I.z.keep (hf _ (by omega)), ⟨so, o1.keep (hf _ (by omega)), o2.keep fun p hp => hf _ (by have := o2.base_le p hp; omega), o3⟩, ⟨sk, si, hb, hk, hi⟩, I.p.keep (hf _ (by omega)), (hf _ (by omega)).trans I.d, (hf _ (by omega)).trans I.l⟩
theorem rowC_ints (M : Fr) (xs : List Int) : RowC M (.int .i64) xs (intV xs) := by
  refine ⟨by simp [sz, intV], fun i hi => ?_⟩
  simp only [sz, Nat.mul_one]
  have hi' : i < (intV xs).length := by unfold intV; simpa using hi
  rw [List.drop_eq_getElem_cons hi', List.take_succ_cons, List.take_zero]
  simp only [intV, List.getElem_map]
  rfl
theorem intsRd {M : Fr} {h0 h : Heap} (ag : AgM M h0) (k : Keep h0.size h0 h) {base : Nat} (hb : h0.size ≤ base) {so : Sl} {xs : List Int} (H : Owns h base 3 1 so (intV xs)) (hl : so.len = xs.length) (hn : xs.length ≤ 140737488355328) : ∃ M', Later h0 M h M' ∧ RdV M' (.row (.int .i64)) xs (slV so) := by
  rcases Owns.blk H with ⟨h0', hc⟩ | ⟨b, cs, e1, e2, e3, e4, e5, e6⟩
  · refine ⟨M, Later.same ag k, ?_⟩
    have : xs = [] := List.eq_nil_of_length_eq_zero (by omega)
    subst this
    rw [rdv1 rfl]
    exact ⟨_, rfl, so.a, so.cap, by rw [slV, h0']; rfl, ⟨by simp, by simp⟩, .inl rfl⟩
  · refine ⟨MxL M h [b], MxL.later ag k (fun x hx => by simp at hx; omega), ?_⟩
    rw [rdv1 rfl, slV, e1, hl]
    refine RowC.rd (cs := cs) (rowC_ints _ xs) (MxL.at (by simp) e3) ?_ ⟨hn, by omega⟩
    rw [← e5, hl]; rfl
set_option maxRecDepth 100000 in
set_option maxHeartbeats 800000 in
theorem leads_pc {gl : Fr} (hg : GL gl) {v : Tr} (hv : Sm v) (ho : allT nodeOk v = true) {p : List ByteArray} (hp : SL p) {R : List Int × Tr × Bool → Prop} (hR : R ((stepsP v p).map (fun q => (q.1 : Int)), lastT v (stepsP v p), decide ((stepsP v p).length = p.length))) :
    PC Tryz.prog gl 46 [Arg.mk .tree v, Arg.mk (.row .str) p] [.row (.int .i64), .tree, .bool] R := by
  intro h M vs hM ag ha
  match vs, ha with
  | [u, w], ⟨hu, hw, _⟩ =>
    have hu : RdV M .tree v u := hu
    obtain ⟨sk, si, rfl, rk, ri⟩ := rdTree hu
    obtain ⟨sp, rfl, hr⟩ := rdRow hw
    have hr : Rd M (.row .str) p [slV sp] := hr
    obtain ⟨hlen, hb1, hb2⟩ := rowLen hr
    have hpn := hp.n
    apply PX.of
    obtain ⟨RR, hRR⟩ : ∃ RR : Value → Heap → Prop, RR = fun v h' => ∃ M' r, Later h M h' M' ∧ RetV M' [.row (.int .i64), .tree, .bool] r v ∧ R r := ⟨_, rfl⟩
    refine XC.mono (R := RR) ?_ (fun v h' hx => by rw [hRR] at hx; exact hx)
    refine XC_range (P := Tryz.prog) Tryz.mixed (ro := ropsOf (codeOf Tryz.f46)) (n := 27) (rs := [.tmp 4, .cell 5 34, .tmp 6]) Tryz.func46 (by kernel_rfl) (by kernel_rfl) (by kernel_rfl) (by kernel_rfl) (by kernel_rfl) (by kernel_rfl) (by decide) [.agg #[.int .i64 v.kind, .string v.text, slV sk, slV si], slV sp] (by kernel_rfl) ?_
    refine hd_pointer_leads v.kind v.text sk si sp h _ ?_
    intro h1 h2 h3
    have z1 : h1.size = h.size + 1 := Array.size_push _
    have z2 : h2.size = h1.size + 1 := Array.size_push _
    have z3 : h3.size = h2.size + 1 := Array.size_push _
    have k1 : Keep h.size h h1 := Keep.push _ _ (Nat.le_refl _)
    have k2 : Keep h1.size h1 h2 := Keep.push _ _ (Nat.le_refl _)
    have k3 : Keep h2.size h2 h3 := Keep.push _ _ (Nat.le_refl _)
    have b1 : Blk h1 h.size (tcells v.kind v.text sk si).toArray := Blk.new _ _ _
    have b2 : Blk h2 h1.size (tcells 0 ⟨#[]⟩ ⟨none, 0, 0⟩ ⟨none, 0, 0⟩).toArray := Blk.new _ _ _
    have b3 : Blk h3 h2.size #[slV ⟨none, 0, 0⟩] := Blk.new _ _ _
    clear_value h1 h2 h3
    refine ⟨v.kind, v.text, sk, si, ((b1.ofKeep k2).ofKeep k3).ld (cs := tcells v.kind v.text sk si), ?_⟩
    apply sh_pointer_walk v.kind v.text sk si sp
    intro h4 h5
    have z4 : h4.size = h3.size + 1 := Array.size_push _
    have z5 : h5.size = h4.size + 1 := Array.size_push _
    have k4 : Keep h3.size h3 h4 := Keep.push _ _ (Nat.le_refl _)
    have k5 : Keep h4.size h4 h5 := Keep.push _ _ (Nat.le_refl _)
    have b4 : Blk h4 h3.size (tcells v.kind v.text sk si).toArray := Blk.new _ _ _
    have b5 : Blk h5 h4.size #[slV sp] := Blk.new _ _ _
    clear_value h4 h5
    have e1 : h1.size = h.size + 1 := z1
    have e2 : h2.size = h.size + 2 := by omega
    have e3 : h3.size = h.size + 3 := by omega
    have e4 : h4.size = h.size + 4 := by omega
    have e5 : h5.size = h.size + 5 := by omega
    refine ⟨_, rfl, _, _, _, _, _, _, rfl, by kernel_rfl, ?_⟩
    rw [e1, e2, e3, e4, e5, show h.size + 5 + 1 = h.size + 6 from rfl]
    intro rec hY
    have K0 : Keep h.size h h5 := (((k1.trans k2 (by omega)).trans k3 (by omega)).trans k4 (by omega)).trans k5 (by omega)
    obtain ⟨g6, hg6⟩ : ∃ g6, (h5.push (.deferred (some []))).push (.loop (rec .ready none)) = g6 := ⟨_, rfl⟩
    have z6 : g6.size = h.size + 7 := by rw [← hg6, Array.size_push, Array.size_push]; omega
    have k6 : Keep h5.size h5 g6 := by
      rw [← hg6]
      exact (Keep.push h5 (.deferred (some [])) (Nat.le_refl _)).trans (Keep.push _ _ (by rw [Array.size_push]; omega)) (Nat.le_refl _)
    have I0 : LI h M rec sp v v [] g6 := by
      refine ⟨K0.trans k6 (by omega), by omega, ⟨sk, si, (((b1.ofKeep k2).ofKeep k3).ofKeep k4 |>.ofKeep k5).ofKeep k6, rk, ri⟩, ?_, ⟨⟨none, 0, 0⟩, ?_, Owns.nil _ _ _ _, rfl⟩, ⟨sk, si, ?_, rk, ri⟩, ?_, ?_, ?_⟩
      · rw [← e1]; exact ((b2.ofKeep k3).ofKeep k4 |>.ofKeep k5).ofKeep k6
      · rw [← e2]; exact ((b3.ofKeep k4).ofKeep k5).ofKeep k6
      · rw [← e3]; exact (b4.ofKeep k5).ofKeep k6
      · rw [← e4]; exact b5.ofKeep k6
      · rw [← hg6, Array.getElem?_push, if_neg (by rw [Array.size_push]; omega), ← e5]; exact get_push _ _
      · rw [← hg6]
        have := get_push (h5.push (.deferred (some []))) (.loop (rec .ready none))
        rw [Array.size_push, e5] at this; exact this
    rw [hg6]
    clear hg6
    have fin : ∀ (w : Tr) (done : List (Nat × Tr)) (g : Heap), stepsP v p = done → lastT v done = w → LI h M rec sp w w (done.map fun q => (q.1 : Int)) g →
        (g[h.size + 6]? = some (.loop (rec .ready none)) ∧ tailF Tryz.prog 27 (ropsOf (codeOf Tryz.f46)) 6 [.tmp 4, .cell 5 34, .tmp 6] (h.size + 5) RR
          [(1, [], .slice sp.a sp.len sp.cap), (2, [], .pointer (some ⟨h.size, 0, none⟩)), (5, [], .pointer (some ⟨h.size + 1, 0, none⟩)), (7, [], .pointer (some ⟨h.size + 2, 0, none⟩))] (g.setIfInBounds (h.size + 6) (.loop (rec .exhausted none)))) := by
      intro w done g hdone hlast I
      refine ⟨I.l, ?_⟩
      have hs := I.size
      obtain ⟨so, o1, o2, o3⟩ := I.o
      obtain ⟨vk, vi, v1, v2, v3⟩ := I.v
      obtain ⟨G, hG⟩ : ∃ G, g.setIfInBounds (h.size + 6) (.loop (rec .exhausted none)) = G := ⟨_, rfl⟩
      have zG : G.size = g.size := by rw [← hG, Array.size_setIfInBounds]
      have gG : ∀ i, i ≠ h.size + 6 → G[i]? = g[i]? := fun i hi => by rw [← hG]; exact set_ne' hi
      rw [hG]
      unfold tailF
      refine tl_pointer_leads sp ⟨h.size, 0, none⟩ ⟨h.size + 1, 0, none⟩ ⟨h.size + 2, 0, none⟩ G (fun h1 => h1[h.size + 5]? = some (.deferred (some []))) (fun h1 => h1.setIfInBounds (h.size + 5) (.deferred none)) RR ?_
      have oG : Blk G (h.size + 2) #[slV so] := o1.keep (gG _ (by omega))
      refine ⟨so, oG.cell (o := 0) rfl, w.kind, w.text, vk, vi, (v1.keep (gG _ (by omega))).ld (cs := tcells w.kind w.text vk vi), so, oG.cell (o := 0) rfl, ?_⟩
      refine storeTree (I.z.keep (gG _ (by omega))) rfl _ _ _ _ fun h30 b30 z30 f30 => ?_
      refine ⟨⟨f30 _ (by show h.size + 2 ≠ _; omega), trivial⟩, (f30 _ (by omega)).trans ((gG _ (by omega)).trans I.d), w.kind, w.text, vk, vi, (b30.keep (set_ne' (by omega))).ld (cs := tcells w.kind w.text vk vi), ?_⟩
      have KF : Keep h.size h (h30.setIfInBounds (h.size + 5) (.deferred none)) := ⟨by rw [Array.size_setIfInBounds]; have := I.keep.size; omega, fun i hi => by rw [set_ne' (by omega), f30 _ (by omega), gG _ (by omega)]; exact I.keep.get i hi⟩
      have OF : Owns (h30.setIfInBounds (h.size + 5) (.deferred none)) (h.size + 7) 3 1 so (intV (done.map fun q => (q.1 : Int))) := o2.keep fun q hq => by
        have := o2.base_le q hq
        rw [set_ne' (by omega), f30 _ (by omega), gG _ (by omega)]
      have hdl := stepsP_len v p
      rw [hdone] at hdl
      obtain ⟨M', L', hrd⟩ := intsRd ag KF (by omega) OF o3 (by rw [List.length_map]; omega)
      rw [hRR]
      refine ⟨M', (done.map (fun q => (q.1 : Int)), w, decide (done.length = p.length)), L', ⟨[slV so, .agg #[.int .i64 w.kind, .string w.text, slV vk, slV vi], .bool (decide (done.length = p.length))], ⟨_, _, rfl, hrd, _, _, rfl, rdTree_mk (Rd.mono L'.le v2) (Rd.mono L'.le v3), _, rfl, rdBool _⟩, ?_⟩, ?_⟩
      · have hbq : (((so.len : Nat) : Int) == ((sp.len : Nat) : Int)) = decide (done.length = p.length) := by
          rw [o3, hlen, List.length_map, Bool.eq_iff_iff]; simp; omega
        rw [hbq]; rfl
      · rw [hdone, hlast] at hR; exact hR
    show XCI Tryz.prog 98 #[.func (.yield (h.size + 6)) #[] #[], .pointer (some ⟨h.size + 4, 0, none⟩), .pointer (some ⟨h.size + 3, 0, none⟩)] g6 _
    refine yi_pointer_walk_1 (h.size + 6) ⟨h.size + 4, 0, none⟩ ⟨h.size + 3, 0, none⟩ g6 _ ?_
    refine ⟨sp, I0.p.cell (o := 0) rfl, fun i g => ∃ (k : Nat) (w : Tr) (done : List (Nat × Tr)), i = k ∧ k ≤ p.length ∧ Sm w ∧ allT nodeOk w = true ∧ done.length = k ∧ stepsP v p = done ++ stepsP w (p.drop k) ∧ lastT v done = w ∧ LI h M rec sp w w (done.map fun q => (q.1 : Int)) g, fun i _ => p.length - i.toNat, ⟨0, v, [], rfl, by omega, hv, ho, rfl, by simp, rfl, I0⟩, ?_⟩
    rintro i g ⟨k, w, done, rfl, hk, hw, how, hdl, hst, hla, I⟩
    refine ⟨fun hc => ?_, fun hc => ?_⟩
    · have hc' : k < p.length := by simp at hc; omega
      have agg : AgM M g := ag.keep I.keep
      refine strAt agg hr hc' rfl rfl ?_
      obtain ⟨ck, ci, c1, c2, c3⟩ := I.c
      refine ⟨w.kind, w.text, ck, ci, c1.ld (cs := tcells w.kind w.text ck ci), ?_⟩
      have hpk := hp.s _ (List.getElem_mem hc')
      have hit : PC Tryz.prog gl 99 [Arg.mk .tree w, Arg.mk .str p[k]] [.int .i64] (fun r => r = stepP w p[k]) := item_pc hg hpk rfl
      refine hit.go (vs := [.agg #[.int .i64 w.kind, .string w.text, slV ck, slV ci], .string p[k]]) hM agg (args1 (rdTree_mk c2 c3) (args1 (rdStr _) args0)) fun q g13 M13 r L13 hret hrr => ?_
      have hrr : r = stepP w p[k] := hrr
      subst hrr
      have I13 := I.frame L13.keep
      have hdrop : p.drop k = p[k] :: p.drop (k + 1) := List.drop_eq_getElem_cons hc'
      refine ⟨stepP w p[k], retI hret, fun hneg => ?_, fun hpos => ?_⟩
      · have hneg' : stepP w p[k] < 0 := by simpa using hneg
        rw [hdrop, stepsP_no hneg', List.append_nil] at hst
        exact fin w done g13 hst hla I13
      · have hpos' : ¬ stepP w p[k] < 0 := by simpa using hpos
        obtain ⟨j, hj, hjl⟩ : ∃ j : Nat, stepP w p[k] = j ∧ j < w.items.length := by
          rcases stepP_ok (allT_here how) p[k] with e | e
          · omega
          · exact e
        have c1' := c1.ofKeep L13.keep
        have ag13 : AgM M g13 := ag.keep I13.keep
        obtain ⟨hcl, _, _⟩ := rowLen c3
        obtain ⟨a, xk, xi, ea, xld, xk', xi'⟩ := treeAt ag13 c3 hjl
        have hm : w.items[j] ∈ w.items := List.getElem_mem hjl
        rw [hj]
        refine ⟨ci, c1'.cellAdd (o := 0) (k := 3) rfl, a, ⟨ea, by omega, by omega⟩, w.items[j].kind, w.items[j].text, xk, xi, by rw [Int.toNat_natCast]; exact xld, ?_⟩
        refine storeTree c1' rfl _ _ _ _ fun g21 b21 z21 f21 => ?_
        have I21 : LI h M rec sp w w.items[j] (done.map fun q => (q.1 : Int)) g21 := I13.setC z21 f21 b21 xk' xi'
        refine ⟨w.items[j].kind, w.items[j].text, xk, xi, b21.ld (cs := tcells w.items[j].kind w.items[j].text xk xi), ?_⟩
        have key : ∀ K : Value → Heap → Prop, (∀ h', LI h M rec sp w.items[j] w.items[j] ((done.map fun q => (q.1 : Int)) ++ [(j : Int)]) h' → K (.bool true) h') → YX Tryz.prog (h.size + 6) #[.int .i64 (j : Int), .agg #[.int .i64 w.items[j].kind, .string w.items[j].text, .slice xk.a xk.len xk.cap, .slice xi.a xi.len xi.cap]] g21 K := fun K hK =>
          @hY _ _ _ K I21.l (round_ok (K := K) I21 (j : Int) (by rw [List.length_map]; omega) xk' xi' hK)
        refine key _ fun g27 I27 => ⟨true, rfl, fun hx => (by cases hx), fun _ => ?_⟩
        have hw2 := wsucc hc' (by omega)
        rw [hw2]
        refine ⟨⟨k + 1, w.items[j], done ++ [(j, w.items[j])], rfl, by omega, hw.item hm, allT_item how hm, by simp [hdl], ?_, by unfold lastT; simp, by rw [List.map_append]; exact I27⟩, by simp only [Int.toNat_natCast]; omega⟩
        rw [hst, hdrop, stepsP_yes hj hjl]; simp
    · have hc' : k = p.length := by simp at hc; omega
      subst hc'
      rw [List.drop_length] at hst
      have : stepsP w [] = [] := by simp [stepsP]
      rw [this, List.append_nil] at hst
      exact fin w done g hst hla I
end Go.Proofs.YtaoceiiakcpbaaaGreatDoor
end
section
namespace Go.Proofs.YtaoceiiakcpbaaaGreatDoor
open Go Go.X Go.Proofs
set_option linter.unusedVariables false
theorem Copy_pc {gl : Fr} (hg : GL gl) {v : Tr} (hv : Sm v) (ho : openT v = true) {R : Tr → Prop} (hR : R v) : PC Tryz.prog gl 47 [Arg.mk .tree v] [.tree] R := by
  intro h M vs hM ag ha
  match vs, ha with
  | [u], ⟨hu, _⟩ =>
    have hu : RdV M .tree v u := hu
    have hu0 := hu
    obtain ⟨sk, si, rfl, rk, ri⟩ := rdTree hu
    apply PX.of
    apply sh_value_Copy v.kind v.text sk si
    intro h1 h2
    have z1 : h1.size = h.size + 1 := Array.size_push _
    have z2 : h2.size = h1.size + 1 := Array.size_push _
    have k1 : Keep h.size h h1 := Keep.push _ _ (Nat.le_refl _)
    have k2 : Keep h1.size h1 h2 := Keep.push _ _ (Nat.le_refl _)
    have b1 : Blk h1 h.size (tcells v.kind v.text sk si).toArray := Blk.new _ _ _
    have b2 : Blk h2 h1.size (tcells 0 ⟨#[]⟩ ⟨none, 0, 0⟩ ⟨none, 0, 0⟩).toArray := Blk.new _ _ _
    clear_value h1 h2
    have K2 : Keep h.size h h2 := k1.trans k2 (by omega)
    have ag2 := ag.keep K2
    refine ⟨v.kind, v.text, sk, si, (b1.ofKeep k2).ld (cs := tcells v.kind v.text sk si), ?_⟩
    have hopen : PC Tryz.prog gl 45 [Arg.mk .tree v] [.bool] (fun r => r = openT v) := Open_pc hg hv rfl
    refine hopen.go (vs := [.agg #[.int .i64 v.kind, .string v.text, slV sk, slV si]]) hM ag2 (args1 hu0 args0) fun w h3 M3 r L3 hret hr => ?_
    have hr : r = openT v := hr
    refine ⟨r, retB hret, fun hx => ?_, fun hx => ?_⟩
    · rw [hr, ho] at hx; cases hx
    · refine ⟨v.kind, v.text, sk, si, ((b1.ofKeep k2).ofKeep L3.keep).ld (cs := tcells v.kind v.text sk si), ?_⟩
      have K3 : Keep h.size h h3 := K2.trans L3.keep (by have := K2.size; omega)
      refine (clone_on (tsz v) v (Nat.le_refl _) hv (ag.keep K3) hu0).mono ?_
      rintro w' h4 ⟨k4, bs, ck, ci, rfl, ot, hbs⟩
      have z3 := L3.keep.size
      have z4 := k4.size
      refine ⟨v.kind, v.text, ck, ci, rfl, ?_⟩
      refine storeTree (((b2.ofKeep L3.keep).ofKeep k4)) rfl _ _ _ _ fun h5 b5 z5 f5 => ?_
      have K5 : Keep h.size h h5 := ⟨by have := K3.size; omega, fun i hi => by rw [f5 i (by omega), k4.get i (by have := K3.size; omega)]; exact K3.get i hi⟩
      have ot5 := ot.frame fun b hb => f5 b (by have := hbs b hb; omega)
      have hsz := K3.size
      exact ⟨v.kind, v.text, ck, ci, b5.ld (cs := tcells v.kind v.text ck ci), MxL M h5 bs, v, MxL.later ag K5 (fun b hb => by have := hbs b hb; omega), ret1.2 ot5.rdv, hR⟩
theorem sized_item {v x : Tr} (h : sizedT v = true) (hx : x ∈ v.items) : sizedT x = true := by
  unfold sizedT at h ⊢
  simp at h ⊢
  have h1 := tsz_item hx
  have h2 : tdp x ≤ tdpL v.items := by
    have gen : ∀ l : List Tr, x ∈ l → tdp x ≤ tdpL l := by
      intro l
      induction l with
      | nil => intro hm; cases hm
      | cons y l ih =>
        intro hm
        rw [tdpL]
        rcases List.mem_cons.1 hm with rfl | hm
        · omega
        · have := ih hm; omega
    exact gen _ hx
  have h3 := tdp_eq v
  omega
theorem open_item {v x : Tr} (h : openT v = true) (hx : x ∈ v.items) : openT x = true := by
  unfold openT at h ⊢
  rw [Bool.and_eq_true] at h ⊢
  exact ⟨sized_item h.1 hx, allT_item h.2 hx⟩
theorem open_all {v : Tr} (h : openT v = true) : allT nodeOk v = true := by unfold openT at h; rw [Bool.and_eq_true] at h; exact h.2
theorem open_last (n : Nat) : ∀ (v : Tr) (p : List ByteArray), p.length ≤ n → openT v = true → Sm v → openT (lastT v (stepsP v p)) = true ∧ Sm (lastT v (stepsP v p)) := by
  induction n with
  | zero =>
    intro v p hp ho hs
    have : p = [] := List.eq_nil_of_length_eq_zero (by omega)
    subst this
    exact ⟨ho, hs⟩
  | succ n ih =>
    intro v p hp ho hs
    match p with
    | [] => exact ⟨ho, hs⟩
    | s :: p =>
      rcases stepP_ok (allT_here (open_all ho)) s with e | ⟨k, e, hk⟩
      · rw [stepsP_no (by omega)]; exact ⟨ho, hs⟩
      · rw [stepsP_yes e hk, lastT_cons]
        have hm := List.getElem_mem hk
        exact ih v.items[k] p (by simpa using hp) (open_item ho hm) (hs.item hm)
theorem Find_pc {gl : Fr} (hg : GL gl) {v : Tr} (hv : Sm v) {p : List ByteArray} (hp : SL p) {R : Tr × Bool → Prop} (hR : R (findR v p)) : PC Tryz.prog gl 16 [Arg.mk .tree v, Arg.mk (.row .str) p] [.tree, .bool] R := by
  apply pu_pointer_Find
  rw [tr_eta]
  unfold findR at hR
  refine Open_pc hg hv ⟨fun b => b = rightP p, fun _ => Right_pc hg hp rfl, fun b hb => ?_⟩
  cases ho : openT v with
  | false =>
    rw [ho] at hR
    exact ⟨fun _ => hR, fun hx => by cases hx⟩
  | true =>
    have hb' : b = rightP p := hb (by rw [ho]; rfl)
    subst hb'
    cases hr : rightP p with
    | false =>
      rw [ho, hr] at hR
      exact ⟨fun _ => hR, fun hx => by cases hx⟩
    | true =>
      rw [ho, hr, Bool.and_true, if_pos rfl] at hR
      refine ⟨fun hx => (by cases hx), fun _ => ?_⟩
      refine leads_pc hg hv (open_all ho) hp ⟨fun hx => ?_, fun hx => ?_⟩
      · have : findP v p = none := by unfold findP; rw [if_neg (by simpa using hx)]
        rw [this] at hR; exact hR
      · have : findP v p = some (lastT v (stepsP v p)) := by unfold findP; rw [if_pos (by simpa using hx)]
        rw [this] at hR
        obtain ⟨h1, h2⟩ := open_last p.length v p (Nat.le_refl _) ho hv
        rw [tr_eta]
        refine Copy_pc hg h2 h1 ?_
        rw [show Tr.mk (lastT v (stepsP v p)).kind (lastT v (stepsP v p)).text (lastT v (stepsP v p)).keys (lastT v (stepsP v p)).items = lastT v (stepsP v p) from tr_eta _]
        exact hR
end Go.Proofs.YtaoceiiakcpbaaaGreatDoor
end
section
namespace Go.Proofs.YtaoceiiakcpbaaaGreatDoor
open Go Go.X Go.Proofs
set_option linter.unusedVariables false
theorem num1 : nmText (numParse (Lib.itoa 1)).1 = [49] := by kernel_rfl
theorem num2 : nmText (numParse (Lib.itoa 2)).1 = [50] := by kernel_rfl
theorem ps_a : prsP [97] = ([], 2) := by kernel_rfl
theorem ps_t : prsP [47, 126, 50] = ([], 2) := by kernel_rfl
theorem ps_n : prsP [] = ([], 0) := by kernel_rfl
theorem rp_1 : rightP [⟨#[97, 47, 98]⟩, ⟨#[126]⟩, ⟨#[]⟩] = true := by kernel_rfl
def smT : Tr := .mk 6 ⟨#[]⟩ [⟨#[97]⟩] [.mk 5 ⟨#[]⟩ [] [.mk 3 (bl [49]) [] [], .mk 3 (bl [50]) [] []]]
theorem fd_1 : findR smT [⟨#[97]⟩, ⟨#[49]⟩] = (.mk 3 (bl [50]) [] [], true) := by kernel_rfl
theorem fd_2 : (findR smT [⟨#[97]⟩, ⟨#[48, 49]⟩]).2 = false := by kernel_rfl
theorem tx_1 : bl (txtP (([⟨#[97, 47, 98]⟩, ⟨#[126]⟩, ⟨#[]⟩] : List ByteArray).map lb)) = ⟨#[47, 97, 126, 49, 98, 47, 126, 48, 47]⟩ := by kernel_rfl
theorem smT_sm : Sm smT := by
  refine Sm.few ?_ ?_
  · have : tks smT = 5 := by kernel_rfl
    omega
  · have leaf : ∀ b : Bs, b.length ≤ 2048 → txS (.mk 3 (bl b) [] []) := fun b hb => by
      rw [txS, txSL]; exact ⟨⟨by rw [bl_size]; exact hb, by simp⟩, trivial⟩
    unfold smT
    rw [txS, txSL, txSL, txS, txSL, txSL, txSL]
    exact ⟨⟨by decide, by decide⟩, ⟨⟨by decide, by simp⟩, leaf _ (by decide), leaf _ (by decide), trivial⟩, trivial⟩
theorem sl_small {l : List ByteArray} (h : l.length ≤ 1000000) (h2 : ∀ x ∈ l, x.size ≤ 1048576) : SL l := ⟨h, fun x hx => by rw [lb_len]; exact h2 x hx⟩
theorem small_pc {gl : Fr} (hg : GL gl) {R : Bool → Prop} (hR : R true) : PC Tryz.prog gl 9 [] [.bool] R := by
  apply pu_scarflaw07_small
  refine Text_pc hg (sl_small (by decide) (by decide)) (fun _ => ?_) (fun hx => by rw [rp_1] at hx; cases hx)
  rw [tx_1]
  refine Parse_pc hg (s := [97]) (by decide) ?_
  rw [ps_a]
  refine Parse_pc hg (s := [47, 126, 50]) (by decide) ?_
  rw [ps_t]
  refine Parse_pc hg (s := []) (by decide) ?_
  rw [ps_n]
  refine Num_pc hg (by decide) (by decide) ?_
  refine Num_pc hg (by decide) (by decide) ?_
  rw [num1, num2]
  refine Row_pc ?_
  refine Map_pc ?_
  refine Find_pc hg (v := smT) smT_sm (sl_small (by decide) (by decide)) ?_
  rw [fd_1]
  refine Find_pc hg (v := smT) smT_sm (sl_small (by decide) (by decide)) ?_
  rw [fd_2]
  have key : ∀ b, b = true → R b := fun b hb => hb ▸ hR
  exact key _ (by kernel_rfl)
end Go.Proofs.YtaoceiiakcpbaaaGreatDoor
end
section
namespace Go.Proofs.YtaoceiiakcpbaaaGreatDoor
open Go Go.X Go.Proofs
set_option linter.unusedVariables false
theorem Copy_on {gl : Fr} (hg : GL gl) {v : Tr} (hv : Sm v) (ho : openT v = true) {h : Heap} {M : Fr} {u : Value} (hM : Fr.le gl M) (ag : AgM M h) (hu : RdV M .tree v u) {K : Value → Heap → Prop}
    (hK : ∀ (h' : Heap) (bs : List Nat) (sk si : Sl), Keep h.size h h' → OT h' v bs (tcells v.kind v.text sk si) → (∀ b ∈ bs, h.size ≤ b) → K (.agg #[.int .i64 v.kind, .string v.text, slV sk, slV si]) h') : XC Tryz.prog 47 #[u] h K := by
  have hu0 := hu
  obtain ⟨sk, si, rfl, rk, ri⟩ := rdTree hu
  apply sh_value_Copy v.kind v.text sk si
  intro h1 h2
  have z1 : h1.size = h.size + 1 := Array.size_push _
  have z2 : h2.size = h1.size + 1 := Array.size_push _
  have k1 : Keep h.size h h1 := Keep.push _ _ (Nat.le_refl _)
  have k2 : Keep h1.size h1 h2 := Keep.push _ _ (Nat.le_refl _)
  have b1 : Blk h1 h.size (tcells v.kind v.text sk si).toArray := Blk.new _ _ _
  have b2 : Blk h2 h1.size (tcells 0 ⟨#[]⟩ ⟨none, 0, 0⟩ ⟨none, 0, 0⟩).toArray := Blk.new _ _ _
  clear_value h1 h2
  have K2 : Keep h.size h h2 := k1.trans k2 (by omega)
  have ag2 := ag.keep K2
  refine ⟨v.kind, v.text, sk, si, (b1.ofKeep k2).ld (cs := tcells v.kind v.text sk si), ?_⟩
  have hopen : PC Tryz.prog gl 45 [Arg.mk .tree v] [.bool] (fun r => r = openT v) := Open_pc hg hv rfl
  refine hopen.go (vs := [.agg #[.int .i64 v.kind, .string v.text, slV sk, slV si]]) hM ag2 (args1 hu0 args0) fun w h3 M3 r L3 hret hr => ?_
  have hr : r = openT v := hr
  refine ⟨r, retB hret, fun hx => ?_, fun hx => ?_⟩
  · rw [hr, ho] at hx; cases hx
  · refine ⟨v.kind, v.text, sk, si, ((b1.ofKeep k2).ofKeep L3.keep).ld (cs := tcells v.kind v.text sk si), ?_⟩
    have K3 : Keep h.size h h3 := K2.trans L3.keep (by have := K2.size; omega)
    refine (clone_on (tsz v) v (Nat.le_refl _) hv (ag.keep K3) hu0).mono ?_
    rintro w' h4 ⟨k4, bs, ck, ci, rfl, ot, hbs⟩
    have z3 := L3.keep.size
    have z4 := k4.size
    refine ⟨v.kind, v.text, ck, ci, rfl, ?_⟩
    refine storeTree (((b2.ofKeep L3.keep).ofKeep k4)) rfl _ _ _ _ fun h5 b5 z5 f5 => ?_
    have K5 : Keep h.size h h5 := ⟨by have := K3.size; omega, fun i hi => by rw [f5 i (by omega), k4.get i (by have := K3.size; omega)]; exact K3.get i hi⟩
    have ot5 := ot.frame fun b hb => f5 b (by have := hbs b hb; omega)
    have hsz := K3.size
    exact ⟨v.kind, v.text, ck, ci, b5.ld (cs := tcells v.kind v.text ck ci), hK h5 bs ck ci K5 ot5 fun b hb => by have := hbs b hb; omega⟩
theorem OT.zero (h : Heap) : OT h zT [] (tcells 0 ⟨#[]⟩ ⟨none, 0, 0⟩ ⟨none, 0, 0⟩) :=
  OT.mk (k := 0) (s := ⟨#[]⟩) (ks := []) (xs := []) (sk := ⟨none, 0, 0⟩) (si := ⟨none, 0, 0⟩) (bk := []) (bb := []) (b := 0) (cs := #[]) (bf := fun _ => []) ⟨rfl, by simp, by simp, .inl ⟨rfl, rfl⟩⟩ ⟨rfl, by simp, by simp⟩ (.inl ⟨rfl, rfl⟩) (fun i hi => absurd hi (by simp)) (by simp)
theorem leads_go {gl : Fr} (hg : GL gl) {v : Tr} (hv : Sm v) (ho : allT nodeOk v = true) {p : List ByteArray} (hp : SL p) {h : Heap} {M : Fr} {u1 u2 : Value} (hM : Fr.le gl M) (ag : AgM M h) (hu1 : RdV M .tree v u1) (hu2 : RdV M (.row .str) p u2) {K : Value → Heap → Prop}
    (hK : ∀ (h' : Heap) (M' : Fr) (sa wk wi : Sl), Later h M h' M' → Rd M' (.row (.int .i64)) ((stepsP v p).map fun q => (q.1 : Int)) [slV sa] → Rd M' (.row .str) (lastT v (stepsP v p)).keys [slV wk] → Rd M' (.row .tree) (lastT v (stepsP v p)).items [slV wi] →
      K (.tuple #[slV sa, .agg #[.int .i64 (lastT v (stepsP v p)).kind, .string (lastT v (stepsP v p)).text, slV wk, slV wi], .bool (decide ((stepsP v p).length = p.length))]) h') : XC Tryz.prog 46 #[u1, u2] h K := by
  have hl : PC Tryz.prog gl 46 [Arg.mk .tree v, Arg.mk (.row .str) p] [.row (.int .i64), .tree, .bool] (fun r => r = ((stepsP v p).map (fun q => (q.1 : Int)), lastT v (stepsP v p), decide ((stepsP v p).length = p.length))) := leads_pc hg hv ho hp rfl
  refine hl.go (vs := [u1, u2]) hM ag (args1 hu1 (args1 hu2 args0)) fun w h' M' r L hret hr => ?_
  have hr : r = _ := hr
  subst hr
  obtain ⟨us, ⟨x1, us1, rfl, r1, x2, us2, rfl, r2, x3, rfl, r3⟩, rfl⟩ := hret
  obtain ⟨sa, rfl, ra⟩ := rdRow r1
  obtain ⟨wk, wi, rfl, rwk, rwi⟩ := rdTree r2
  rw [rdv1 rfl] at r3
  have : x3 = .bool (decide ((stepsP v p).length = p.length)) := by simpa [Rd] using r3
  subst this
  exact hK h' M' sa wk wi L ra rwk rwi
end Go.Proofs.YtaoceiiakcpbaaaGreatDoor
end
section
namespace Go.Proofs.YtaoceiiakcpbaaaGreatDoor
open Go Go.X Go.Proofs
set_option linter.unusedVariables false
set_option maxHeartbeats 4000000 in
theorem Set_on {gl : Fr} (hg : GL gl) {v w : Tr} (hv : Sm v) (hw : Sm w) {p : List ByteArray} (hp : SL p) {h : Heap} {M : Fr} {u1 u2 u3 : Value} (hM : Fr.le gl M) (ag : AgM M h) (hu1 : RdV M .tree v u1) (hu2 : RdV M (.row .str) p u2) (hu3 : RdV M .tree w u3) {K : Value → Heap → Prop}
    (hK : ∀ (h' : Heap) (bs : List Nat) (sk si : Sl), Keep h.size h h' → OT h' (setR v p w).1 bs (tcells (setR v p w).1.kind (setR v p w).1.text sk si) → (∀ b ∈ bs, h.size ≤ b) → K (.tuple #[.agg #[.int .i64 (setR v p w).1.kind, .string (setR v p w).1.text, slV sk, slV si], .int .i64 (setR v p w).2]) h') :
    XC Tryz.prog 20 #[u1, u2, u3] h K := by
  have hu10 := hu1
  have hu20 := hu2
  have hu30 := hu3
  obtain ⟨sk, si, rfl, rk, ri⟩ := rdTree hu1
  obtain ⟨sp, rfl, rp⟩ := rdRow hu2
  obtain ⟨wk, wi, rfl, rwk, rwi⟩ := rdTree hu3
  apply sh_pointer_Set v.kind v.text sk si sp w.kind w.text wk wi
  intro h1 h2 h3
  have z1 : h1.size = h.size + 1 := Array.size_push _
  have z2 : h2.size = h1.size + 1 := Array.size_push _
  have z3 : h3.size = h2.size + 1 := Array.size_push _
  have k1 : Keep h.size h h1 := Keep.push _ _ (Nat.le_refl _)
  have k2 : Keep h1.size h1 h2 := Keep.push _ _ (Nat.le_refl _)
  have k3 : Keep h2.size h2 h3 := Keep.push _ _ (Nat.le_refl _)
  have b1 : Blk h1 h.size (tcells v.kind v.text sk si).toArray := Blk.new _ _ _
  have b2 : Blk h2 h1.size (tcells w.kind w.text wk wi).toArray := Blk.new _ _ _
  have b3 : Blk h3 h2.size (tcells 0 ⟨#[]⟩ ⟨none, 0, 0⟩ ⟨none, 0, 0⟩).toArray := Blk.new _ _ _
  have b1' := (b1.ofKeep k2).ofKeep k3
  have b2' := b2.ofKeep k3
  clear_value h1 h2 h3
  have K3 : Keep h.size h h3 := (k1.trans k2 (by omega)).trans k3 (by omega)
  have zero : ∀ (g : Heap) (e : Int), Keep h3.size h3 g → setR v p w = (zT, e) → XRunU Tryz.prog (Instr.storeAt 34 (.pointer (some ⟨Array.size h2, 0, none⟩)) (.agg #[.int .i64 0, .string (⟨#[]⟩ : ByteArray), .slice none 0 0, .slice none 0 0])) g (fun h_20 => ∃ r_21 : Int, ∃ r_22 : ByteArray, ∃ r_23 : Sl, ∃ r_24 : Sl, ldList h_20 ⟨Array.size h2, 0, none⟩ 0 [.int .i64 r_21, .string r_22, .slice r_23.a r_23.len r_23.cap, .slice r_24.a r_24.len r_24.cap] ∧ K (.tuple #[.agg #[.int .i64 r_21, .string r_22, .slice r_23.a r_23.len r_23.cap, .slice r_24.a r_24.len r_24.cap], .int .i64 e]) h_20) := fun g e kg hz => by
    have := kg.size
    refine storeTree (b3.ofKeep kg) rfl 0 ⟨#[]⟩ ⟨none, 0, 0⟩ ⟨none, 0, 0⟩ fun h5 b5 z5 f5 => ⟨0, ⟨#[]⟩, ⟨none, 0, 0⟩, ⟨none, 0, 0⟩, b5.ld (cs := tcells 0 ⟨#[]⟩ ⟨none, 0, 0⟩ ⟨none, 0, 0⟩), ?_⟩
    have := hK h5 [] ⟨none, 0, 0⟩ ⟨none, 0, 0⟩ ⟨by omega, fun i hi => by rw [f5 i (by omega), kg.get i (by omega)]; exact K3.get i hi⟩ (by rw [hz]; exact OT.zero h5) (by simp)
    rw [hz] at this
    exact this
  refine ⟨v.kind, v.text, sk, si, b1'.ld (cs := tcells v.kind v.text sk si), ?_⟩
  have hopen : PC Tryz.prog gl 45 [Arg.mk .tree v] [.bool] (fun r => r = openT v) := Open_pc hg hv rfl
  refine hopen.go (vs := [.agg #[.int .i64 v.kind, .string v.text, slV sk, slV si]]) hM (ag.keep K3) (args1 hu10 args0) fun x h9 M9 r L9 hret hr => ?_
  have hr : r = openT v := hr
  subst hr
  have z9 := L9.keep.size
  refine ⟨openT v, retB hret, w.kind, w.text, wk, wi, fun _ => (b2'.ofKeep L9.keep).ld (cs := tcells w.kind w.text wk wi), ?_⟩
  refine ⟨fun y g => Keep h3.size h3 g ∧ ∃ b, y = .bool b ∧ (openT v = true → b = openT w), fun hx => ?_, fun hx => ⟨false, L9.keep, false, rfl, fun ho => by rw [ho] at hx; cases hx⟩, fun hx y g hj => ?_, fun b g hj => ?_⟩
  · have hopen2 : PC Tryz.prog gl 45 [Arg.mk .tree w] [.bool] (fun r => r = openT w) := Open_pc hg hw rfl
    refine hopen2.go (vs := [.agg #[.int .i64 w.kind, .string w.text, slV wk, slV wi]]) (hM.trans L9.le) L9.ag (args1 (hu30.mono L9.le) args0) fun y h15 M15 r L15 hret hr => ?_
    have hr : r = openT w := hr
    exact ⟨r, retB hret, L9.keep.trans L15.keep (by omega), r, rfl, fun _ => hr⟩
  · obtain ⟨_, b, e, _⟩ := hj; exact ⟨b, e⟩
  obtain ⟨kg, b', e, hb'⟩ := hj
  cases e
  have zg := kg.size
  have KG : Keep h.size h g := K3.trans kg (by omega)
  have agg := ag.keep KG
  refine ⟨fun y g2 => Keep h3.size h3 g2 ∧ ∃ c, y = .bool c ∧ ((openT v && b) = true → c = rightP p), fun hx => ?_, fun hx => ⟨false, kg, false, rfl, fun ho => by rw [Bool.and_eq_true] at ho; rw [ho.1, ho.2] at hx; cases hx⟩, fun hx y g2 hj => ?_, fun c g2 hj => ?_⟩
  · have hright : PC Tryz.prog gl 12 [Arg.mk (.row .str) p] [.bool] (fun r => r = rightP p) := Right_pc hg hp rfl
    refine hright.go (vs := [slV sp]) hM agg (args1 hu20 args0) fun y h15 M15 r L15 hret hr => ?_
    have hr : r = rightP p := hr
    exact ⟨r, retB hret, kg.trans L15.keep (by omega), r, rfl, fun _ => hr⟩
  · obtain ⟨_, c, e, _⟩ := hj; exact ⟨c, e⟩
  obtain ⟨kg2, c', e, hc'⟩ := hj
  cases e
  have zg2 := kg2.size
  have KG2 : Keep h.size h g2 := K3.trans kg2 (by omega)
  have agg2 := ag.keep KG2
  have hall : (openT v && openT w && rightP p) = (openT v && b && c) := by
    cases ho : openT v with
    | false => rfl
    | true =>
      rw [← hb' ho]
      cases hb : b with
      | false => rfl
      | true => rw [hc' (by rw [ho, hb]; rfl)]
  refine ⟨fun hx => zero g2 1 kg2 ?_, fun hx => ?_⟩
  · unfold setR
    rw [hall]
    have : (openT v && b && c) = false := by cases h1 : openT v <;> cases h2 : b <;> cases h3 : c <;> simp [h1, h2, h3] at hx ⊢
    rw [this]; rfl
  have h3c : (openT v && b && c) = true := by cases h1 : openT v <;> cases h2 : b <;> cases h3 : c <;> simp [h1, h2, h3] at hx ⊢
  rw [← hall] at h3c
  have ho : openT v = true ∧ openT w = true ∧ rightP p = true := by simpa [and_assoc] using h3c
  obtain ⟨ov, ow, hr⟩ := ho
  have hset : setR v p w = if (stepsP v p).length = p.length then (if openT (setP v p w) then (setP v p w, 0) else (zT, 1)) else (zT, 8) := by
    unfold setR; rw [ov, ow, hr]; rfl
  refine ⟨v.kind, v.text, sk, si, (b1'.ofKeep kg2).ld (cs := tcells v.kind v.text sk si), ?_⟩
  refine leads_go hg hv (open_all ov) hp hM agg2 hu10 hu20 fun h45 M45 sa lk li L45 ra rlk rli => ⟨sa, _, _, lk, li, _, rfl, ?_⟩
  have z45 := L45.keep.size
  intro h52
  have z52 : h52.size = h45.size + 1 := Array.size_push _
  have k52 : Keep h45.size h45 h52 := Keep.push _ _ (Nat.le_refl _)
  have b52 : Blk h52 h45.size (tcells 0 ⟨#[]⟩ ⟨none, 0, 0⟩ ⟨none, 0, 0⟩).toArray := Blk.new _ _ _
  clear_value h52
  refine storeTree b52 rfl _ _ _ _ fun h53 b53 z53 f53 => ?_
  have k53 : Keep h45.size h45 h53 := ⟨by omega, fun i hi => by rw [f53 i (by omega)]; exact k52.get i hi⟩
  have kg53 : Keep h3.size h3 h53 := (kg2.trans L45.keep (by omega)).trans k53 (by omega)
  have ag53 := L45.ag.keep k53
  refine ⟨fun hx => zero h53 8 kg53 ?_, fun hx => ?_⟩
  · have : (stepsP v p).length ≠ p.length := by simpa using hx
    rw [hset, if_neg this]
  have hf : (stepsP v p).length = p.length := by simpa using hx
  rw [if_pos hf] at hset
  refine ⟨v.kind, v.text, sk, si, (b1'.ofKeep kg53).ld (cs := tcells v.kind v.text sk si), ?_⟩
  refine Copy_on hg hv ov (hM.trans L45.le) ag53 (hu10.mono L45.le) fun h64 bs ck ci k64 ot hbs => ⟨v.kind, v.text, ck, ci, rfl, ?_⟩
  have z64 := k64.size
  intro h69
  have z69 : h69.size = h64.size + 1 := Array.size_push _
  have k69 : Keep h64.size h64 h69 := Keep.push _ _ (Nat.le_refl _)
  have b69 : Blk h69 h64.size (tcells 0 ⟨#[]⟩ ⟨none, 0, 0⟩ ⟨none, 0, 0⟩).toArray := Blk.new _ _ _
  clear_value h69
  refine storeTree b69 rfl _ _ _ _ fun h70 b70 z70 f70 => ?_
  have k70 : Keep h64.size h64 h70 := ⟨by omega, fun i hi => by rw [f70 i (by omega)]; exact k69.get i hi⟩
  have kg70 : Keep h53.size h53 h70 := k64.trans k70 (by omega)
  have ag70 := ag53.keep kg70
  have ot70 : OT h70 v bs (tcells v.kind v.text ck ci) := ot.frame fun b hb => k70.get b (ot.lt b hb)
  have foc0 : Foc h70 h53.size h64.size ⟨h64.size, 0, none⟩ v id := Foc.root b70 rfl (by omega) ot70 fun c hc => ⟨hbs c hc, by have := ot.lt c hc; omega⟩
  obtain ⟨hla, hna, hca⟩ := rowLen ra
  have hsl : sa.len = p.length := by rw [hla, List.length_map, hf]
  have hpn := hp.n
  refine ⟨fun pl i g => g = h70 ∧ ∃ (k : Nat) (pa : Addr) (x : Tr) (T : Tr → Tr), i = (k : Int) ∧ k ≤ p.length ∧ pl = some pa ∧ Foc h70 h53.size h64.size pa x T ∧ (stepsP x (p.drop k)).length = (p.drop k).length ∧ ((stepsP v p).map fun q => (q.1 : Int)).drop k = (stepsP x (p.drop k)).map (fun q => (q.1 : Int)) ∧ T (setP x (p.drop k) w) = setP v p w,
    fun _ i _ => p.length - i.toNat, ⟨rfl, 0, _, v, id, rfl, by omega, rfl, foc0, by simpa using hf, by simp, by simp⟩, ?_⟩
  rintro pl i g ⟨rfl, k, pa, x, T, rfl, hk, rfl, foc, hfull, hat, hT⟩
  refine ⟨fun hc => ?_, fun hc => ?_⟩
  · have hc' : k < p.length := by rw [hsl] at hc; simp at hc; omega
    have hdrop : p.drop k = p[k] :: p.drop (k + 1) := List.drop_eq_getElem_cons hc'
    rw [hdrop] at hfull hat hT
    obtain ⟨j, hj, e1, e2, e3⟩ := stepsP_full hfull
    rw [e2, List.map_cons] at hat
    rw [setP_yes e1 hj] at hT
    have hlen : k < ((stepsP v p).map fun q => (q.1 : Int)).length := by rw [List.length_map, hf]; exact hc'
    rw [List.drop_eq_getElem_cons hlen] at hat
    injection hat with hat1 hat2
    obtain ⟨ab, ao, acs, ea, ecs, erd⟩ := Go.X.rowAt ra hlen
    obtain ⟨xi, aa, f1, f2, f3, f4⟩ := foc.step hj
    refine ⟨⟨ab, ao, none⟩, ⟨ea, by omega, by rw [hsl]; omega⟩, (j : Int), ?_, pa, rfl, xi, f1, aa, ⟨f2, by omega, by omega⟩, ?_⟩
    · rw [addM, Int.toNat_natCast]
      have h1 : cut acs (ao + k * 1) 1 = [.int .i64 (((stepsP v p).map fun q => (q.1 : Int))[k])] := erd
      rw [hat1] at h1
      exact cellCut ag70 ecs h1
    · rw [wsucc hc' (by omega), Int.toNat_natCast]
      exact ⟨⟨rfl, k + 1, aa.add (j * 4), x.items[j], _, rfl, by omega, rfl, f4, e3, hat2, hT⟩, by simp only [Int.toNat_natCast]; omega⟩
  · have hc' : k = p.length := by rw [hsl] at hc; simp at hc; omega
    subst hc'
    rw [List.drop_length] at hT
    have hT' : T w = setP v p w := by rw [← hT]; rfl
    have kk : Keep h3.size h3 g := kg53.trans kg70 (by omega)
    refine ⟨w.kind, w.text, wk, wi, (b2'.ofKeep kk).ld (cs := tcells w.kind w.text wk wi), ?_⟩
    refine Copy_on hg hw ow (hM.trans L45.le) ag70 (hu30.mono L45.le) fun h86 bw dk di k86 otw hbw => ⟨w.kind, w.text, dk, di, rfl, pa, rfl, ?_⟩
    have z86 := k86.size
    obtain ⟨b, o, cs, rfl, hbase, hblt, hbk, hcs, hput⟩ := foc.put k86 otw hbw
    refine storeN (vs := tcells w.kind w.text dk di) okVal hbk (tcells_cells _ _ _ _) szVal hcs (tcells_one _ _ _ _) fun h92 b92 z92 f92 => ?_
    obtain ⟨cs', bs', hb', hs', ot', hbs'⟩ := hput h92 b92 z92 f92
    rw [hT'] at ot'
    obtain ⟨fk, fi, ecells⟩ := ot'.cells
    have hb'' : Blk h92 h64.size (tcells (setP v p w).kind (setP v p w).text fk fi).toArray := by
      have : cs' = (tcells (setP v p w).kind (setP v p w).text fk fi).toArray := by
        apply Array.ext'; rw [ecells]; rfl
      rw [← this]; exact hb'
    rw [show cs'.toList = tcells (setP v p w).kind (setP v p w).text fk fi from ecells] at ot'
    have kg92 : Keep h53.size h53 h92 := ⟨by omega, fun i hi => by rw [f92 i (by omega), k86.get i (by omega)]; exact kg70.get i hi⟩
    have kk92 : Keep h3.size h3 h92 := kg53.trans kg92 (by omega)
    refine ⟨_, _, fk, fi, hb''.ld (cs := tcells _ _ fk fi), ?_⟩
    have s1 := openT_sz ov
    have s2 := openT_sz ow
    have hsm := setP_sm hv hw (by omega) p
    have ag92 : AgM M45 h92 := ag53.keep kg92
    have agx : AgM (MxL M45 h92 bs') h92 := MxL.ag ag92 bs'
    have hlex : Fr.le M45 (MxL M45 h92 bs') := fun b c e => by
      have := ag53.lt e
      unfold MxL; rw [if_neg (fun hm => by have := (hbs' b hm).1; omega)]; exact e
    have hopen3 : PC Tryz.prog gl 45 [Arg.mk .tree (setP v p w)] [.bool] (fun r => r = openT (setP v p w)) := Open_pc hg hsm rfl
    refine hopen3.go (vs := [.agg #[.int .i64 (setP v p w).kind, .string (setP v p w).text, slV fk, slV fi]]) ((hM.trans L45.le).trans hlex) agx (args1 ot'.rdv args0) fun y h98 M98 r L98 hret hr2 => ?_
    have hr2 : r = openT (setP v p w) := hr2
    subst hr2
    have z98 := L98.keep.size
    refine ⟨openT (setP v p w), retB hret, fun hx => zero h98 1 (kk92.trans L98.keep (by omega)) ?_, fun hx => ?_⟩
    · have : openT (setP v p w) = false := by simpa using hx
      rw [hset, this]; rfl
    · have hop : openT (setP v p w) = true := by simpa using hx
      rw [hop, if_pos rfl] at hset
      refine ⟨_, _, fk, fi, (hb''.ofKeep L98.keep).ld (cs := tcells _ _ fk fi), ?_⟩
      refine storeTree ((b3.ofKeep kk92).ofKeep L98.keep) rfl _ _ _ _ fun h109 b109 z109 f109 => ⟨_, _, fk, fi, b109.ld (cs := tcells _ _ fk fi), ?_⟩
      have hge : ∀ c ∈ bs', h53.size ≤ c := fun c hc => (hbs' c hc).1
      have kz3 := K3.size
      have := hK h109 bs' fk fi ⟨by omega, fun i hi => by rw [f109 i (by omega), L98.keep.get i (by omega), kk92.get i (by omega)]; exact K3.get i hi⟩
        (by rw [hset]; exact (ot'.frame fun c hc => L98.keep.get c (ot'.lt c hc)).frame fun c hc => f109 c (by have := hge c hc; omega)) (fun c hc => by have := hge c hc; omega)
      rw [hset] at this
      exact this
theorem Set_pc {gl : Fr} (hg : GL gl) {v w : Tr} (hv : Sm v) (hw : Sm w) {p : List ByteArray} (hp : SL p) {R : Tr × Int → Prop} (hR : R (setR v p w)) : PC Tryz.prog gl 20 [Arg.mk .tree v, Arg.mk (.row .str) p, Arg.mk .tree w] [.tree, .int .i64] R := by
  intro h M vs hM ag ha
  match vs, ha with
  | [u1, u2, u3], ⟨hu1, hu2, hu3, _⟩ =>
    apply PX.of
    refine Set_on hg hv hw hp hM ag hu1 hu2 hu3 fun h' bs sk si k ot hbs => ?_
    exact ⟨MxL M h' bs, setR v p w, MxL.later ag k hbs, ⟨[_, _], ⟨_, _, rfl, ot.rdv, _, rfl, rdInt _ _⟩, rfl⟩, hR⟩
end Go.Proofs.YtaoceiiakcpbaaaGreatDoor
end
section
namespace Go.X
open Go Go.Lib
set_option linter.unusedVariables false
theorem decVal_cons (c : UInt8) (t : Bs) : decVal (c :: t) = (c.toNat - 48) * 10 ^ t.length + decVal t := by
  have := decVal_append [c] t
  rw [List.singleton_append] at this
  rw [this]; simp [decVal]
theorem dig_range {c : UInt8} (h : isDig c = true) : 48 ≤ c.toNat ∧ c.toNat ≤ 57 := by simpa [isDig] using h
theorem decVal_inj : ∀ (l m : Bs), l.length = m.length → l.all isDig = true → m.all isDig = true → decVal l = decVal m → l = m
  | [], [], _, _, _, _ => rfl
  | [], _ :: _, h, _, _, _ => by simp at h
  | _ :: _, [], h, _, _, _ => by simp at h
  | c :: t, d :: s, h, hl, hm, hv => by
    rw [List.all_cons, Bool.and_eq_true] at hl hm
    have hlen : t.length = s.length := by simpa using h
    rw [decVal_cons, decVal_cons, hlen] at hv
    have h1 := decVal_lt t.length t rfl hl.2
    have h2 := decVal_lt s.length s rfl hm.2
    rw [hlen] at h1
    have hc := dig_range hl.1
    have hd := dig_range hm.1
    have key : c.toNat - 48 = d.toNat - 48 := by
      rcases Nat.lt_trichotomy (c.toNat - 48) (d.toNat - 48) with hlt | heq | hlt
      · have : (c.toNat - 48 + 1) * 10 ^ s.length ≤ (d.toNat - 48) * 10 ^ s.length := Nat.mul_le_mul_right _ hlt
        rw [Nat.add_mul, Nat.one_mul] at this; omega
      · exact heq
      · have : (d.toNat - 48 + 1) * 10 ^ s.length ≤ (c.toNat - 48) * 10 ^ s.length := Nat.mul_le_mul_right _ hlt
        rw [Nat.add_mul, Nat.one_mul] at this; omega
    have e1 : c = d := UInt8.toNat_inj.1 (by omega)
    rw [key] at hv
    rw [e1, decVal_inj t s hlen hl.2 hm.2 (by omega)]
theorem decVal_ge {c : UInt8} {t : Bs} (h : isDig c = true) (h0 : c ≠ 48) : 10 ^ t.length ≤ decVal (c :: t) := by
  rw [decVal_cons]
  have hc := dig_range h
  have : c.toNat ≠ 48 := fun e => h0 (UInt8.toNat_inj.1 e)
  have : 1 * 10 ^ t.length ≤ (c.toNat - 48) * 10 ^ t.length := Nat.mul_le_mul_right _ (by omega)
  omega
theorem decVal_len {l m : Bs} (hl : l.all isDig = true) (hm : m.all isDig = true) (h1 : ¬ (1 < m.length ∧ m.head? = some 48)) (h0 : 1 ≤ l.length) (hlt : l.length < m.length) : decVal l < decVal m := by
  match m, hm, h1, hlt with
  | c :: t, hm, h1, hlt =>
    rw [List.all_cons, Bool.and_eq_true] at hm
    have hne : c ≠ 48 := fun e => h1 ⟨by simp at hlt ⊢; omega, by simp [e]⟩
    have a := decVal_ge (t := t) hm.1 hne
    have b := decVal_lt l.length l rfl hl
    have c : 10 ^ l.length ≤ 10 ^ t.length := Nat.pow_le_pow_right (by decide) (by simp at hlt; omega)
    omega
theorem idxP_inj {l m : Bs} (h1 : (idxP l).2 = true) (h2 : (idxP m).2 = true) (h : (idxP l).1 = (idxP m).1) : l = m := by
  unfold idxP at h1 h2 h
  split at h1
  · cases h1
  · rename_i hc1
    rw [if_neg hc1] at h
    split at h1
    · rename_i hd1
      rw [if_pos hd1] at h
      split at h2
      · cases h2
      · rename_i hc2
        rw [if_neg hc2] at h
        split at h2
        · rename_i hd2
          rw [if_pos hd2] at h
          have hv : decVal l = decVal m := by simp only at h; omega
          simp only [not_or] at hc1 hc2
          rcases Nat.lt_trichotomy l.length m.length with hlt | heq | hlt
          · have := decVal_len hd1 hd2 hc2.2.2 (by omega) hlt; omega
          · exact decVal_inj l m heq hd1 hd2 hv
          · have := decVal_len hd2 hd1 hc1.2.2 (by omega) hlt; omega
        · cases h2
    · cases h1
theorem idxOf_get {x : ByteArray} {l : List ByteArray} {k : Nat} (h : idxOfS l x = (k : Int)) : l[k]? = some x := by
  rcases idxOf_ge x l 0 with ⟨h1, _⟩ | ⟨j, h1, h2, h3⟩
  · unfold idxOfS at h; rw [h1] at h; omega
  · unfold idxOfS at h
    rw [h1] at h
    have : j = k := by simp only [Nat.zero_add] at h; omega
    subst this; exact h3
theorem stepP_inj {v : Tr} {s t : ByteArray} {k : Nat} (h1 : stepP v s = (k : Int)) (h2 : stepP v t = (k : Int)) : s = t := by
  unfold stepP at h1 h2
  by_cases h6 : v.kind = 6
  · rw [if_pos h6] at h1 h2
    have a := idxOf_get h1
    have b := idxOf_get h2
    rw [a] at b
    exact Option.some.inj b
  · rw [if_neg h6] at h1 h2
    by_cases h5 : v.kind = 5
    · rw [if_pos h5] at h1 h2
      split at h1
      · rename_i c1
        split at h2
        · rename_i c2
          have := idxP_inj c1.1 c2.1 (h1.trans h2.symm)
          have e := congrArg bl this
          rw [bl_lb, bl_lb] at e
          exact e
        · omega
      · omega
    · rw [if_neg h5] at h1; omega
theorem find_other {w : Tr} : ∀ (p q : List ByteArray) (v : Tr), (stepsP v p).length = p.length → allT nodeOk v = true → (∃ i, i < p.length ∧ i < q.length ∧ p[i]? ≠ q[i]? ∧ ∀ j, j < i → p[j]? = q[j]?) → findP (setP v p w) q = findP v q
  | [], q, v, _, _, ⟨i, h, _⟩ => by simp at h
  | s :: p, [], v, _, _, ⟨i, _, h, _⟩ => by simp at h
  | s :: p, t :: q, v, hf, ho, ⟨i, h1, h2, h3, h4⟩ => by
    obtain ⟨k, hk, e1, e2, e3⟩ := stepsP_full hf
    rw [setP_yes e1 hk]
    have hlen : (setI v k (setP v.items[k] p w)).items.length = v.items.length := by simp [setI]
    by_cases hst : s = t
    · subst hst
      have hk' : k < (setI v k (setP v.items[k] p w)).items.length := by rw [hlen]; exact hk
      rw [findP_yes (by rw [stepP_set]; exact e1) hk', findP_yes e1 hk]
      have : (setI v k (setP v.items[k] p w)).items[k] = setP v.items[k] p w := by simp [setI]
      rw [this]
      refine find_other p q _ e3 (allT_item ho (List.getElem_mem hk)) ?_
      match i, h1, h2, h3, h4 with
      | 0, _, _, h3, _ => simp at h3
      | i + 1, h1, h2, h3, h4 => exact ⟨i, by simpa using h1, by simpa using h2, by simpa using h3, fun j hj => by simpa using h4 (j + 1) (by omega)⟩
    · rcases stepP_ok (allT_here ho) t with e | ⟨j, e, hj⟩
      · rw [findP_no (by rw [stepP_set]; omega), findP_no (by omega)]
      · have hne : j ≠ k := fun e' => hst (stepP_inj e1 (e' ▸ e))
        have hj' : j < (setI v k (setP v.items[k] p w)).items.length := by rw [hlen]; exact hj
        rw [findP_yes (by rw [stepP_set]; exact e) hj', findP_yes e hj]
        have : (setI v k (setP v.items[k] p w)).items[j] = v.items[j] := by
          exact List.getElem_set_ne (by omega) hj'

        rw [this]
end Go.X
end
section
namespace Go.Proofs.YtaoceiiakcpbaaaGreatDoor
open Go Go.X Go.Proofs
set_option linter.unusedVariables false
theorem setR_cases (v w : Tr) (p : List ByteArray) : (setR v p w = (zT, 1) ∨ setR v p w = (zT, 8)) ∨ (openT v = true ∧ openT w = true ∧ rightP p = true ∧ (stepsP v p).length = p.length ∧ openT (setP v p w) = true ∧ setR v p w = (setP v p w, 0)) := by
  unfold setR
  cases h : (openT v && openT w && rightP p) with
  | false => exact .inl (.inl rfl)
  | true =>
    rw [if_pos rfl]
    split
    · rename_i hf
      split
      · rename_i ho
        simp only [Bool.and_eq_true] at h
        exact .inr ⟨h.1.1, h.1.2, h.2, hf, ho, rfl⟩
      · exact .inl (.inl rfl)
    · exact .inl (.inr rfl)
theorem findR_some {v : Tr} {p : List ByteArray} {x : Tr} (h1 : openT v = true) (h2 : rightP p = true) (h3 : findP v p = some x) : findR v p = (x, true) := by unfold findR; rw [h1, h2, h3]; rfl
theorem findP_full {v : Tr} {p : List ByteArray} (h : (stepsP v p).length = p.length) : findP v p = some (lastT v (stepsP v p)) := by unfold findP; rw [if_pos h]
theorem findP_len {v : Tr} {p : List ByteArray} {x : Tr} (h : findP v p = some x) : (stepsP v p).length = p.length := by
  unfold findP at h
  split at h
  · assumption
  · cases h
theorem findR_sm {v : Tr} (hv : Sm v) {p : List ByteArray} : tsz (findR v p).1 ≤ 1000000000000 := by
  unfold findR
  cases h : (openT v && rightP p) with
  | false => rw [if_neg (by simp)]; decide
  | true =>
    rw [if_pos rfl]
    rw [Bool.and_eq_true] at h
    unfold findP
    split
    · rename_i x hx
      split at hx
      · cases hx
        exact (open_last p.length v p (Nat.le_refl _) h.1 hv).2.sz
      · cases hx
    · decide
set_option maxHeartbeats 1000000 in
theorem Sets_pc {gl : Fr} (hg : GL gl) {v w : Tr} {path other : List ByteArray} {R : Bool → Prop} (hR : R true) : PC Tryz.prog gl 6 [Arg.mk .tree v, Arg.mk (.row .str) path, Arg.mk .tree w, Arg.mk (.row .str) other] [.bool] R := by
  apply pu_scarflaw07_PointerSets
  rw [tr_eta, tr_eta]
  refine small_pc hg (Few_pc (by decide) fun b1 hb1 => ⟨fun b => b = true → ((tks w : Nat) : Int) ≤ 300 ∧ Sm w, fun _ => Few_pc (by decide) fun b hb => hb, fun b2 hb2 => ⟨fun b => b = true → PS path, fun _ => Short_pc fun b hb => hb, fun b3 hb3 => ⟨fun b => b = true → PS other, fun _ => Short_pc fun b hb => hb, fun b4 hb4 => ⟨fun _ => hR, fun hx => ?_⟩⟩⟩⟩)
  have hx' : b1 = true ∧ b2 = true ∧ b3 = true ∧ b4 = true := by
    cases b1 <;> cases b2 <;> cases b3 <;> cases b4 <;> first | exact ⟨rfl, rfl, rfl, rfl⟩ | cases hx
  obtain ⟨rfl, rfl, rfl, rfl⟩ := hx'
  obtain ⟨hv0, hv⟩ := hb1 rfl
  obtain ⟨hw0, hw⟩ := hb2 rfl rfl
  have hps := hb3 rfl rfl
  have hpo := hb4 rfl rfl
  have hp := PS.sl hps
  have ho := PS.sl hpo
  refine Set_pc hg hv hw hp ?_
  rcases setR_cases v w path with (e | e) | ⟨ov, ow, hr, hf, ox, e⟩
  · rw [e]; exact ⟨fun _ => hR, fun hx => by cases hx⟩
  · rw [e]; exact ⟨fun _ => hR, fun hx => by cases hx⟩
  rw [e]
  refine ⟨fun hx => by simp at hx, fun _ => ?_⟩
  have s1 := openT_sz ov
  have s2 := openT_sz ow
  have hsm := setP_sm hv hw (by omega) path
  simp only [tr_eta]
  refine Find_pc hg hsm hp ?_
  rw [findR_some ox hr (find_set w path v hf)]
  refine ⟨fun b => b = true, fun _ => rEqual_pc w w hw.sz fun r hr => hr.2 rfl, fun b hb => ?_⟩
  have hb := hb rfl
  subst hb
  refine ⟨fun hx => (by cases hx), fun _ => ?_⟩
  have hpn := hps.n
  have hon := hpo.n
  refine ⟨fun i => ∃ k : Nat, i = (k : Int) ∧ k ≤ path.length ∧ k ≤ other.length ∧ ∀ j, j < k → path[j]? = other[j]?, fun i => path.length - i.toNat, ⟨0, rfl, by omega, by omega, fun j hj => by omega⟩, ?_⟩
  rintro i ⟨k, rfl, hk1, hk2, hsame⟩
  refine ⟨fun hc => ?_, fun hc => ?_⟩
  · have hc' : k < path.length ∧ k < other.length := by
      cases h1 : decide ((k : Int) < ((path.length : Nat) : Int)) with
      | false => rw [h1] at hc; cases hc
      | true =>
        rw [h1, cond_true] at hc
        simp at h1 hc
        omega
    obtain ⟨c1, c2⟩ := hc'
    refine ⟨path[k], ⟨by omega, strIt c1⟩, other[k], ⟨by omega, strIt c2⟩, fun hne => ?_, fun heq => ?_⟩
    · have hne' : path[k] ≠ other[k] := fun e => by rw [e] at hne; simp at hne
      refine Find_pc hg hv ho (Find_pc hg hsm ho ?_)
      have hfo : findP (setP v path w) other = findP v other := find_other path other v hf (open_all ov) ⟨k, c1, c2, by rw [List.getElem?_eq_getElem c1, List.getElem?_eq_getElem c2]; exact fun e => hne' (Option.some.inj e), hsame⟩
      have hfr : findR (setP v path w) other = findR v other := by unfold findR; rw [ov, ox, hfo]
      rw [hfr]
      refine ⟨fun b => b = true, fun _ => rEqual_pc _ _ (findR_sm hv) fun r hr => hr.2 rfl, fun b hb => ?_⟩
      have e1 : ((findR v other).2 == (findR v other).2) = true := by simp
      simp only [e1, cond_true] at hb ⊢
      have hb := hb trivial
      subst hb
      exact hR
    · have heq' : path[k] = other[k] := by
        have : (path[k].toList == other[k].toList) = true := by simpa using heq
        exact ByteArray.ext (Array.ext' (by simpa [ByteArray.toList_eq] using this))
      rw [wsucc c1 (by omega)]
      refine ⟨⟨k + 1, rfl, by omega, by omega, fun j hj => ?_⟩, by simp only [Int.toNat_natCast]; omega⟩
      by_cases hjk : j = k
      · subst hjk; rw [List.getElem?_eq_getElem c1, List.getElem?_eq_getElem c2, heq']
      · exact hsame j (by omega)
  · refine Find_pc hg hv hp ?_
    rw [findR_some ov hr (findP_full hf)]
    obtain ⟨q1, q2⟩ := open_last path.length v path (Nat.le_refl _) ov hv
    refine Set_pc hg hsm q2 hp ?_
    have hfx := findP_len (find_set w path v hf)
    have hback := setP_back w path v _ hf (findP_full hf)
    have hset : setR (setP v path w) path (lastT v (stepsP v path)) = (v, 0) := by
      unfold setR
      rw [ox, q1, hr]
      simp only [Bool.and_self, if_true]
      rw [if_pos hfx, hback, if_pos ov]
    rw [hset]
    refine ⟨fun b => b = true, fun _ => rEqual_pc v v hv.sz fun r hr => hr.2 rfl, fun b hb => ?_⟩
    have hb := hb rfl
    subst hb
    exact hR
end Go.Proofs.YtaoceiiakcpbaaaGreatDoor
end
