import Derived.Test.YtkjnneephcboaaaOrdK
import Derived.Sort.OwnSorted
import Derived.Test.YtkjnneephcboaaaOrdLay
namespace Go.Proofs.Ytkjnneephcboaaa
open Go Go.X Go.Proofs Go.RowKit Go.Sort Go.Shelf
set_option linter.unusedVariables false

theorem sx_values_stops (F : Fence) (n : Nat) (h7 : F.fn 33) (hro : F.round = none) (hn : 1 ≤ n) (Bs n₀ : Nat) (a : Option Addr) (cap : Nat) (zs : List (List UInt8)) (hreach : zs.length * 16 ≤ 140737488351232) (w : World) (hBs : Bs < w.heap.size) (hn₀ : n₀ ≤ w.heap.size)
    (hc : w.cell? ⟨Bs, 0, none⟩ = some (.slice a zs.length cap)) (hI : zs = [] ∨ ∃ b off, a = some ⟨b, off, none⟩ ∧ b < n₀ ∧ ∀ j, j < zs.length → w.cell? ⟨b, off + j, none⟩ = some (encStr (zs[j]?.getD []))) :
    SeqStopsK F n Try.prog 33 #[.pointer (some ⟨Bs, 0, none⟩)] (fun x : List UInt8 => #[encStr x]) (Below n₀) (fun ys => ys = zs) (fun pre => pre <+: zs) zs.length w := fun l J Jx W hW _ _ hY h0 => by
  have hc' := (hW.cell (p := ⟨Bs, 0, none⟩) hBs).trans hc
  rcases hI with rfl | ⟨b, off, rfl, hb, hcs⟩
  · exact (sx_values1_nil_in F n h7 hro l Bs J a cap W hc' h0).mono fun e W' ⟨he, hj⟩ => ⟨he, .inl ⟨_, rfl, hj⟩⟩
  · refine (sx_values1_in F n h7 hro hn l Bs n₀ b off zs.length cap zs hreach hb J Jx hY W hc' (fun j hj => ((hW.mono hn₀).cell (p := ⟨b, off + j, none⟩) hb).trans (hcs j hj)) h0).mono ?_
    rintro e W' ⟨he, ⟨ys, rfl, hj⟩ | ⟨pre, ⟨k, hk, rfl⟩, hj⟩⟩
    · exact ⟨he, .inl ⟨_, sx_upto_all zs, hj⟩⟩
    · exact ⟨he, .inr ⟨_, by rw [sx_upto_take zs hk]; exact List.take_prefix _ _, hj⟩⟩

/-- From a contract with 'Below' to 'XC'. -/
theorem XC.of_below {P : Program} {f : FuncId} {args : Array Value} {h : Heap} {R : Value → Heap → Prop} (H : ∀ B d, Calls P f args (mk B d h) fun e w' => ∃ v, e = .returned v ∧ w'.os = B.os ∧ w'.tape = B.tape ∧ w'.output = B.output ∧ R v w'.heap) : XC P f args h R := by
  intro B d
  refine (H B d).mono ?_
  rintro e w' ⟨v, rfl, h1, h2, h3, h4⟩
  refine ⟨v, w'.drawn, w'.heap, rfl, ?_, h4⟩
  cases w'; simp only [mk] at *; subst h1; subst h2; subst h3; rfl

theorem strs_cells {n : Nat} {h : Heap} {s : Sl} {xs : List ByteArray} (H : Strs n h s xs) (B : World) (d : Nat) :
    (xs.map ByteArray.toList) = [] ∨ ∃ b off, s.a = some ⟨b, off, none⟩ ∧ b < n ∧ ∀ j, j < (xs.map ByteArray.toList).length → (mk B d h).cell? ⟨b, off + j, none⟩ = some (encStr ((xs.map ByteArray.toList)[j]?.getD [])) := by
  rcases H.2 with e | ⟨b, o, e, hb, hc⟩
  · left; simpa using e
  · refine .inr ⟨b, o, e, hb, fun j hj => ?_⟩
    have hj' : j < xs.length := by simpa using hj
    have := hc j (.string xs[j]) (by simp [hj'])
    have e2 : encStr ((xs.map ByteArray.toList)[j]?.getD []) = .string xs[j] := by simp [hj', encStr, mk_toList]
    rw [e2]
    exact this

theorem AppendSeq_spec {n g : Nat} {h : Heap} {s : Sl} {xs : List ByteArray} (hb : Blk h g #[.slice s.a s.len s.cap]) (hs : Strs n h s xs) (hn : n ≤ h.size) (hlen : xs.length ≤ 1000) :
    XC Try.prog 35 #[.slice none 0 0, .func (.func 33) #[] #[.pointer (some ⟨g, 0, none⟩)]] h fun v h' =>
      Keep h.size h h' ∧ ∃ s' : Sl, v = .slice s'.a s'.len s'.cap ∧ Owns h' h.size 9 1 s' (xs.map Value.string) := by
  refine XC.of_below fun B d => ?_
  have hl : (xs.map ByteArray.toList).length = xs.length := by simp
  have hcell : (mk B d h).cell? ⟨g, 0, none⟩ = some (.slice s.a (xs.map ByteArray.toList).length s.cap) := by rw [hl, ← hs.1]; exact hb.cell rfl
  have hseq := sx_values_stops Fence.wide 5 trivial rfl (by omega) g n s.a s.cap (xs.map ByteArray.toList) (by rw [hl]; omega) (mk B d h) hb.lt hn hcell (strs_cells hs B d)
  have := sx_appendSeq_in Fence.wide 6 trivial rfl (by omega) 33 #[.pointer (some ⟨g, 0, none⟩)] trivial (enters_of Try.func33 (by kernel_rfl) rfl) _ _ (by rw [hl]; unfold maxLen; omega) (by rw [hl]; omega) (mk B d h) hn hseq
  refine (callsIn_wide.1 this).mono ?_
  rintro e w' ⟨v, ss, rfl, rfl, hrow, hnil, hB⟩
  refine ⟨v, rfl, hB.os, hB.tape, hB.output, ⟨hB.size, hB.block⟩, ?_⟩
  have e3 : (xs.map ByteArray.toList).map encStr = xs.map Value.string := by
    rw [List.map_map]; refine List.map_congr_left fun x _ => ?_
    simp [encStr, mk_toList]
  rw [e3, hl] at hrow
  rcases hrow.2 with ⟨rfl, h0⟩ | ⟨g', cap, cur, rfl, _⟩
  · exact ⟨⟨none, 0, 0⟩, rfl, by rw [h0] at hrow; exact hrow⟩
  · exact ⟨⟨some ⟨g', 0, none⟩, xs.length, cap⟩, rfl, hrow⟩

end Go.Proofs.Ytkjnneephcboaaa
