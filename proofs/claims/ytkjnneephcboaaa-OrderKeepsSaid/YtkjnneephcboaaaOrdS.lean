import Derived.Test.YtkjnneephcboaaaOrdR
import Derived.Test.YtkjnneephcboaaaRows
import Derived.WalkKit
import Derived.ProofKit
import Derived.OpenShut
import Derived.ShutString
import Derived.ChangeOld
import Derived.Below
import Derived.SliceStrings
namespace Go.Proofs.Ytkjnneephcboaaa
open Go Go.X Go.ChangeShapes Go.WideShapes Go.ChangeAt Go.RowKit
open Go.ChangeMaps (open_string shut_string)
set_option linter.unusedVariables false

theorem Try.own : ownKnob Try.prog.godebug = none := by kernel_rfl
theorem Try.laidOut : laidOutB Try.prog = true := by kernel_rfl

/-- A '[]string' that came in reads as a row of strings, below the heap's end. -/
theorem open_strs_in {H : Type} {enc : TypeId × Value → H} {W : World} {t e : TypeId} (ht : Try.prog.underlying t = some (.slice e)) (he : Try.prog.underlying e = some .string) (hc : Try.prog.cellsOf e = 1) {a : Option Addr} {len cap : Nat} {d : DataW H} {p : List MemPlace}
    (h : DataW.Trod enc Try.prog W 0 (fun _ => true) true t (.slice a len cap) d p) : ∃ xs : List ByteArray, Strs W.heap.size W.heap ⟨a, len, cap⟩ xs ∧ len ≤ cap := by
  obtain ⟨fuel, hf⟩ := h
  have hlt := DataW.trod_lt fuel _ _ _ hf
  rcases open_strings ht he hc hf with ⟨hcs, _⟩ | ⟨x, l, c, ss, hcs, _, hl, hm, hz, hx, hcell, _⟩
  · simp [Value.cells] at hcs
    obtain ⟨rfl, rfl, rfl⟩ := hcs
    exact ⟨[], Strs.nil _ _ _ _, Nat.le_refl _⟩
  · simp [Value.cells] at hcs
    obtain ⟨rfl, rfl, rfl⟩ := hcs
    simp only [if_true] at hz
    refine ⟨ss.take len, ⟨by simp; omega, ?_⟩, hl⟩
    by_cases h0 : len = 0
    · subst h0; exact .inl rfl
    obtain ⟨b, off, spot⟩ := x
    have hspot : spot = none := by simpa [Addr.add] using World.cell?_spot (hcell 0 (by omega))
    subst hspot
    have hbW : b < W.heap.size := by
      have he : p = MemPlace.row ⟨b, off, none⟩ ss.length := congrArg Prod.snd hx
      exact hlt (.cell b off) (by simp only; rw [he]; exact MemPlace.mem_row.2 ⟨0, by omega, by simp⟩)
    refine .inr ⟨b, off, rfl, hbW, fun i v hi => ?_⟩
    have hil : i < len := by
      have := (List.getElem?_eq_some_iff.1 hi).1
      simp at this; omega
    have his : i < ss.length := by omega
    have hv : v = .string (ss.getD i ByteArray.empty) := by
      rw [List.getElem?_map, List.getElem?_take, if_pos hil, List.getElem?_eq_getElem his] at hi
      simp only [Option.map_some, Option.some.injEq] at hi
      rw [← hi, List.getD_eq_getElem?_getD, List.getElem?_eq_getElem his]
      rfl
    have := hcell i his
    rw [add_none] at this
    rw [hv]
    exact this

/-- A contract that tells one value, as the row wants it. -/
theorem calls_of_XC {P : Program} {f : FuncId} {args : Array Value} {W : World} {V : Value} (H : XC P f args W.heap fun v h' => v = V ∧ Keep W.heap.size W.heap h') : Calls P f args W fun e w' => e = .returned V ∧ Below W.heap.size W w' := by
  refine (H W W.drawn).mono ?_
  rintro e w' ⟨v, d', h', rfl, rfl, rfl, k⟩
  exact ⟨rfl, rfl, rfl, rfl, k.size, k.get⟩
end Go.Proofs.Ytkjnneephcboaaa
