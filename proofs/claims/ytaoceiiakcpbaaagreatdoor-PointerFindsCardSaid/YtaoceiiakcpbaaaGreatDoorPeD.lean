/- A part of the proof: nothing is stated here for its own sake. -/
import Derived.Test.YtaoceiiakcpbaaaGreatDoorPeC
import Derived.Lib.DecodeNEq
import Derived.Lib.Replace
import Derived.Lib.SplitLaws
import Derived.Lib.IndexMore
import Derived.Shelf.Strings.Builder1
import Derived.Shelf.Strings.Builder2
import Derived.Shelf.Strings.Trim
import Derived.Shelf.Small.Utf8
import Derived.Shelf.Small.Strs
import Derived.Shelf.Small.Wraps
import Derived.Shelf.Strings.BuilderF
import Derived.Shelf.Strings.BuilderK
import Derived.Shelf.Utf8.RuneCount
import Derived.Shelf.Strings.Builder2Cap
import Derived.Shelf.Strconv.Atoi
import Derived.Shelf.Strconv.Itoa0
import Derived.Shelf.Strconv.Itoa1
import Derived.Shelf.LaysM
import Derived.Shelf.Strconv.Itoa2
import Derived.Shelf.Strconv.Itoa3
import Derived.Shelf.Strconv.AtoiErrFast
import Derived.Shelf.Strconv.ParseIntEmpty
import Derived.Shelf.Strconv.AtoiFail
import Derived.Shelf.Strconv.Clone
import Derived.Shelf.Strconv.SyntaxError
import Derived.Shelf.LaysC
import Derived.Shelf.Strconv.ToError
import Derived.Shelf.Strconv.AtoiErr
import Derived.Shelf.Strconv.Lower
import Derived.Shelf.Strconv.ParseUint10
import Derived.Shelf.Strconv.ParseUint10Empty
import Derived.Shelf.Strconv.ParseUint10Any
import Derived.Shelf.Strconv.ParseInt10
import Derived.Shelf.Strconv.AtoiLong
import Derived.Shelf.Strconv.AtoiInnerAll
import Derived.Shelf.Strconv.RangeError
import Derived.Shelf.Strconv.ToErrorRange
import Derived.Shelf.Strconv.AtoiAll
import Derived.Shelf.Strconv.ErrVarAll
import Derived.Shelf.Strconv.ParseUintEmpty
import Derived.Shelf.Strconv.ParseUint10b64
import Derived.Shelf.Strconv.ParseUint10b32
import Derived.Shelf.Strconv.ParseUint10b16
import Derived.Shelf.Strconv.ParseUint10b8
import Derived.Shelf.Strconv.ParseUint10At
import Derived.Shelf.Strconv.ParseInt10At64
import Derived.Shelf.Strconv.ParseInt10At32
import Derived.Shelf.Strconv.ParseInt10At16
import Derived.Shelf.Strconv.ParseInt10At8
import Derived.Shelf.Strconv.ParseInt10All
import Derived.Shelf.Strconv.ParseIntPublic10
import Derived.Shelf.Strconv.ErrVarParseInt
import Derived.Shelf.Strings.Search1
import Derived.Shelf.Strings.Search2
import Derived.Shelf.Strings.Search3
import Derived.Shelf.Strings.Cut
import Derived.Shelf.Strings.Count
import Derived.Shelf.Strings.Shaped
import Derived.Shelf.Strings.Prefix
import Derived.Shelf.Strings.Split
import Derived.Shelf.Strings.Replace
import Derived.Shelf.Strings.SplitShaped
import Derived.Shelf.Unicode.Decode
import Derived.Shelf.Strings.Runes
import Derived.Shelf.Strings.RuneCount
import Derived.Shelf.Strings.IndexAny
import Derived.Shelf.Strings.AsciiSet
import Derived.Shelf.Strings.IndexAnyAll
import Derived.Shelf.Strings.Explode
import Derived.Shelf.Bits.Mul64
import Derived.Shelf.Strings.Repeat
import Derived.Shelf.Unicode.DecodeSlow
import Derived.Shelf.Unicode.DecodeAny
import Derived.Shelf.Unicode.DecodeLast
import Derived.Shelf.Strings.BuilderCap
import Derived.Shelf.Slices.Turned
import Derived.Ground.Names2Prog
import Derived.Shelf.Slices.Clone
import Derived.Ground.SlgnProg
import Derived.Shelf.SlicesE.Clone
import Derived.Test.YtaoceiiakcpbaaaGreatDoorProg
import Derived.Lib.ItoaNum
section
namespace Go.Proofs.YtaoceiiakcpbaaaGreatDoor
open Go Go.X Go.Proofs
set_option linter.unusedVariables false
set_option maxRecDepth 100000
theorem pu_scarflaw07_small (gl : Fr)  (R : Bool → Prop)
    (H : PC Tryz.prog gl 11 [Arg.mk (.row .str) ([(⟨#[97, 47, 98]⟩ : ByteArray), (⟨#[126]⟩ : ByteArray), (⟨#[]⟩ : ByteArray)] : List ByteArray)] [.str, .int .i64] (fun r_1 : ByteArray × Int => PC Tryz.prog gl 13 [Arg.mk .str (⟨#[97]⟩ : ByteArray)] [.row .str, .int .i64] (fun r_2 : (List ByteArray) × Int => PC Tryz.prog gl 13 [Arg.mk .str (⟨#[47, 126, 50]⟩ : ByteArray)] [.row .str, .int .i64] (fun r_3 : (List ByteArray) × Int => PC Tryz.prog gl 13 [Arg.mk .str (⟨#[]⟩ : ByteArray)] [.row .str, .int .i64] (fun r_4 : (List ByteArray) × Int => PC Tryz.prog gl 32 [Arg.mk (.int .i64) 1] [.tree] (fun r_5 : Tr => PC Tryz.prog gl 32 [Arg.mk (.int .i64) 2] [.tree] (fun r_6 : Tr => PC Tryz.prog gl 31 [Arg.mk (.row .tree) ([Tr.mk r_5.kind r_5.text r_5.keys r_5.items, Tr.mk r_6.kind r_6.text r_6.keys r_6.items] : List Tr)] [.tree] (fun r_7 : Tr => PC Tryz.prog gl 30 [Arg.mk (.row .str) ([(⟨#[97]⟩ : ByteArray)] : List ByteArray), Arg.mk (.row .tree) ([Tr.mk r_7.kind r_7.text r_7.keys r_7.items] : List Tr)] [.tree] (fun r_8 : Tr => PC Tryz.prog gl 16 [Arg.mk .tree (Tr.mk r_8.kind r_8.text r_8.keys r_8.items), Arg.mk (.row .str) ([(⟨#[97]⟩ : ByteArray), (⟨#[49]⟩ : ByteArray)] : List ByteArray)] [.tree, .bool] (fun r_9 : Tr × Bool => PC Tryz.prog gl 16 [Arg.mk .tree (Tr.mk r_8.kind r_8.text r_8.keys r_8.items), Arg.mk (.row .str) ([(⟨#[97]⟩ : ByteArray), (⟨#[48, 49]⟩ : ByteArray)] : List ByteArray)] [.tree, .bool] (fun r_10 : Tr × Bool => R (bif (bif (bif (bif (bif (bif (bif (bif ((r_1.2 : Int) == 0) then ((r_1.1 : ByteArray).toList == ((⟨#[47, 97, 126, 49, 98, 47, 126, 48, 47]⟩ : ByteArray) : ByteArray).toList) else false) then ((r_2.2 : Int) == 2) else false) then ((r_3.2 : Int) == 2) else false) then ((r_4.2 : Int) == 0) else false) then ((((List.length r_4.1 : Nat) : Int) : Int) == 0) else false) then r_9.2 else false) then ((r_9.1.text : ByteArray).toList == ((⟨#[50]⟩ : ByteArray) : ByteArray).toList) else false) then (!r_10.2) else false)))))))))))) :
    PC Tryz.prog gl 9 [] [.bool] R :=
  PC_of_form Tryz.mixed gl 34 ⟨[], [], [], []⟩ [] (rs := [.tmp 0]) (n := 85) Tryz.func9 (by kernel_rfl) (by kernel_rfl) (by kernel_rfl) (by kernel_rfl) H (by kernel_rfl)
theorem pu_scarflaw07_Short (gl : Fr) (l0 : List ByteArray) (R : Bool → Prop)
    (H : ∃ (I_2 : Int → Prop) (μ_3 : Int → Nat), I_2 0 ∧ ∀ i3_1 : Int, I_2 i3_1 → (((bif (decide ((i3_1 : Int) < ((List.length l0 : Nat) : Int))) then (decide ((i3_1 : Int) < 300)) else false) = true → ∃ y_5 : ByteArray, (0 ≤ (i3_1 : Int) ∧ l0[(i3_1 : Int).toNat]? = some y_5) ∧ ((decide ((((y_5).size : Int) : Int) > 1024)) = true → R false) ∧ ((decide ((((y_5).size : Int) : Int) > 1024)) = false → (I_2 (IntKind.wrap .i64 (i3_1 + 1)) ∧ μ_3 (IntKind.wrap .i64 (i3_1 + 1)) < μ_3 i3_1))) ∧ ((bif (decide ((i3_1 : Int) < ((List.length l0 : Nat) : Int))) then (decide ((i3_1 : Int) < 300)) else false) = false → R (decide ((((List.length l0 : Nat) : Int) : Int) ≤ 200))))) :
    PC Tryz.prog gl 10 [Arg.mk (.row .str) l0] [.bool] R :=
  PC_of_form Tryz.mixed gl 34 ⟨[], [], [(2, ⟨[(3, .one (.dat (.int .i64)))], [], [], [100192]⟩)], []⟩ [Arg.mk (.row .str) l0] (rs := [.tmp 2]) (n := 23) Tryz.func10 (by kernel_rfl) (by kernel_rfl) (by kernel_rfl) (by kernel_rfl) H (by kernel_rfl)
theorem pu_pointer_Parse (gl : Fr) (s0 : ByteArray) (R : ((List ByteArray) × Int) → Prop)
    (H : ∀ K_2 : Bool → Prop, (∀ x7_1 : Bool, ((x7_1 = true → R (([] : List ByteArray), 2)) ∧ (x7_1 = false → PC Tryz.prog gl 41 [Arg.mk .str s0, Arg.mk .str (⟨#[47]⟩ : ByteArray)] [.int .i64] (fun r_5 : Int => ((decide ((r_5 : Int) > 64)) = true → R (([] : List ByteArray), 3)) ∧ ((decide ((r_5 : Int) > 64)) = false → (((s0 : ByteArray).toList == ((⟨#[]⟩ : ByteArray) : ByteArray).toList) = true → R (([] : List ByteArray), 0)) ∧ (((s0 : ByteArray).toList == ((⟨#[]⟩ : ByteArray) : ByteArray).toList) = false → (0 ≤ (1 : Int) ∧ (1 : Int) ≤ ((s0).size : Int) ∧ (((s0).size : Int) : Int) ≤ ((s0).size : Int)) ∧ PC Tryz.prog gl 42 [Arg.mk .str ((s0).extract (1 : Int).toNat (((s0).size : Int) : Int).toNat), Arg.mk .str (⟨#[47]⟩ : ByteArray)] [.row .str] (fun r_6 : List ByteArray => ∃ (I_9 : (List ByteArray) → Int → Prop) (μ_10 : (List ByteArray) → Int → Nat), I_9 ([] : List ByteArray) 0 ∧ ∀ out4_7 : List ByteArray, ∀ x32_8 : Int, I_9 out4_7 x32_8 → (((decide ((x32_8 : Int) < ((List.length r_6 : Nat) : Int))) = true → ∃ y_14 : ByteArray, (0 ≤ (x32_8 : Int) ∧ r_6[(x32_8 : Int).toNat]? = some y_14) ∧ PC Tryz.prog gl 35 [Arg.mk .str y_14, Arg.mk .str (⟨#[126, 49]⟩ : ByteArray), Arg.mk .str (⟨#[47]⟩ : ByteArray)] [.str] (fun r_15 : ByteArray => PC Tryz.prog gl 35 [Arg.mk .str r_15, Arg.mk .str (⟨#[126, 48]⟩ : ByteArray), Arg.mk .str (⟨#[126]⟩ : ByteArray)] [.str] (fun r_16 : ByteArray => ((List.length out4_7 + List.length ([r_16] : List ByteArray)) * 16 ≤ 140737488355328 ∧ (I_9 (out4_7 ++ ([r_16] : List ByteArray)) (IntKind.wrap .i64 (x32_8 + 1)) ∧ μ_10 (out4_7 ++ ([r_16] : List ByteArray)) (IntKind.wrap .i64 (x32_8 + 1)) < μ_10 out4_7 x32_8))))) ∧ ((decide ((x32_8 : Int) < ((List.length r_6 : Nat) : Int))) = false → R (out4_7, 0))))))))) → K_2 x7_1) → PC Tryz.prog gl 39 [Arg.mk .str s0] [.bool] (fun r_3 : Bool => ((!r_3) = true → K_2 (!r_3)) ∧ ((!r_3) = false → ((!((s0 : ByteArray).toList == ((⟨#[]⟩ : ByteArray) : ByteArray).toList)) = true → (0 ≤ (0 : Int) ∧ (0 : Int) < ((s0).size : Int))) ∧ ((bif (!((s0 : ByteArray).toList == ((⟨#[]⟩ : ByteArray) : ByteArray).toList)) then ((byteAt s0 (0 : Int).toNat : Int) != 47) else false) = true → K_2 (bif (!((s0 : ByteArray).toList == ((⟨#[]⟩ : ByteArray) : ByteArray).toList)) then ((byteAt s0 (0 : Int).toNat : Int) != 47) else false)) ∧ ((bif (!((s0 : ByteArray).toList == ((⟨#[]⟩ : ByteArray) : ByteArray).toList)) then ((byteAt s0 (0 : Int).toNat : Int) != 47) else false) = false → PC Tryz.prog gl 40 [Arg.mk .str s0] [.bool] (fun r_4 : Bool => K_2 (!r_4)))))) :
    PC Tryz.prog gl 13 [Arg.mk .str s0] [.row .str, .int .i64] R :=
  PC_of_form Tryz.mixed gl 34 ⟨[], [], [(11, ⟨[(4, .one (.own 9 .str)), (32, .one (.dat (.int .i64)))], [], [], [100256, 102048]⟩)], [(4, ⟨[(7, .one (.dat .bool))], [], [], [100448]⟩)]⟩ [Arg.mk .str s0] (rs := [.tmp 2, .tmp 3]) (n := 44) Tryz.func13 (by kernel_rfl) (by kernel_rfl) (by kernel_rfl) (by kernel_rfl) H (by kernel_rfl)
theorem pu_scarflaw06_Few (gl : Fr) (v0 : Tr) (most1 : Int) (R : Bool → Prop)
    (H : PC Tryz.prog gl 43 [Arg.mk .tree (Tr.mk v0.kind v0.text v0.keys v0.items), Arg.mk (.int .i64) most1, Arg.mk (.int .i64) 0] [.int .i64] (fun r_1 : Int => ∃ J_2 : Bool → Prop, ((decide ((r_1 : Int) ≥ 0)) = true → PC Tryz.prog gl 44 [Arg.mk .tree (Tr.mk v0.kind v0.text v0.keys v0.items)] [.bool] J_2) ∧ ∀ r_3 : Bool, ((decide ((r_1 : Int) ≥ 0)) = true → J_2 r_3) → R (bif (decide ((r_1 : Int) ≥ 0)) then r_3 else false))) :
    PC Tryz.prog gl 15 [Arg.mk .tree v0, Arg.mk (.int .i64) most1] [.bool] R :=
  PC_of_form Tryz.mixed gl 34 ⟨[], [], [], []⟩ [Arg.mk .tree v0, Arg.mk (.int .i64) most1] (rs := [.tmp 4]) (n := 15) Tryz.func15 (by kernel_rfl) (by kernel_rfl) (by kernel_rfl) (by kernel_rfl) H (by kernel_rfl)
theorem pu_pointer_Find (gl : Fr) (v0 : Tr) (path1 : List ByteArray) (R : (Tr × Bool) → Prop)
    (H : PC Tryz.prog gl 45 [Arg.mk .tree (Tr.mk v0.kind v0.text v0.keys v0.items)] [.bool] (fun r_1 : Bool => ∃ J_2 : Bool → Prop, ((!(!r_1)) = true → PC Tryz.prog gl 12 [Arg.mk (.row .str) path1] [.bool] J_2) ∧ ∀ r_3 : Bool, ((!(!r_1)) = true → J_2 r_3) → ((bif (!r_1) then true else (!r_3)) = true → R (Tr.mk 0 (⟨#[]⟩ : ByteArray) ([] : List ByteArray) ([] : List Tr), false)) ∧ ((bif (!r_1) then true else (!r_3)) = false → PC Tryz.prog gl 46 [Arg.mk .tree (Tr.mk v0.kind v0.text v0.keys v0.items), Arg.mk (.row .str) path1] [.row (.int .i64), .tree, .bool] (fun r_4 : (List Int) × Tr × Bool => ((!r_4.2.2) = true → R (Tr.mk 0 (⟨#[]⟩ : ByteArray) ([] : List ByteArray) ([] : List Tr), false)) ∧ ((!r_4.2.2) = false → PC Tryz.prog gl 47 [Arg.mk .tree (Tr.mk r_4.2.1.kind r_4.2.1.text r_4.2.1.keys r_4.2.1.items)] [.tree] (fun r_5 : Tr => R (Tr.mk r_5.kind r_5.text r_5.keys r_5.items, true))))))) :
    PC Tryz.prog gl 16 [Arg.mk .tree v0, Arg.mk (.row .str) path1] [.tree, .bool] R :=
  PC_of_form Tryz.mixed gl 34 ⟨[], [], [], []⟩ [Arg.mk .tree v0, Arg.mk (.row .str) path1] (rs := [.cell 4 34, .tmp 5]) (n := 30) Tryz.func16 (by kernel_rfl) (by kernel_rfl) (by kernel_rfl) (by kernel_rfl) H (by kernel_rfl)
theorem pu_scarfref06_Equal (gl : Fr) (a0 : Tr) (b1 : Tr) (R : Bool → Prop)
    (H : ((bif (bif (bif ((a0.kind : Int) != b1.kind) then true else (!((a0.text : ByteArray).toList == (b1.text : ByteArray).toList))) then true else ((((List.length a0.keys : Nat) : Int) : Int) != ((List.length b1.keys : Nat) : Int))) then true else ((((List.length a0.items : Nat) : Int) : Int) != ((List.length b1.items : Nat) : Int))) = true → R false) ∧ ((bif (bif (bif ((a0.kind : Int) != b1.kind) then true else (!((a0.text : ByteArray).toList == (b1.text : ByteArray).toList))) then true else ((((List.length a0.keys : Nat) : Int) : Int) != ((List.length b1.keys : Nat) : Int))) then true else ((((List.length a0.items : Nat) : Int) : Int) != ((List.length b1.items : Nat) : Int))) = false → ∃ (I_2 : Int → Prop) (μ_3 : Int → Nat), I_2 0 ∧ ∀ i5_1 : Int, I_2 i5_1 → (((decide ((i5_1 : Int) < ((List.length a0.keys : Nat) : Int))) = true → ∃ y_15 : ByteArray, (0 ≤ (i5_1 : Int) ∧ a0.keys[(i5_1 : Int).toNat]? = some y_15) ∧ ∃ y_16 : ByteArray, (0 ≤ (i5_1 : Int) ∧ b1.keys[(i5_1 : Int).toNat]? = some y_16) ∧ ((!((y_15 : ByteArray).toList == (y_16 : ByteArray).toList)) = true → R false) ∧ ((!((y_15 : ByteArray).toList == (y_16 : ByteArray).toList)) = false → (I_2 (IntKind.wrap .i64 (i5_1 + 1)) ∧ μ_3 (IntKind.wrap .i64 (i5_1 + 1)) < μ_3 i5_1))) ∧ ((decide ((i5_1 : Int) < ((List.length a0.keys : Nat) : Int))) = false → ∃ (I_18 : Int → Prop) (μ_19 : Int → Nat), I_18 0 ∧ ∀ i6_17 : Int, I_18 i6_17 → (((decide ((i6_17 : Int) < ((List.length a0.items : Nat) : Int))) = true → ∃ y_23 : Tr, (0 ≤ (i6_17 : Int) ∧ a0.items[(i6_17 : Int).toNat]? = some y_23) ∧ ∃ y_24 : Tr, (0 ≤ (i6_17 : Int) ∧ b1.items[(i6_17 : Int).toNat]? = some y_24) ∧ PC Tryz.prog gl 17 [Arg.mk .tree (Tr.mk y_23.kind y_23.text y_23.keys y_23.items), Arg.mk .tree (Tr.mk y_24.kind y_24.text y_24.keys y_24.items)] [.bool] (fun r_25 : Bool => ((!r_25) = true → R false) ∧ ((!r_25) = false → (I_18 (IntKind.wrap .i64 (i6_17 + 1)) ∧ μ_19 (IntKind.wrap .i64 (i6_17 + 1)) < μ_19 i6_17)))) ∧ ((decide ((i6_17 : Int) < ((List.length a0.items : Nat) : Int))) = false → R true)))))) :
    PC Tryz.prog gl 17 [Arg.mk .tree a0, Arg.mk .tree b1] [.bool] R :=
  PC_of_form Tryz.mixed gl 34 ⟨[(11, 10)], [], [(4, ⟨[(5, .one (.dat (.int .i64)))], [], [2, 3], [100320]⟩), (9, ⟨[(6, .one (.dat (.int .i64)))], [], [2, 3], [100384]⟩)], []⟩ [Arg.mk .tree a0, Arg.mk .tree b1] (rs := [.tmp 4]) (n := 76) Tryz.func17 (by kernel_rfl) (by kernel_rfl) (by kernel_rfl) (by kernel_rfl) H (by kernel_rfl)
theorem pu_scarfref06_Clone (gl : Fr) (v0 : Tr) (R : Tr → Prop)
    (H : ((List.length ([] : List ByteArray) + List.length v0.keys) * 16 ≤ 140737488355328 ∧ ∃ (I_10 : Int → Int → ByteArray → (List ByteArray) → (List Tr) → Int → ByteArray → (List ByteArray) → (List Tr) → Prop) (μ_11 : Int → Int → ByteArray → (List ByteArray) → (List Tr) → Int → ByteArray → (List ByteArray) → (List Tr) → Nat), I_10 0 0 (⟨#[]⟩ : ByteArray) ([] : List ByteArray) ([] : List Tr) v0.kind v0.text (([] : List ByteArray) ++ v0.keys) ([] : List Tr) ∧ ∀ i4_1 : Int, ∀ b2_0_2 : Int, ∀ b2_1_3 : ByteArray, ∀ b2_2_4 : List ByteArray, ∀ b2_3_5 : List Tr, ∀ out_0_6 : Int, ∀ out_1_7 : ByteArray, ∀ out_2_8 : List ByteArray, ∀ out_3_9 : List Tr, I_10 i4_1 b2_0_2 b2_1_3 b2_2_4 b2_3_5 out_0_6 out_1_7 out_2_8 out_3_9 → (((decide ((i4_1 : Int) < ((List.length v0.items : Nat) : Int))) = true → ∃ y_14 : Tr, (0 ≤ (i4_1 : Int) ∧ v0.items[(i4_1 : Int).toNat]? = some y_14) ∧ PC Tryz.prog gl 18 [Arg.mk .tree (Tr.mk y_14.kind y_14.text y_14.keys y_14.items)] [.tree] (fun r_15 : Tr => ((List.length out_3_9 + List.length ([Tr.mk r_15.kind r_15.text r_15.keys r_15.items] : List Tr)) * 72 ≤ 140737488355328 ∧ (I_10 (IntKind.wrap .i64 (i4_1 + 1)) b2_0_2 b2_1_3 b2_2_4 b2_3_5 out_0_6 out_1_7 out_2_8 (out_3_9 ++ ([Tr.mk r_15.kind r_15.text r_15.keys r_15.items] : List Tr)) ∧ μ_11 (IntKind.wrap .i64 (i4_1 + 1)) b2_0_2 b2_1_3 b2_2_4 b2_3_5 out_0_6 out_1_7 out_2_8 (out_3_9 ++ ([Tr.mk r_15.kind r_15.text r_15.keys r_15.items] : List Tr)) < μ_11 i4_1 b2_0_2 b2_1_3 b2_2_4 b2_3_5 out_0_6 out_1_7 out_2_8 out_3_9)))) ∧ ((decide ((i4_1 : Int) < ((List.length v0.items : Nat) : Int))) = false → R (Tr.mk out_0_6 out_1_7 out_2_8 out_3_9))))) :
    PC Tryz.prog gl 18 [Arg.mk .tree v0] [.tree] R :=
  PC_of_form Tryz.mixed gl 34 ⟨[], [(1, 10, [], [0, 1, 2, 3, 4, 5, 6, 9, 7, 8], []), (5, 9, [], [0, 1, 2, 3, 4, 5, 6, 7, 8], [])], [(3, ⟨[(4, .one (.dat (.int .i64)))], [(2, [.dat (.int .i64), .dat .str, .own 9 .str, .own 34 .tree]), (3, [.dat (.int .i64), .dat .str, .dat (.row .str), .own 34 .tree])], [1], [100256, 1000128, 1000129, 1000130, 1000131, 1000192, 1000193, 1000194, 1000195]⟩)], []⟩ [Arg.mk .tree v0] (rs := [.cell 2 34]) (n := 33) Tryz.func18 (by kernel_rfl) (by kernel_rfl) (by kernel_rfl) (by kernel_rfl) H (by kernel_rfl)
theorem pu_scarfref07_Find (gl : Fr) (v0 : Tr) (path1 : List ByteArray) (R : (Tr × Bool) → Prop)
    (H : PC Tryz.prog gl 48 [Arg.mk .tree (Tr.mk v0.kind v0.text v0.keys v0.items)] [.bool] (fun r_1 : Bool => PC Tryz.prog gl 27 [Arg.mk (.row .str) path1] [.bool] (fun r_2 : Bool => ((bif (!r_1) then true else (!r_2)) = true → R (Tr.mk 0 (⟨#[]⟩ : ByteArray) ([] : List ByteArray) ([] : List Tr), false)) ∧ ((bif (!r_1) then true else (!r_2)) = false → ∃ (I_12 : Int → Int → ByteArray → (List ByteArray) → (List Tr) → Int → ByteArray → (List ByteArray) → (List Tr) → Prop) (μ_13 : Int → Int → ByteArray → (List ByteArray) → (List Tr) → Int → ByteArray → (List ByteArray) → (List Tr) → Nat), I_12 0 v0.kind v0.text v0.keys v0.items 0 (⟨#[]⟩ : ByteArray) ([] : List ByteArray) ([] : List Tr) ∧ ∀ i8_3 : Int, ∀ v_0_4 : Int, ∀ v_1_5 : ByteArray, ∀ v_2_6 : List ByteArray, ∀ v_3_7 : List Tr, ∀ b4_0_8 : Int, ∀ b4_1_9 : ByteArray, ∀ b4_2_10 : List ByteArray, ∀ b4_3_11 : List Tr, I_12 i8_3 v_0_4 v_1_5 v_2_6 v_3_7 b4_0_8 b4_1_9 b4_2_10 b4_3_11 → (((decide ((i8_3 : Int) < ((List.length path1 : Nat) : Int))) = true → ∃ y_18 : ByteArray, (0 ≤ (i8_3 : Int) ∧ path1[(i8_3 : Int).toNat]? = some y_18) ∧ PC Tryz.prog gl 49 [Arg.mk .tree (Tr.mk v_0_4 v_1_5 v_2_6 v_3_7), Arg.mk .str y_18] [.int .i64] (fun r_19 : Int => ((decide ((r_19 : Int) < 0)) = true → R (Tr.mk 0 (⟨#[]⟩ : ByteArray) ([] : List ByteArray) ([] : List Tr), false)) ∧ ((decide ((r_19 : Int) < 0)) = false → ∃ y_20 : Tr, (0 ≤ (r_19 : Int) ∧ v_3_7[(r_19 : Int).toNat]? = some y_20) ∧ (I_12 (IntKind.wrap .i64 (i8_3 + 1)) y_20.kind y_20.text y_20.keys y_20.items b4_0_8 b4_1_9 b4_2_10 b4_3_11 ∧ μ_13 (IntKind.wrap .i64 (i8_3 + 1)) y_20.kind y_20.text y_20.keys y_20.items b4_0_8 b4_1_9 b4_2_10 b4_3_11 < μ_13 i8_3 v_0_4 v_1_5 v_2_6 v_3_7 b4_0_8 b4_1_9 b4_2_10 b4_3_11)))) ∧ ((decide ((i8_3 : Int) < ((List.length path1 : Nat) : Int))) = false → PC Tryz.prog gl 18 [Arg.mk .tree (Tr.mk v_0_4 v_1_5 v_2_6 v_3_7)] [.tree] (fun r_21 : Tr => R (Tr.mk r_21.kind r_21.text r_21.keys r_21.items, true)))))))) :
    PC Tryz.prog gl 19 [Arg.mk .tree v0, Arg.mk (.row .str) path1] [.tree, .bool] R :=
  PC_of_form Tryz.mixed gl 34 ⟨[(8, 5)], [], [(6, ⟨[(8, .one (.dat (.int .i64)))], [(2, [.dat (.int .i64), .dat .str, .dat (.row .str), .dat (.row .tree)]), (4, [.dat (.int .i64), .dat .str, .own 9 .str, .own 34 .tree])], [], [100512, 1000128, 1000129, 1000130, 1000131, 1000256, 1000257, 1000258, 1000259]⟩)], []⟩ [Arg.mk .tree v0, Arg.mk (.row .str) path1] (rs := [.cell 4 34, .tmp 5]) (n := 43) Tryz.func19 (by kernel_rfl) (by kernel_rfl) (by kernel_rfl) (by kernel_rfl) H (by kernel_rfl)
theorem pu_scarfref07_Set (gl : Fr) (v0 : Tr) (path1 : List ByteArray) (w2 : Tr) (R : (Tr × Int) → Prop)
    (H : PC Tryz.prog gl 48 [Arg.mk .tree (Tr.mk v0.kind v0.text v0.keys v0.items)] [.bool] (fun r_1 : Bool => PC Tryz.prog gl 48 [Arg.mk .tree (Tr.mk w2.kind w2.text w2.keys w2.items)] [.bool] (fun r_2 : Bool => PC Tryz.prog gl 27 [Arg.mk (.row .str) path1] [.bool] (fun r_3 : Bool => ((bif (bif (!r_1) then true else (!r_2)) then true else (!r_3)) = true → R (Tr.mk 0 (⟨#[]⟩ : ByteArray) ([] : List ByteArray) ([] : List Tr), 1)) ∧ ((bif (bif (!r_1) then true else (!r_2)) then true else (!r_3)) = false → PC Tryz.prog gl 19 [Arg.mk .tree (Tr.mk v0.kind v0.text v0.keys v0.items), Arg.mk (.row .str) path1] [.tree, .bool] (fun r_4 : Tr × Bool => ((!r_4.2) = true → R (Tr.mk 0 (⟨#[]⟩ : ByteArray) ([] : List ByteArray) ([] : List Tr), 8)) ∧ ((!r_4.2) = false → PC Tryz.prog gl 50 [Arg.mk .tree (Tr.mk v0.kind v0.text v0.keys v0.items), Arg.mk (.row .str) path1, Arg.mk .tree (Tr.mk w2.kind w2.text w2.keys w2.items)] [.tree] (fun r_5 : Tr => PC Tryz.prog gl 48 [Arg.mk .tree (Tr.mk r_5.kind r_5.text r_5.keys r_5.items)] [.bool] (fun r_6 : Bool => ((!r_6) = true → R (Tr.mk 0 (⟨#[]⟩ : ByteArray) ([] : List ByteArray) ([] : List Tr), 1)) ∧ ((!r_6) = false → R (Tr.mk r_5.kind r_5.text r_5.keys r_5.items, 0))))))))))) :
    PC Tryz.prog gl 21 [Arg.mk .tree v0, Arg.mk (.row .str) path1, Arg.mk .tree w2] [.tree, .int .i64] R :=
  PC_of_form Tryz.mixed gl 34 ⟨[], [], [], []⟩ [Arg.mk .tree v0, Arg.mk (.row .str) path1, Arg.mk .tree w2] (rs := [.cell 6 34, .tmp 7]) (n := 51) Tryz.func21 (by kernel_rfl) (by kernel_rfl) (by kernel_rfl) (by kernel_rfl) H (by kernel_rfl)
theorem pu_pointer_Index (gl : Fr) (step0 : ByteArray) (R : (Int × Bool) → Prop)
    (H : (((!(bif ((step0 : ByteArray).toList == ((⟨#[]⟩ : ByteArray) : ByteArray).toList) then true else (decide ((((step0).size : Int) : Int) > 9)))) && (!((step0 : ByteArray).toList == ((⟨#[48]⟩ : ByteArray) : ByteArray).toList))) = true → (0 ≤ (0 : Int) ∧ (0 : Int) < ((step0).size : Int))) ∧ ∃ J_1 : Bool → Prop, ((!(bif (bif ((step0 : ByteArray).toList == ((⟨#[]⟩ : ByteArray) : ByteArray).toList) then true else (decide ((((step0).size : Int) : Int) > 9))) then true else (bif (!((step0 : ByteArray).toList == ((⟨#[48]⟩ : ByteArray) : ByteArray).toList)) then ((byteAt step0 (0 : Int).toNat : Int) == 48) else false))) = true → PC Tryz.prog gl 52 [Arg.mk .str step0, Arg.mk .str (⟨#[43, 45, 95]⟩ : ByteArray)] [.bool] J_1) ∧ ∀ r_2 : Bool, ((!(bif (bif ((step0 : ByteArray).toList == ((⟨#[]⟩ : ByteArray) : ByteArray).toList) then true else (decide ((((step0).size : Int) : Int) > 9))) then true else (bif (!((step0 : ByteArray).toList == ((⟨#[48]⟩ : ByteArray) : ByteArray).toList)) then ((byteAt step0 (0 : Int).toNat : Int) == 48) else false))) = true → J_1 r_2) → ((bif (bif (bif ((step0 : ByteArray).toList == ((⟨#[]⟩ : ByteArray) : ByteArray).toList) then true else (decide ((((step0).size : Int) : Int) > 9))) then true else (bif (!((step0 : ByteArray).toList == ((⟨#[48]⟩ : ByteArray) : ByteArray).toList)) then ((byteAt step0 (0 : Int).toNat : Int) == 48) else false)) then true else r_2) = true → R (0, false)) ∧ ((bif (bif (bif ((step0 : ByteArray).toList == ((⟨#[]⟩ : ByteArray) : ByteArray).toList) then true else (decide ((((step0).size : Int) : Int) > 9))) then true else (bif (!((step0 : ByteArray).toList == ((⟨#[48]⟩ : ByteArray) : ByteArray).toList)) then ((byteAt step0 (0 : Int).toNat : Int) == 48) else false)) then true else r_2) = false → PC Tryz.prog gl 53 [Arg.mk .str step0] [.int .i64, .err] (fun r_3 : Int × Bool => ((!r_3.2) = true → R (0, false)) ∧ ((!r_3.2) = false → R (r_3.1, true))))) :
    PC Tryz.prog gl 25 [Arg.mk .str step0] [.int .i64, .bool] R :=
  PC_of_form Tryz.mixed gl 34 ⟨[], [], [], []⟩ [Arg.mk .str step0] (rs := [.tmp 2, .tmp 3]) (n := 34) Tryz.func25 (by kernel_rfl) (by kernel_rfl) (by kernel_rfl) (by kernel_rfl) H (by kernel_rfl)
theorem pu_scarfref07_Index (gl : Fr) (step0 : ByteArray) (R : (Int × Bool) → Prop)
    (H : (((!(bif (decide ((((step0).size : Int) : Int) < 1)) then true else (decide ((((step0).size : Int) : Int) > 9)))) && (decide ((((step0).size : Int) : Int) > 1))) = true → (0 ≤ (0 : Int) ∧ (0 : Int) < ((step0).size : Int))) ∧ ((bif (bif (decide ((((step0).size : Int) : Int) < 1)) then true else (decide ((((step0).size : Int) : Int) > 9))) then true else (bif (decide ((((step0).size : Int) : Int) > 1)) then ((byteAt step0 (0 : Int).toNat : Int) == 48) else false)) = true → R (0, false)) ∧ ((bif (bif (decide ((((step0).size : Int) : Int) < 1)) then true else (decide ((((step0).size : Int) : Int) > 9))) then true else (bif (decide ((((step0).size : Int) : Int) > 1)) then ((byteAt step0 (0 : Int).toNat : Int) == 48) else false)) = false → ∃ (I_3 : Int → Int → Prop) (μ_4 : Int → Int → Nat), I_3 0 0 ∧ ∀ n4_1 : Int, ∀ i5_2 : Int, I_3 n4_1 i5_2 → (((decide ((i5_2 : Int) < ((step0).size : Int))) = true → (0 ≤ (i5_2 : Int) ∧ (i5_2 : Int) < ((step0).size : Int)) ∧ ((!(decide ((byteAt step0 (i5_2 : Int).toNat : Int) < 48))) = true → (0 ≤ (i5_2 : Int) ∧ (i5_2 : Int) < ((step0).size : Int))) ∧ ((bif (decide ((byteAt step0 (i5_2 : Int).toNat : Int) < 48)) then true else (decide ((byteAt step0 (i5_2 : Int).toNat : Int) > 57))) = true → R (0, false)) ∧ ((bif (decide ((byteAt step0 (i5_2 : Int).toNat : Int) < 48)) then true else (decide ((byteAt step0 (i5_2 : Int).toNat : Int) > 57))) = false → (0 ≤ (i5_2 : Int) ∧ (i5_2 : Int) < ((step0).size : Int)) ∧ (I_3 (IntKind.wrap .i64 ((IntKind.wrap .i64 (10 * n4_1)) + (IntKind.wrap .i64 (IntKind.wrap .u8 ((byteAt step0 (i5_2 : Int).toNat) - 48))))) (IntKind.wrap .i64 (i5_2 + 1)) ∧ μ_4 (IntKind.wrap .i64 ((IntKind.wrap .i64 (10 * n4_1)) + (IntKind.wrap .i64 (IntKind.wrap .u8 ((byteAt step0 (i5_2 : Int).toNat) - 48))))) (IntKind.wrap .i64 (i5_2 + 1)) < μ_4 n4_1 i5_2))) ∧ ((decide ((i5_2 : Int) < ((step0).size : Int))) = false → R (n4_1, true))))) :
    PC Tryz.prog gl 26 [Arg.mk .str step0] [.int .i64, .bool] R :=
  PC_of_form Tryz.mixed gl 34 ⟨[], [], [(5, ⟨[(4, .one (.dat (.int .i64))), (5, .one (.dat (.int .i64)))], [], [], [100256, 100320]⟩)], []⟩ [Arg.mk .str step0] (rs := [.tmp 2, .tmp 3]) (n := 49) Tryz.func26 (by kernel_rfl) (by kernel_rfl) (by kernel_rfl) (by kernel_rfl) H (by kernel_rfl)
theorem pu_scarfref07_Right (gl : Fr) (path0 : List ByteArray) (R : Bool → Prop)
    (H : ∃ (I_2 : Int → Prop) (μ_3 : Int → Nat), I_2 0 ∧ ∀ i3_1 : Int, I_2 i3_1 → (((decide ((i3_1 : Int) < ((List.length path0 : Nat) : Int))) = true → ∃ y_6 : ByteArray, (0 ≤ (i3_1 : Int) ∧ path0[(i3_1 : Int).toNat]? = some y_6) ∧ PC Tryz.prog gl 51 [Arg.mk .str y_6] [.int .i64, .bool] (fun r_7 : Int × Bool => ((!r_7.2) = true → R false) ∧ ((!r_7.2) = false → (I_2 (IntKind.wrap .i64 (i3_1 + 1)) ∧ μ_3 (IntKind.wrap .i64 (i3_1 + 1)) < μ_3 i3_1)))) ∧ ((decide ((i3_1 : Int) < ((List.length path0 : Nat) : Int))) = false → R (decide ((((List.length path0 : Nat) : Int) : Int) ≤ 64))))) :
    PC Tryz.prog gl 27 [Arg.mk (.row .str) path0] [.bool] R :=
  PC_of_form Tryz.mixed gl 34 ⟨[], [], [(2, ⟨[(3, .one (.dat (.int .i64)))], [], [], [100192]⟩)], []⟩ [Arg.mk (.row .str) path0] (rs := [.tmp 2]) (n := 25) Tryz.func27 (by kernel_rfl) (by kernel_rfl) (by kernel_rfl) (by kernel_rfl) H (by kernel_rfl)
theorem pu_scarflaw06_Map (gl : Fr) (keys0 : List ByteArray) (l1 : List Tr) (R : Tr → Prop)
    (H : R (Tr.mk 6 (⟨#[]⟩ : ByteArray) keys0 l1)) :
    PC Tryz.prog gl 30 [Arg.mk (.row .str) keys0, Arg.mk (.row .tree) l1] [.tree] R :=
  PC_of_form Tryz.mixed gl 34 ⟨[], [], [], []⟩ [Arg.mk (.row .str) keys0, Arg.mk (.row .tree) l1] (rs := [.cell 4 34]) (n := 8) Tryz.func30 (by kernel_rfl) (by kernel_rfl) (by kernel_rfl) (by kernel_rfl) H (by kernel_rfl)
theorem pu_scarflaw06_Row (gl : Fr) (l0 : List Tr) (R : Tr → Prop)
    (H : R (Tr.mk 5 (⟨#[]⟩ : ByteArray) ([] : List ByteArray) l0)) :
    PC Tryz.prog gl 31 [Arg.mk (.row .tree) l0] [.tree] R :=
  PC_of_form Tryz.mixed gl 34 ⟨[], [], [], []⟩ [Arg.mk (.row .tree) l0] (rs := [.cell 2 34]) (n := 5) Tryz.func31 (by kernel_rfl) (by kernel_rfl) (by kernel_rfl) (by kernel_rfl) H (by kernel_rfl)
theorem pu_value_Num (gl : Fr) (n0 : Int) (R : Tr → Prop)
    (H : PC Tryz.prog gl 56 [Arg.mk (.int .i64) n0] [.pair .bool (.pair .str (.int .i64))] (fun r_1 : Bool × ByteArray × Int => PC Tryz.prog gl 55 [Arg.mk (.pair .bool (.pair .str (.int .i64))) (r_1.1, (r_1.2.1, r_1.2.2))] [.str] (fun r_2 : ByteArray => R (Tr.mk 3 r_2 ([] : List ByteArray) ([] : List Tr))))) :
    PC Tryz.prog gl 32 [Arg.mk (.int .i64) n0] [.tree] R :=
  PC_of_form Tryz.mixed gl 34 ⟨[], [], [], []⟩ [Arg.mk (.int .i64) n0] (rs := [.cell 2 34]) (n := 7) Tryz.func32 (by kernel_rfl) (by kernel_rfl) (by kernel_rfl) (by kernel_rfl) H (by kernel_rfl)
theorem pu_pointer_plain (gl : Fr) (s0 : ByteArray) (R : Bool → Prop)
    (H : PC Tryz.prog gl 60 [Arg.mk .str s0] [.int .i64, .bool] (fun r_1 : Int × Bool => R r_1.2)) :
    PC Tryz.prog gl 39 [Arg.mk .str s0] [.bool] R :=
  PC_of_form Tryz.mixed gl 34 ⟨[], [], [], []⟩ [Arg.mk .str s0] (rs := [.tmp 2]) (n := 11) Tryz.func39 (by kernel_rfl) (by kernel_rfl) (by kernel_rfl) (by kernel_rfl) H (by kernel_rfl)
theorem pu_pointer_whole (gl : Fr) (s0 : ByteArray) (R : Bool → Prop)
    (H : ∃ (I_2 : ByteArray → Prop) (μ_3 : ByteArray → Nat), I_2 s0 ∧ ∀ s0_1 : ByteArray, I_2 s0_1 → (PC Tryz.prog gl 61 [Arg.mk .str s0_1, Arg.mk .str (⟨#[126]⟩ : ByteArray)] [.str, .str, .bool] (fun r_5 : ByteArray × ByteArray × Bool => ((!r_5.2.2) = true → R true) ∧ ((!r_5.2.2) = false → ((!((r_5.2.1 : ByteArray).toList == ((⟨#[]⟩ : ByteArray) : ByteArray).toList)) = true → (0 ≤ (0 : Int) ∧ (0 : Int) < ((r_5.2.1).size : Int))) ∧ (((!((r_5.2.1 : ByteArray).toList == ((⟨#[]⟩ : ByteArray) : ByteArray).toList)) && ((byteAt r_5.2.1 (0 : Int).toNat : Int) != 48)) = true → (0 ≤ (0 : Int) ∧ (0 : Int) < ((r_5.2.1).size : Int))) ∧ ((bif ((r_5.2.1 : ByteArray).toList == ((⟨#[]⟩ : ByteArray) : ByteArray).toList) then true else (bif ((byteAt r_5.2.1 (0 : Int).toNat : Int) != 48) then ((byteAt r_5.2.1 (0 : Int).toNat : Int) != 49) else false)) = true → R false) ∧ ((bif ((r_5.2.1 : ByteArray).toList == ((⟨#[]⟩ : ByteArray) : ByteArray).toList) then true else (bif ((byteAt r_5.2.1 (0 : Int).toNat : Int) != 48) then ((byteAt r_5.2.1 (0 : Int).toNat : Int) != 49) else false)) = false → (I_2 r_5.2.1 ∧ μ_3 r_5.2.1 < μ_3 s0_1)))))) :
    PC Tryz.prog gl 40 [Arg.mk .str s0] [.bool] R :=
  PC_of_form Tryz.mixed gl 34 ⟨[], [], [(1, ⟨[(0, .one (.dat .str))], [], [], [100000]⟩)], []⟩ [Arg.mk .str s0] (rs := [.tmp 2]) (n := 27) Tryz.func40 (by kernel_rfl) (by kernel_rfl) (by kernel_rfl) (by kernel_rfl) H (by kernel_rfl)
theorem pu_scarflaw06_few (gl : Fr) (v0 : Tr) (left1 : Int) (deep2 : Int) (R : Int → Prop)
    (H : ((decide ((deep2 : Int) > 60)) = true → R (-1)) ∧ ((decide ((deep2 : Int) > 60)) = false → ∃ (I_3 : Int → Int → Prop) (μ_4 : Int → Int → Nat), I_3 (IntKind.wrap .i64 ((IntKind.wrap .i64 (left1 - 1)) - ((List.length v0.keys : Nat) : Int))) 0 ∧ ∀ left1_1 : Int, ∀ i7_2 : Int, I_3 left1_1 i7_2 → (((bif (decide ((i7_2 : Int) < ((List.length v0.items : Nat) : Int))) then (decide ((left1_1 : Int) ≥ 0)) else false) = true → ∃ y_7 : Tr, (0 ≤ (i7_2 : Int) ∧ v0.items[(i7_2 : Int).toNat]? = some y_7) ∧ PC Tryz.prog gl 43 [Arg.mk .tree (Tr.mk y_7.kind y_7.text y_7.keys y_7.items), Arg.mk (.int .i64) left1_1, Arg.mk (.int .i64) (IntKind.wrap .i64 (deep2 + 1))] [.int .i64] (fun r_8 : Int => (I_3 r_8 (IntKind.wrap .i64 (i7_2 + 1)) ∧ μ_4 r_8 (IntKind.wrap .i64 (i7_2 + 1)) < μ_4 left1_1 i7_2))) ∧ ((bif (decide ((i7_2 : Int) < ((List.length v0.items : Nat) : Int))) then (decide ((left1_1 : Int) ≥ 0)) else false) = false → R left1_1)))) :
    PC Tryz.prog gl 43 [Arg.mk .tree v0, Arg.mk (.int .i64) left1, Arg.mk (.int .i64) deep2] [.int .i64] R :=
  PC_of_form Tryz.mixed gl 34 ⟨[], [], [(5, ⟨[(1, .one (.dat (.int .i64))), (7, .one (.dat (.int .i64)))], [], [3], [100064, 100448]⟩)], []⟩ [Arg.mk .tree v0, Arg.mk (.int .i64) left1, Arg.mk (.int .i64) deep2] (rs := [.tmp 6]) (n := 37) Tryz.func43 (by kernel_rfl) (by kernel_rfl) (by kernel_rfl) (by kernel_rfl) H (by kernel_rfl)
theorem pu_scarflaw06_short (gl : Fr) (v0 : Tr) (R : Bool → Prop)
    (H : ((decide ((((v0.text).size : Int) : Int) > 2048)) = true → R false) ∧ ((decide ((((v0.text).size : Int) : Int) > 2048)) = false → ∃ (I_2 : Int → Prop) (μ_3 : Int → Nat), I_2 0 ∧ ∀ i3_1 : Int, I_2 i3_1 → (((decide ((i3_1 : Int) < ((List.length v0.keys : Nat) : Int))) = true → ∃ y_12 : ByteArray, (0 ≤ (i3_1 : Int) ∧ v0.keys[(i3_1 : Int).toNat]? = some y_12) ∧ ((decide ((((y_12).size : Int) : Int) > 1024)) = true → R false) ∧ ((decide ((((y_12).size : Int) : Int) > 1024)) = false → (I_2 (IntKind.wrap .i64 (i3_1 + 1)) ∧ μ_3 (IntKind.wrap .i64 (i3_1 + 1)) < μ_3 i3_1))) ∧ ((decide ((i3_1 : Int) < ((List.length v0.keys : Nat) : Int))) = false → ∃ (I_14 : Int → Prop) (μ_15 : Int → Nat), I_14 0 ∧ ∀ i4_13 : Int, I_14 i4_13 → (((decide ((i4_13 : Int) < ((List.length v0.items : Nat) : Int))) = true → ∃ y_18 : Tr, (0 ≤ (i4_13 : Int) ∧ v0.items[(i4_13 : Int).toNat]? = some y_18) ∧ PC Tryz.prog gl 44 [Arg.mk .tree (Tr.mk y_18.kind y_18.text y_18.keys y_18.items)] [.bool] (fun r_19 : Bool => ((!r_19) = true → R false) ∧ ((!r_19) = false → (I_14 (IntKind.wrap .i64 (i4_13 + 1)) ∧ μ_15 (IntKind.wrap .i64 (i4_13 + 1)) < μ_15 i4_13)))) ∧ ((decide ((i4_13 : Int) < ((List.length v0.items : Nat) : Int))) = false → R true)))))) :
    PC Tryz.prog gl 44 [Arg.mk .tree v0] [.bool] R :=
  PC_of_form Tryz.mixed gl 34 ⟨[], [], [(4, ⟨[(3, .one (.dat (.int .i64)))], [], [1], [100192]⟩), (9, ⟨[(4, .one (.dat (.int .i64)))], [], [1], [100256]⟩)], []⟩ [Arg.mk .tree v0] (rs := [.tmp 2]) (n := 39) Tryz.func44 (by kernel_rfl) (by kernel_rfl) (by kernel_rfl) (by kernel_rfl) H (by kernel_rfl)
theorem pu_scarfref06_Open (gl : Fr) (v0 : Tr) (R : Bool → Prop)
    (H : PC Tryz.prog gl 71 [Arg.mk .tree (Tr.mk v0.kind v0.text v0.keys v0.items)] [.int .i64] (fun r_1 : Int => ∃ J_2 : Int → Prop, ((decide ((r_1 : Int) ≤ 4096)) = true → PC Tryz.prog gl 72 [Arg.mk .tree (Tr.mk v0.kind v0.text v0.keys v0.items)] [.int .i64] J_2) ∧ ∀ r_3 : Int, ((decide ((r_1 : Int) ≤ 4096)) = true → J_2 r_3) → ∃ J_4 : Bool → Prop, ((bif (decide ((r_1 : Int) ≤ 4096)) then (decide ((r_3 : Int) ≤ 32)) else false) = true → PC Tryz.prog gl 73 [Arg.mk .tree (Tr.mk v0.kind v0.text v0.keys v0.items), Arg.mk .bool true] [.bool] J_4) ∧ ∀ r_5 : Bool, ((bif (decide ((r_1 : Int) ≤ 4096)) then (decide ((r_3 : Int) ≤ 32)) else false) = true → J_4 r_5) → R (bif (bif (decide ((r_1 : Int) ≤ 4096)) then (decide ((r_3 : Int) ≤ 32)) else false) then r_5 else false))) :
    PC Tryz.prog gl 48 [Arg.mk .tree v0] [.bool] R :=
  PC_of_form Tryz.mixed gl 34 ⟨[], [], [], []⟩ [Arg.mk .tree v0] (rs := [.tmp 2]) (n := 15) Tryz.func48 (by kernel_rfl) (by kernel_rfl) (by kernel_rfl) (by kernel_rfl) H (by kernel_rfl)
theorem pu_scarfref07_Step (gl : Fr) (v0 : Tr) (step1 : ByteArray) (R : Int → Prop)
    (H : ∀ K_1 : Prop, ((PC Tryz.prog gl 26 [Arg.mk .str step1] [.int .i64, .bool] (fun r_7 : Int × Bool => ((bif (bif ((v0.kind : Int) == 5) then r_7.2 else false) then (decide ((r_7.1 : Int) < ((List.length v0.items : Nat) : Int))) else false) = true → R r_7.1) ∧ ((bif (bif ((v0.kind : Int) == 5) then r_7.2 else false) then (decide ((r_7.1 : Int) < ((List.length v0.items : Nat) : Int))) else false) = false → R (-1)))) → K_1) → (((v0.kind : Int) == 6) = true → ∃ (I_3 : Int → Prop) (μ_4 : Int → Nat), I_3 0 ∧ ∀ i5_2 : Int, I_3 i5_2 → (((decide ((i5_2 : Int) < ((List.length v0.keys : Nat) : Int))) = true → ∃ y_6 : ByteArray, (0 ≤ (i5_2 : Int) ∧ v0.keys[(i5_2 : Int).toNat]? = some y_6) ∧ (((y_6 : ByteArray).toList == (step1 : ByteArray).toList) = true → R i5_2) ∧ (((y_6 : ByteArray).toList == (step1 : ByteArray).toList) = false → (I_3 (IntKind.wrap .i64 (i5_2 + 1)) ∧ μ_4 (IntKind.wrap .i64 (i5_2 + 1)) < μ_4 i5_2))) ∧ ((decide ((i5_2 : Int) < ((List.length v0.keys : Nat) : Int))) = false → K_1))) ∧ (((v0.kind : Int) == 6) = false → K_1)) :
    PC Tryz.prog gl 49 [Arg.mk .tree v0, Arg.mk .str step1] [.int .i64] R :=
  PC_of_form Tryz.mixed gl 34 ⟨[], [], [(3, ⟨[(5, .one (.dat (.int .i64)))], [], [], [100320]⟩)], [(7, ⟨[], [], [2], []⟩)]⟩ [Arg.mk .tree v0, Arg.mk .str step1] (rs := [.tmp 4]) (n := 45) Tryz.func49 (by kernel_rfl) (by kernel_rfl) (by kernel_rfl) (by kernel_rfl) H (by kernel_rfl)
theorem pu_scarfref01_Valid (gl : Fr) (s0 : ByteArray) (R : (Int × Bool) → Prop)
    (H : ∃ (I_2 : Int → Prop) (μ_3 : Int → Nat), I_2 0 ∧ ∀ at4_1 : Int, I_2 at4_1 → (((decide ((at4_1 : Int) < ((s0).size : Int))) = true → PC Tryz.prog gl 74 [Arg.mk .str s0, Arg.mk (.int .i64) at4_1] [.bool] (fun r_6 : Bool => ((!r_6) = true → R (at4_1, false)) ∧ ((!r_6) = false → PC Tryz.prog gl 75 [Arg.mk .str s0, Arg.mk (.int .i64) at4_1] [.int .i32, .int .i64] (fun r_7 : Int × Int => (I_2 (IntKind.wrap .i64 (at4_1 + r_7.2)) ∧ μ_3 (IntKind.wrap .i64 (at4_1 + r_7.2)) < μ_3 at4_1))))) ∧ ((decide ((at4_1 : Int) < ((s0).size : Int))) = false → R (((s0).size : Int), true)))) :
    PC Tryz.prog gl 51 [Arg.mk .str s0] [.int .i64, .bool] R :=
  PC_of_form Tryz.mixed gl 34 ⟨[], [], [(2, ⟨[(4, .one (.dat (.int .i64)))], [], [], [100256]⟩)], []⟩ [Arg.mk .str s0] (rs := [.tmp 2, .tmp 3]) (n := 29) Tryz.func51 (by kernel_rfl) (by kernel_rfl) (by kernel_rfl) (by kernel_rfl) H (by kernel_rfl)
theorem pu_number_Text (gl : Fr) (n0 : Bool × ByteArray × Int) (R : ByteArray → Prop)
    (H : PC Tryz.prog gl 80 [Arg.mk (.pair .bool (.pair .str (.int .i64))) (n0.1, (n0.2.1, n0.2.2))] [.bool] (fun r_1 : Bool => ((!r_1) = true → R (⟨#[]⟩ : ByteArray)) ∧ ((!r_1) = false → (((n0.2.1 : ByteArray).toList == ((⟨#[]⟩ : ByteArray) : ByteArray).toList) = true → R (⟨#[48]⟩ : ByteArray)) ∧ (((n0.2.1 : ByteArray).toList == ((⟨#[]⟩ : ByteArray) : ByteArray).toList) = false → ∀ K_3 : ByteArray → Prop, (∀ s3_2 : ByteArray, ((((n0.2.2 : Int) != 0) = true → PC Tryz.prog gl 81 [Arg.mk (.int .i64) n0.2.2] [.str] (fun r_4 : ByteArray => fits63 (((⟨#[101]⟩ : ByteArray)).size + (r_4).size) ∧ fits63 ((s3_2).size + ((⟨#[101]⟩ : ByteArray) ++ r_4).size) ∧ R (s3_2 ++ ((⟨#[101]⟩ : ByteArray) ++ r_4)))) ∧ (((n0.2.2 : Int) != 0) = false → R s3_2)) → K_3 s3_2) → (n0.1 = true → fits63 (((⟨#[45]⟩ : ByteArray)).size + (n0.2.1).size) ∧ K_3 ((⟨#[45]⟩ : ByteArray) ++ n0.2.1)) ∧ (n0.1 = false → K_3 n0.2.1))))) :
    PC Tryz.prog gl 55 [Arg.mk (.pair .bool (.pair .str (.int .i64))) n0] [.str] R :=
  PC_of_form Tryz.mixed gl 34 ⟨[], [], [], [(8, ⟨[(3, .one (.dat .str))], [], [1], [100192]⟩)]⟩ [Arg.mk (.pair .bool (.pair .str (.int .i64))) n0] (rs := [.tmp 2]) (n := 26) Tryz.func55 (by kernel_rfl) (by kernel_rfl) (by kernel_rfl) (by kernel_rfl) H (by kernel_rfl)
theorem pu_number_Of (gl : Fr) (n0 : Int) (R : (Bool × ByteArray × Int) → Prop)
    (H : PC Tryz.prog gl 81 [Arg.mk (.int .i64) n0] [.str] (fun r_1 : ByteArray => PC Tryz.prog gl 82 [Arg.mk .str r_1] [.pair .bool (.pair .str (.int .i64)), .int .i64] (fun r_2 : (Bool × ByteArray × Int) × Int => R (r_2.1.1, (r_2.1.2.1, r_2.1.2.2))))) :
    PC Tryz.prog gl 56 [Arg.mk (.int .i64) n0] [.pair .bool (.pair .str (.int .i64))] R :=
  PC_of_form Tryz.mixed gl 34 ⟨[], [], [], []⟩ [Arg.mk (.int .i64) n0] (rs := [.cell 2 80]) (n := 12) Tryz.func56 (by kernel_rfl) (by kernel_rfl) (by kernel_rfl) (by kernel_rfl) H (by kernel_rfl)
theorem pu_runes_Valid (gl : Fr) (s0 : ByteArray) (R : (Int × Bool) → Prop)
    (H : PC Tryz.prog gl 86 [Arg.mk .str s0] [.bool] (fun r_1 : Bool => (r_1 = true → R (((s0).size : Int), true)) ∧ (r_1 = false → ∃ (I_3 : (ByteArray × Nat) → Prop) (μ_4 : (ByteArray × Nat) → Nat), I_3 (s0, 0) ∧ ∀ b13_0_2 : ByteArray × Nat, I_3 b13_0_2 → (((nxB b13_0_2.1 b13_0_2.2) = true → (nxB b13_0_2.1 b13_0_2.2) = true ∧ (nxB b13_0_2.1 b13_0_2.2) = true ∧ (((nxR b13_0_2.1 b13_0_2.2 : Int) != 65533) = true → (I_3 (b13_0_2.1, nxP b13_0_2.1 b13_0_2.2) ∧ μ_4 (b13_0_2.1, nxP b13_0_2.1 b13_0_2.2) < μ_4 b13_0_2)) ∧ (((nxR b13_0_2.1 b13_0_2.2 : Int) != 65533) = false → (0 ≤ (((b13_0_2.2 : Nat) : Int) : Int) ∧ (((b13_0_2.2 : Nat) : Int) : Int) ≤ ((s0).size : Int) ∧ (((s0).size : Int) : Int) ≤ ((s0).size : Int)) ∧ PC Tryz.prog gl 85 [Arg.mk .str ((s0).extract (((b13_0_2.2 : Nat) : Int) : Int).toNat (((s0).size : Int) : Int).toNat)] [.int .i32, .int .i64] (fun r_6 : Int × Int => (((r_6.2 : Int) == 1) = true → R (((b13_0_2.2 : Nat) : Int), false)) ∧ (((r_6.2 : Int) == 1) = false → (I_3 (b13_0_2.1, nxP b13_0_2.1 b13_0_2.2) ∧ μ_4 (b13_0_2.1, nxP b13_0_2.1 b13_0_2.2) < μ_4 b13_0_2))))) ∧ ((nxB b13_0_2.1 b13_0_2.2) = false → R (((s0).size : Int), true)))))) :
    PC Tryz.prog gl 60 [Arg.mk .str s0] [.int .i64, .bool] R :=
  PC_of_form Tryz.mixed gl 34 ⟨[], [], [(4, ⟨[], [(13, [.dat .iter])], [], [1000832]⟩)], []⟩ [Arg.mk .str s0] (rs := [.tmp 2, .tmp 3]) (n := 32) Tryz.func60 (by kernel_rfl) (by kernel_rfl) (by kernel_rfl) (by kernel_rfl) H (by kernel_rfl)
theorem pu_value_sized (gl : Fr) (v0 : Tr) (R : Bool → Prop)
    (H : PC Tryz.prog gl 90 [Arg.mk .tree (Tr.mk v0.kind v0.text v0.keys v0.items)] [.int .i64] (fun r_1 : Int => ∃ J_2 : Int → Prop, ((decide ((r_1 : Int) ≤ 4096)) = true → PC Tryz.prog gl 91 [Arg.mk .tree (Tr.mk v0.kind v0.text v0.keys v0.items)] [.int .i64] J_2) ∧ ∀ r_3 : Int, ((decide ((r_1 : Int) ≤ 4096)) = true → J_2 r_3) → R (bif (decide ((r_1 : Int) ≤ 4096)) then (decide ((r_3 : Int) ≤ 32)) else false))) :
    PC Tryz.prog gl 66 [Arg.mk .tree v0] [.bool] R :=
  PC_of_form Tryz.mixed gl 34 ⟨[], [], [], []⟩ [Arg.mk .tree v0] (rs := [.tmp 2]) (n := 11) Tryz.func66 (by kernel_rfl) (by kernel_rfl) (by kernel_rfl) (by kernel_rfl) H (by kernel_rfl)
theorem pu_value_node (gl : Fr) (v0 : Tr) (R : Bool → Prop)
    (H : (((v0.kind : Int) == 5) = true → R (bif (!(decide ((((List.length v0.keys : Nat) : Int) : Int) > 0))) then ((v0.text : ByteArray).toList == ((⟨#[]⟩ : ByteArray) : ByteArray).toList) else false)) ∧ (((v0.kind : Int) == 5) = false → (((v0.kind : Int) == 6) = true → PC Tryz.prog gl 94 [Arg.mk (.row .str) v0.keys, Arg.mk (.int .i64) ((List.length v0.items : Nat) : Int)] [.bool] (fun r_1 : Bool => R (bif r_1 then ((v0.text : ByteArray).toList == ((⟨#[]⟩ : ByteArray) : ByteArray).toList) else false))) ∧ (((v0.kind : Int) == 6) = false → ((bif (decide ((((List.length v0.keys : Nat) : Int) : Int) > 0)) then true else (decide ((((List.length v0.items : Nat) : Int) : Int) > 0))) = true → R false) ∧ ((bif (decide ((((List.length v0.keys : Nat) : Int) : Int) > 0)) then true else (decide ((((List.length v0.items : Nat) : Int) : Int) > 0))) = false → (((v0.kind : Int) == 1) = true → R ((v0.text : ByteArray).toList == ((⟨#[]⟩ : ByteArray) : ByteArray).toList)) ∧ (((v0.kind : Int) == 1) = false → (((v0.kind : Int) == 2) = true → R (bif ((v0.text : ByteArray).toList == ((⟨#[116, 114, 117, 101]⟩ : ByteArray) : ByteArray).toList) then true else ((v0.text : ByteArray).toList == ((⟨#[102, 97, 108, 115, 101]⟩ : ByteArray) : ByteArray).toList))) ∧ (((v0.kind : Int) == 2) = false → (((v0.kind : Int) == 3) = true → PC Tryz.prog gl 95 [Arg.mk .str v0.text] [.pair .bool (.pair .str (.int .i64)), .bool] (fun r_2 : (Bool × ByteArray × Int) × Bool => R r_2.2)) ∧ (((v0.kind : Int) == 3) = false → (((v0.kind : Int) == 4) = true → PC Tryz.prog gl 96 [Arg.mk .str v0.text] [.bool] (fun r_3 : Bool => R r_3)) ∧ (((v0.kind : Int) == 4) = false → (((v0.kind : Int) == 7) = true → PC Tryz.prog gl 97 [Arg.mk .str v0.text] [.bool] (fun r_4 : Bool => R r_4)) ∧ (((v0.kind : Int) == 7) = false → R false))))))))) :
    PC Tryz.prog gl 68 [Arg.mk .tree v0] [.bool] R :=
  PC_of_form Tryz.mixed gl 34 ⟨[], [], [], []⟩ [Arg.mk .tree v0] (rs := [.tmp 2]) (n := 79) Tryz.func68 (by kernel_rfl) (by kernel_rfl) (by kernel_rfl) (by kernel_rfl) H (by kernel_rfl)
theorem pu_scarfref06_Size (gl : Fr) (v0 : Tr) (R : Int → Prop)
    (H : ∃ (I_3 : Int → Int → Prop) (μ_4 : Int → Int → Nat), I_3 1 0 ∧ ∀ n3_1 : Int, ∀ i4_2 : Int, I_3 n3_1 i4_2 → (((decide ((i4_2 : Int) < ((List.length v0.items : Nat) : Int))) = true → ∃ y_7 : Tr, (0 ≤ (i4_2 : Int) ∧ v0.items[(i4_2 : Int).toNat]? = some y_7) ∧ PC Tryz.prog gl 71 [Arg.mk .tree (Tr.mk y_7.kind y_7.text y_7.keys y_7.items)] [.int .i64] (fun r_8 : Int => (I_3 (IntKind.wrap .i64 (n3_1 + r_8)) (IntKind.wrap .i64 (i4_2 + 1)) ∧ μ_4 (IntKind.wrap .i64 (n3_1 + r_8)) (IntKind.wrap .i64 (i4_2 + 1)) < μ_4 n3_1 i4_2))) ∧ ((decide ((i4_2 : Int) < ((List.length v0.items : Nat) : Int))) = false → R n3_1))) :
    PC Tryz.prog gl 71 [Arg.mk .tree v0] [.int .i64] R :=
  PC_of_form Tryz.mixed gl 34 ⟨[], [], [(3, ⟨[(3, .one (.dat (.int .i64))), (4, .one (.dat (.int .i64)))], [], [1], [100192, 100256]⟩)], []⟩ [Arg.mk .tree v0] (rs := [.tmp 2]) (n := 21) Tryz.func71 (by kernel_rfl) (by kernel_rfl) (by kernel_rfl) (by kernel_rfl) H (by kernel_rfl)
theorem pu_scarfref06_Depth (gl : Fr) (v0 : Tr) (R : Int → Prop)
    (H : ∃ (I_3 : Int → Int → Prop) (μ_4 : Int → Int → Nat), I_3 0 0 ∧ ∀ n3_1 : Int, ∀ i4_2 : Int, I_3 n3_1 i4_2 → (((decide ((i4_2 : Int) < ((List.length v0.items : Nat) : Int))) = true → ∃ y_7 : Tr, (0 ≤ (i4_2 : Int) ∧ v0.items[(i4_2 : Int).toNat]? = some y_7) ∧ PC Tryz.prog gl 72 [Arg.mk .tree (Tr.mk y_7.kind y_7.text y_7.keys y_7.items)] [.int .i64] (fun r_8 : Int => (I_3 (if (n3_1 : Int) < r_8 then r_8 else n3_1) (IntKind.wrap .i64 (i4_2 + 1)) ∧ μ_4 (if (n3_1 : Int) < r_8 then r_8 else n3_1) (IntKind.wrap .i64 (i4_2 + 1)) < μ_4 n3_1 i4_2))) ∧ ((decide ((i4_2 : Int) < ((List.length v0.items : Nat) : Int))) = false → R (IntKind.wrap .i64 (n3_1 + 1))))) :
    PC Tryz.prog gl 72 [Arg.mk .tree v0] [.int .i64] R :=
  PC_of_form Tryz.mixed gl 34 ⟨[], [], [(3, ⟨[(3, .one (.dat (.int .i64))), (4, .one (.dat (.int .i64)))], [], [1], [100192, 100256]⟩)], []⟩ [Arg.mk .tree v0] (rs := [.tmp 2]) (n := 22) Tryz.func72 (by kernel_rfl) (by kernel_rfl) (by kernel_rfl) (by kernel_rfl) H (by kernel_rfl)
theorem pu_scarfref06_nodes (gl : Fr) (v0 : Tr) (holes1 : Bool) (R : Bool → Prop)
    (H : PC Tryz.prog gl 102 [Arg.mk .tree (Tr.mk v0.kind v0.text v0.keys v0.items)] [.bool] (fun r_1 : Bool => ((bif (!r_1) then true else (bif ((v0.kind : Int) == 7) then (!holes1) else false)) = true → R false) ∧ ((bif (!r_1) then true else (bif ((v0.kind : Int) == 7) then (!holes1) else false)) = false → ∃ (I_3 : Int → Prop) (μ_4 : Int → Nat), I_3 0 ∧ ∀ i6_2 : Int, I_3 i6_2 → (((decide ((i6_2 : Int) < ((List.length v0.items : Nat) : Int))) = true → ∃ y_7 : Tr, (0 ≤ (i6_2 : Int) ∧ v0.items[(i6_2 : Int).toNat]? = some y_7) ∧ PC Tryz.prog gl 73 [Arg.mk .tree (Tr.mk y_7.kind y_7.text y_7.keys y_7.items), Arg.mk .bool holes1] [.bool] (fun r_8 : Bool => ((!r_8) = true → R false) ∧ ((!r_8) = false → (I_3 (IntKind.wrap .i64 (i6_2 + 1)) ∧ μ_4 (IntKind.wrap .i64 (i6_2 + 1)) < μ_4 i6_2)))) ∧ ((decide ((i6_2 : Int) < ((List.length v0.items : Nat) : Int))) = false → R true))))) :
    PC Tryz.prog gl 73 [Arg.mk .tree v0, Arg.mk .bool holes1] [.bool] R :=
  PC_of_form Tryz.mixed gl 34 ⟨[], [], [(5, ⟨[(6, .one (.dat (.int .i64)))], [], [2], [100384]⟩)], []⟩ [Arg.mk .tree v0, Arg.mk .bool holes1] (rs := [.tmp 4]) (n := 37) Tryz.func73 (by kernel_rfl) (by kernel_rfl) (by kernel_rfl) (by kernel_rfl) H (by kernel_rfl)
theorem pu_scarfref01_Good (gl : Fr) (s0 : ByteArray) (at1 : Int) (R : Bool → Prop)
    (H : PC Tryz.prog gl 75 [Arg.mk .str s0, Arg.mk (.int .i64) at1] [.int .i32, .int .i64] (fun r_1 : Int × Int => R (bif (decide ((r_1.2 : Int) > 0)) then (!(bif ((r_1.1 : Int) == 65533) then ((r_1.2 : Int) == 1) else false)) else false))) :
    PC Tryz.prog gl 74 [Arg.mk .str s0, Arg.mk (.int .i64) at1] [.bool] R :=
  PC_of_form Tryz.mixed gl 34 ⟨[], [], [], []⟩ [Arg.mk .str s0, Arg.mk (.int .i64) at1] (rs := [.tmp 4]) (n := 24) Tryz.func74 (by kernel_rfl) (by kernel_rfl) (by kernel_rfl) (by kernel_rfl) H (by kernel_rfl)
theorem pu_scarfref01_Next (gl : Fr) (s0 : ByteArray) (at1 : Int) (R : (Int × Int) → Prop)
    (H : ((bif (decide ((at1 : Int) < 0)) then true else (decide ((at1 : Int) ≥ ((s0).size : Int)))) = true → R (0, 0)) ∧ ((bif (decide ((at1 : Int) < 0)) then true else (decide ((at1 : Int) ≥ ((s0).size : Int)))) = false → (0 ≤ (at1 : Int) ∧ (at1 : Int) < ((s0).size : Int)) ∧ PC Tryz.prog gl 103 [Arg.mk (.int .i64) (IntKind.wrap .i64 (byteAt s0 (at1 : Int).toNat))] [.int .i64] (fun r_1 : Int => ((bif ((r_1 : Int) == 0) then true else (decide ((r_1 : Int) > (IntKind.wrap .i64 (((s0).size : Int) - at1))))) = true → R (65533, 1)) ∧ ((bif ((r_1 : Int) == 0) then true else (decide ((r_1 : Int) > (IntKind.wrap .i64 (((s0).size : Int) - at1))))) = false → (0 ≤ (at1 : Int) ∧ (at1 : Int) < ((s0).size : Int)) ∧ ∀ K_3 : Int → Prop, (∀ v7_2 : Int, (∀ K_5 : Int → Prop, (∀ v7_4 : Int, (∀ K_7 : Int → Prop, (∀ v7_6 : Int, (∃ (I_10 : Int → Int → Prop) (μ_11 : Int → Int → Nat), I_10 v7_6 1 ∧ ∀ v7_8 : Int, ∀ i8_9 : Int, I_10 v7_8 i8_9 → (((decide ((i8_9 : Int) < r_1)) = true → (0 ≤ (IntKind.wrap .i64 (at1 + i8_9) : Int) ∧ (IntKind.wrap .i64 (at1 + i8_9) : Int) < ((s0).size : Int)) ∧ ((bif (decide ((IntKind.wrap .i64 (byteAt s0 (IntKind.wrap .i64 (at1 + i8_9) : Int).toNat) : Int) < 128)) then true else (decide ((IntKind.wrap .i64 (byteAt s0 (IntKind.wrap .i64 (at1 + i8_9) : Int).toNat) : Int) > 191))) = true → R (65533, 1)) ∧ ((bif (decide ((IntKind.wrap .i64 (byteAt s0 (IntKind.wrap .i64 (at1 + i8_9) : Int).toNat) : Int) < 128)) then true else (decide ((IntKind.wrap .i64 (byteAt s0 (IntKind.wrap .i64 (at1 + i8_9) : Int).toNat) : Int) > 191))) = false → (I_10 (IntKind.wrap .i64 ((IntKind.wrap .i64 ((IntKind.wrap .i64 (64 * v7_8)) + (IntKind.wrap .i64 (byteAt s0 (IntKind.wrap .i64 (at1 + i8_9) : Int).toNat)))) - 128)) (IntKind.wrap .i64 (i8_9 + 1)) ∧ μ_11 (IntKind.wrap .i64 ((IntKind.wrap .i64 ((IntKind.wrap .i64 (64 * v7_8)) + (IntKind.wrap .i64 (byteAt s0 (IntKind.wrap .i64 (at1 + i8_9) : Int).toNat)))) - 128)) (IntKind.wrap .i64 (i8_9 + 1)) < μ_11 v7_8 i8_9))) ∧ ((decide ((i8_9 : Int) < r_1)) = false → ((bif (bif (bif (bif ((r_1 : Int) == 3) then (decide ((v7_8 : Int) < 2048)) else false) then true else (bif ((r_1 : Int) == 4) then (decide ((v7_8 : Int) < 65536)) else false)) then true else (decide ((v7_8 : Int) > 1114111))) then true else (bif (decide ((v7_8 : Int) ≥ 55296)) then (decide ((v7_8 : Int) < 57344)) else false)) = true → R (65533, 1)) ∧ ((bif (bif (bif (bif ((r_1 : Int) == 3) then (decide ((v7_8 : Int) < 2048)) else false) then true else (bif ((r_1 : Int) == 4) then (decide ((v7_8 : Int) < 65536)) else false)) then true else (decide ((v7_8 : Int) > 1114111))) then true else (bif (decide ((v7_8 : Int) ≥ 55296)) then (decide ((v7_8 : Int) < 57344)) else false)) = false → R (IntKind.wrap .i32 v7_8, r_1))))) → K_7 v7_6) → (((r_1 : Int) == 4) = true → K_7 (IntKind.wrap .i64 (v7_4 - 240))) ∧ (((r_1 : Int) == 4) = false → K_7 v7_4)) → K_5 v7_4) → (((r_1 : Int) == 3) = true → K_5 (IntKind.wrap .i64 (v7_2 - 224))) ∧ (((r_1 : Int) == 3) = false → K_5 v7_2)) → K_3 v7_2) → (((r_1 : Int) == 2) = true → K_3 (IntKind.wrap .i64 ((IntKind.wrap .i64 (byteAt s0 (at1 : Int).toNat)) - 192))) ∧ (((r_1 : Int) == 2) = false → K_3 (IntKind.wrap .i64 (byteAt s0 (at1 : Int).toNat))))))) :
    PC Tryz.prog gl 75 [Arg.mk .str s0, Arg.mk (.int .i64) at1] [.int .i32, .int .i64] R :=
  PC_of_form Tryz.mixed gl 34 ⟨[], [], [(14, ⟨[(7, .one (.dat (.int .i64))), (8, .one (.dat (.int .i64)))], [], [], [100448, 100512]⟩)], [(9, ⟨[(7, .one (.dat (.int .i64)))], [], [], [100448]⟩), (11, ⟨[(7, .one (.dat (.int .i64)))], [], [], [100448]⟩), (13, ⟨[(7, .one (.dat (.int .i64)))], [], [], [100448]⟩)]⟩ [Arg.mk .str s0, Arg.mk (.int .i64) at1] (rs := [.tmp 4, .tmp 5]) (n := 100) Tryz.func75 (by kernel_rfl) (by kernel_rfl) (by kernel_rfl) (by kernel_rfl) H (by kernel_rfl)
theorem pu_number_Right (gl : Fr) (n0 : Bool × ByteArray × Int) (R : Bool → Prop)
    (H : (((n0.1 == false) && (((n0.2.1 : ByteArray).toList == ((⟨#[]⟩ : ByteArray) : ByteArray).toList) && (((n0.2.2 : Int) == 0) && true))) = true → R true) ∧ (((n0.1 == false) && (((n0.2.1 : ByteArray).toList == ((⟨#[]⟩ : ByteArray) : ByteArray).toList) && (((n0.2.2 : Int) == 0) && true))) = false → PC Tryz.prog gl 114 [Arg.mk .str n0.2.1] [.bool] (fun r_1 : Bool => ((!r_1) = true → ((!r_1) = true → R false) ∧ ((!r_1) = false → R (bif (decide ((n0.2.2 : Int) ≥ (-1000000))) then (decide ((n0.2.2 : Int) ≤ 1000000)) else false))) ∧ ((!r_1) = false → ((decide ((((n0.2.1).size : Int) : Int) > 1000)) = true → ((decide ((((n0.2.1).size : Int) : Int) > 1000)) = true → R false) ∧ ((decide ((((n0.2.1).size : Int) : Int) > 1000)) = false → R (bif (decide ((n0.2.2 : Int) ≥ (-1000000))) then (decide ((n0.2.2 : Int) ≤ 1000000)) else false))) ∧ ((decide ((((n0.2.1).size : Int) : Int) > 1000)) = false → (0 ≤ (0 : Int) ∧ (0 : Int) < ((n0.2.1).size : Int)) ∧ (((byteAt n0.2.1 (0 : Int).toNat : Int) == 48) = true → (((byteAt n0.2.1 (0 : Int).toNat : Int) == 48) = true → R false) ∧ (((byteAt n0.2.1 (0 : Int).toNat : Int) == 48) = false → R (bif (decide ((n0.2.2 : Int) ≥ (-1000000))) then (decide ((n0.2.2 : Int) ≤ 1000000)) else false))) ∧ (((byteAt n0.2.1 (0 : Int).toNat : Int) == 48) = false → (0 ≤ (IntKind.wrap .i64 (((n0.2.1).size : Int) - 1) : Int) ∧ (IntKind.wrap .i64 (((n0.2.1).size : Int) - 1) : Int) < ((n0.2.1).size : Int)) ∧ (((byteAt n0.2.1 (IntKind.wrap .i64 (((n0.2.1).size : Int) - 1) : Int).toNat : Int) == 48) = true → R false) ∧ (((byteAt n0.2.1 (IntKind.wrap .i64 (((n0.2.1).size : Int) - 1) : Int).toNat : Int) == 48) = false → R (bif (decide ((n0.2.2 : Int) ≥ (-1000000))) then (decide ((n0.2.2 : Int) ≤ 1000000)) else false)))))))) :
    PC Tryz.prog gl 80 [Arg.mk (.pair .bool (.pair .str (.int .i64))) n0] [.bool] R :=
  PC_of_form Tryz.mixed gl 34 ⟨[], [], [], []⟩ [Arg.mk (.pair .bool (.pair .str (.int .i64))) n0] (rs := [.tmp 2]) (n := 34) Tryz.func80 (by kernel_rfl) (by kernel_rfl) (by kernel_rfl) (by kernel_rfl) H (by kernel_rfl)
theorem pu_number_Parse (gl : Fr) (s0 : ByteArray) (R : ((Bool × ByteArray × Int) × Int) → Prop)
    (H : PC Tryz.prog gl 116 [Arg.mk .str s0] [.pair .bool (.pair .bool (.pair .str (.pair .str .str))), .bool] (fun r_1 : (Bool × Bool × ByteArray × ByteArray × ByteArray) × Bool => PC Tryz.prog gl 117 [Arg.mk .str r_1.1.2.2.2.2, Arg.mk .str (⟨#[48]⟩ : ByteArray)] [.str] (fun r_2 : ByteArray => ((!r_1.2) = true → R ((false, ((⟨#[]⟩ : ByteArray), 0)), 2)) ∧ ((!r_1.2) = false → ((decide ((IntKind.wrap .i64 (((r_1.1.2.2.1).size : Int) + ((r_1.1.2.2.2.1).size : Int)) : Int) > 1000)) = true → R ((false, ((⟨#[]⟩ : ByteArray), 0)), 3)) ∧ ((decide ((IntKind.wrap .i64 (((r_1.1.2.2.1).size : Int) + ((r_1.1.2.2.2.1).size : Int)) : Int) > 1000)) = false → ((decide ((((r_2).size : Int) : Int) > 9)) = true → R ((false, ((⟨#[]⟩ : ByteArray), 0)), 4)) ∧ ((decide ((((r_2).size : Int) : Int) > 9)) = false → ∃ (I_8 : Int → Bool → ByteArray → Int → (ByteArray × Nat) → Prop) (μ_9 : Int → Bool → ByteArray → Int → (ByteArray × Nat) → Nat), I_8 0 false (⟨#[]⟩ : ByteArray) 0 (r_2, 0) ∧ ∀ e7_3 : Int, ∀ b2_0_4 : Bool, ∀ b2_1_5 : ByteArray, ∀ b2_2_6 : Int, ∀ b41_0_7 : ByteArray × Nat, I_8 e7_3 b2_0_4 b2_1_5 b2_2_6 b41_0_7 → (((nxB b41_0_7.1 b41_0_7.2) = true → (nxB b41_0_7.1 b41_0_7.2) = true ∧ (I_8 (IntKind.wrap .i64 ((IntKind.wrap .i64 (10 * e7_3)) + (IntKind.wrap .i64 (IntKind.wrap .i32 ((nxR b41_0_7.1 b41_0_7.2) - 48))))) b2_0_4 b2_1_5 b2_2_6 (b41_0_7.1, nxP b41_0_7.1 b41_0_7.2) ∧ μ_9 (IntKind.wrap .i64 ((IntKind.wrap .i64 (10 * e7_3)) + (IntKind.wrap .i64 (IntKind.wrap .i32 ((nxR b41_0_7.1 b41_0_7.2) - 48))))) b2_0_4 b2_1_5 b2_2_6 (b41_0_7.1, nxP b41_0_7.1 b41_0_7.2) < μ_9 e7_3 b2_0_4 b2_1_5 b2_2_6 b41_0_7)) ∧ ((nxB b41_0_7.1 b41_0_7.2) = false → ∀ K_22 : Int → Bool → ByteArray → Int → Prop, (∀ e7_18 : Int, ∀ b2_0_19 : Bool, ∀ b2_1_20 : ByteArray, ∀ b2_2_21 : Int, (fits63 ((r_1.1.2.2.1).size + (r_1.1.2.2.2.1).size) ∧ PC Tryz.prog gl 117 [Arg.mk .str (r_1.1.2.2.1 ++ r_1.1.2.2.2.1), Arg.mk .str (⟨#[48]⟩ : ByteArray)] [.str] (fun r_23 : ByteArray => (((r_23 : ByteArray).toList == ((⟨#[]⟩ : ByteArray) : ByteArray).toList) = true → R ((false, ((⟨#[]⟩ : ByteArray), 0)), 0)) ∧ (((r_23 : ByteArray).toList == ((⟨#[]⟩ : ByteArray) : ByteArray).toList) = false → PC Tryz.prog gl 118 [Arg.mk .str r_23, Arg.mk .str (⟨#[48]⟩ : ByteArray)] [.str] (fun r_24 : ByteArray => PC Tryz.prog gl 80 [Arg.mk (.pair .bool (.pair .str (.int .i64))) (r_1.1.1, (r_24, IntKind.wrap .i64 ((IntKind.wrap .i64 ((IntKind.wrap .i64 (e7_18 - ((r_1.1.2.2.2.1).size : Int))) + ((r_23).size : Int))) - ((r_24).size : Int))))] [.bool] (fun r_25 : Bool => ((!r_25) = true → R ((false, ((⟨#[]⟩ : ByteArray), 0)), 4)) ∧ ((!r_25) = false → R ((r_1.1.1, (r_24, IntKind.wrap .i64 ((IntKind.wrap .i64 ((IntKind.wrap .i64 (e7_18 - ((r_1.1.2.2.2.1).size : Int))) + ((r_23).size : Int))) - ((r_24).size : Int)))), 0))))))) → K_22 e7_18 b2_0_19 b2_1_20 b2_2_21) → (r_1.1.2.1 = true → K_22 (IntKind.wrap .i64 (0 - e7_3)) b2_0_4 b2_1_5 b2_2_6) ∧ (r_1.1.2.1 = false → K_22 e7_3 b2_0_4 b2_1_5 b2_2_6))))))))) :
    PC Tryz.prog gl 82 [Arg.mk .str s0] [.pair .bool (.pair .str (.int .i64)), .int .i64] R :=
  PC_of_form Tryz.mixed gl 34 ⟨[], [], [(11, ⟨[(7, .one (.dat (.int .i64)))], [(2, [.dat .bool, .dat .str, .dat (.int .i64)]), (41, [.dat .iter])], [4], [100448, 1000128, 1000129, 1000130, 1002624]⟩)], [(16, ⟨[(7, .one (.dat (.int .i64)))], [(2, [.dat .bool, .dat .str, .dat (.int .i64)])], [4], [100448, 1000128, 1000129, 1000130]⟩)]⟩ [Arg.mk .str s0] (rs := [.cell 2 80, .tmp 3]) (n := 86) Tryz.func82 (by kernel_rfl) (by kernel_rfl) (by kernel_rfl) (by kernel_rfl) H (by kernel_rfl)
theorem pu_unicode_utf8_ValidString (gl : Fr) (s0 : ByteArray) (R : Bool → Prop)
    (H : ∃ (I_2 : ByteArray → Prop) (μ_3 : ByteArray → Nat), I_2 s0 ∧ ∀ s0_1 : ByteArray, I_2 s0_1 → (((decide ((((s0_1).size : Int) : Int) > 0)) = true → (0 ≤ (0 : Int) ∧ (0 : Int) < ((s0_1).size : Int)) ∧ ((decide ((byteAt s0_1 (0 : Int).toNat : Int) < 128)) = true → (0 ≤ (1 : Int) ∧ (1 : Int) ≤ ((s0_1).size : Int) ∧ (((s0_1).size : Int) : Int) ≤ ((s0_1).size : Int)) ∧ ∃ J_32 : Int → Prop, ((decide (((((s0_1).extract (1 : Int).toNat (((s0_1).size : Int) : Int).toNat).size : Int) : Int) > 8)) = true → PC Tryz.prog gl 121 [Arg.mk .str ((s0_1).extract (1 : Int).toNat (((s0_1).size : Int) : Int).toNat)] [.int .u64] J_32) ∧ ∀ r_33 : Int, ((decide (((((s0_1).extract (1 : Int).toNat (((s0_1).size : Int) : Int).toNat).size : Int) : Int) > 8)) = true → J_32 r_33) → ((bif (decide (((((s0_1).extract (1 : Int).toNat (((s0_1).size : Int) : Int).toNat).size : Int) : Int) > 8)) then ((IntKind.wrap .u64 (((BitVec.ofInt (IntKind.bits .u64) r_33) &&& (BitVec.ofInt (IntKind.bits .u64) 9259542123273814144)).toNat : Int) : Int) == 0) else false) = true → (0 ≤ (8 : Int) ∧ (8 : Int) ≤ (((s0_1).extract (1 : Int).toNat (((s0_1).size : Int) : Int).toNat).size : Int) ∧ ((((s0_1).extract (1 : Int).toNat (((s0_1).size : Int) : Int).toNat).size : Int) : Int) ≤ (((s0_1).extract (1 : Int).toNat (((s0_1).size : Int) : Int).toNat).size : Int)) ∧ ((decide ((((((s0_1).extract (1 : Int).toNat (((s0_1).size : Int) : Int).toNat).extract (8 : Int).toNat ((((s0_1).extract (1 : Int).toNat (((s0_1).size : Int) : Int).toNat).size : Int) : Int).toNat).size : Int) : Int) > 16)) = true → (0 ≤ (8 : Int) ∧ (8 : Int) ≤ ((((s0_1).extract (1 : Int).toNat (((s0_1).size : Int) : Int).toNat).extract (8 : Int).toNat ((((s0_1).extract (1 : Int).toNat (((s0_1).size : Int) : Int).toNat).size : Int) : Int).toNat).size : Int) ∧ (((((s0_1).extract (1 : Int).toNat (((s0_1).size : Int) : Int).toNat).extract (8 : Int).toNat ((((s0_1).extract (1 : Int).toNat (((s0_1).size : Int) : Int).toNat).size : Int) : Int).toNat).size : Int) : Int) ≤ ((((s0_1).extract (1 : Int).toNat (((s0_1).size : Int) : Int).toNat).extract (8 : Int).toNat ((((s0_1).extract (1 : Int).toNat (((s0_1).size : Int) : Int).toNat).size : Int) : Int).toNat).size : Int))) ∧ ∃ J_34 : Int → Prop, ((decide ((((((s0_1).extract (1 : Int).toNat (((s0_1).size : Int) : Int).toNat).extract (8 : Int).toNat ((((s0_1).extract (1 : Int).toNat (((s0_1).size : Int) : Int).toNat).size : Int) : Int).toNat).size : Int) : Int) > 16)) = true → PC Tryz.prog gl 121 [Arg.mk .str (((s0_1).extract (1 : Int).toNat (((s0_1).size : Int) : Int).toNat).extract (8 : Int).toNat ((((s0_1).extract (1 : Int).toNat (((s0_1).size : Int) : Int).toNat).size : Int) : Int).toNat)] [.int .u64] J_34) ∧ ∀ r_35 : Int, ((decide ((((((s0_1).extract (1 : Int).toNat (((s0_1).size : Int) : Int).toNat).extract (8 : Int).toNat ((((s0_1).extract (1 : Int).toNat (((s0_1).size : Int) : Int).toNat).size : Int) : Int).toNat).size : Int) : Int) > 16)) = true → J_34 r_35) → ∃ J_36 : Int → Prop, ((decide ((((((s0_1).extract (1 : Int).toNat (((s0_1).size : Int) : Int).toNat).extract (8 : Int).toNat ((((s0_1).extract (1 : Int).toNat (((s0_1).size : Int) : Int).toNat).size : Int) : Int).toNat).size : Int) : Int) > 16)) = true → PC Tryz.prog gl 121 [Arg.mk .str ((((s0_1).extract (1 : Int).toNat (((s0_1).size : Int) : Int).toNat).extract (8 : Int).toNat ((((s0_1).extract (1 : Int).toNat (((s0_1).size : Int) : Int).toNat).size : Int) : Int).toNat).extract (8 : Int).toNat (((((s0_1).extract (1 : Int).toNat (((s0_1).size : Int) : Int).toNat).extract (8 : Int).toNat ((((s0_1).extract (1 : Int).toNat (((s0_1).size : Int) : Int).toNat).size : Int) : Int).toNat).size : Int) : Int).toNat)] [.int .u64] J_36) ∧ ∀ r_37 : Int, ((decide ((((((s0_1).extract (1 : Int).toNat (((s0_1).size : Int) : Int).toNat).extract (8 : Int).toNat ((((s0_1).extract (1 : Int).toNat (((s0_1).size : Int) : Int).toNat).size : Int) : Int).toNat).size : Int) : Int) > 16)) = true → J_36 r_37) → ((bif (decide ((((((s0_1).extract (1 : Int).toNat (((s0_1).size : Int) : Int).toNat).extract (8 : Int).toNat ((((s0_1).extract (1 : Int).toNat (((s0_1).size : Int) : Int).toNat).size : Int) : Int).toNat).size : Int) : Int) > 16)) then ((IntKind.wrap .u64 (((BitVec.ofInt (IntKind.bits .u64) (IntKind.wrap .u64 (((BitVec.ofInt (IntKind.bits .u64) r_35) ||| (BitVec.ofInt (IntKind.bits .u64) r_37)).toNat : Int))) &&& (BitVec.ofInt (IntKind.bits .u64) 9259542123273814144)).toNat : Int) : Int) == 0) else false) = true → (0 ≤ (16 : Int) ∧ (16 : Int) ≤ ((((s0_1).extract (1 : Int).toNat (((s0_1).size : Int) : Int).toNat).extract (8 : Int).toNat ((((s0_1).extract (1 : Int).toNat (((s0_1).size : Int) : Int).toNat).size : Int) : Int).toNat).size : Int) ∧ (((((s0_1).extract (1 : Int).toNat (((s0_1).size : Int) : Int).toNat).extract (8 : Int).toNat ((((s0_1).extract (1 : Int).toNat (((s0_1).size : Int) : Int).toNat).size : Int) : Int).toNat).size : Int) : Int) ≤ ((((s0_1).extract (1 : Int).toNat (((s0_1).size : Int) : Int).toNat).extract (8 : Int).toNat ((((s0_1).extract (1 : Int).toNat (((s0_1).size : Int) : Int).toNat).size : Int) : Int).toNat).size : Int)) ∧ ∃ (I_39 : ByteArray → Prop) (μ_40 : ByteArray → Nat), I_39 ((((s0_1).extract (1 : Int).toNat (((s0_1).size : Int) : Int).toNat).extract (8 : Int).toNat ((((s0_1).extract (1 : Int).toNat (((s0_1).size : Int) : Int).toNat).size : Int) : Int).toNat).extract (16 : Int).toNat (((((s0_1).extract (1 : Int).toNat (((s0_1).size : Int) : Int).toNat).extract (8 : Int).toNat ((((s0_1).extract (1 : Int).toNat (((s0_1).size : Int) : Int).toNat).size : Int) : Int).toNat).size : Int) : Int).toNat) ∧ ∀ s0_38 : ByteArray, I_39 s0_38 → (((decide ((((s0_38).size : Int) : Int) > 32)) = true → (0 ≤ (8 : Int) ∧ (8 : Int) ≤ ((s0_38).size : Int) ∧ (((s0_38).size : Int) : Int) ≤ ((s0_38).size : Int))) ∧ ((decide ((((s0_38).size : Int) : Int) > 32)) = true → (0 ≤ (16 : Int) ∧ (16 : Int) ≤ ((s0_38).size : Int) ∧ (((s0_38).size : Int) : Int) ≤ ((s0_38).size : Int))) ∧ ((decide ((((s0_38).size : Int) : Int) > 32)) = true → (0 ≤ (24 : Int) ∧ (24 : Int) ≤ ((s0_38).size : Int) ∧ (((s0_38).size : Int) : Int) ≤ ((s0_38).size : Int))) ∧ ∃ J_49 : Int → Prop, ((decide ((((s0_38).size : Int) : Int) > 32)) = true → PC Tryz.prog gl 121 [Arg.mk .str s0_38] [.int .u64] J_49) ∧ ∀ r_50 : Int, ((decide ((((s0_38).size : Int) : Int) > 32)) = true → J_49 r_50) → ∃ J_51 : Int → Prop, ((decide ((((s0_38).size : Int) : Int) > 32)) = true → PC Tryz.prog gl 121 [Arg.mk .str ((s0_38).extract (8 : Int).toNat (((s0_38).size : Int) : Int).toNat)] [.int .u64] J_51) ∧ ∀ r_52 : Int, ((decide ((((s0_38).size : Int) : Int) > 32)) = true → J_51 r_52) → ∃ J_53 : Int → Prop, ((decide ((((s0_38).size : Int) : Int) > 32)) = true → PC Tryz.prog gl 121 [Arg.mk .str ((s0_38).extract (16 : Int).toNat (((s0_38).size : Int) : Int).toNat)] [.int .u64] J_53) ∧ ∀ r_54 : Int, ((decide ((((s0_38).size : Int) : Int) > 32)) = true → J_53 r_54) → ∃ J_55 : Int → Prop, ((decide ((((s0_38).size : Int) : Int) > 32)) = true → PC Tryz.prog gl 121 [Arg.mk .str ((s0_38).extract (24 : Int).toNat (((s0_38).size : Int) : Int).toNat)] [.int .u64] J_55) ∧ ∀ r_56 : Int, ((decide ((((s0_38).size : Int) : Int) > 32)) = true → J_55 r_56) → ((bif (decide ((((s0_38).size : Int) : Int) > 32)) then ((IntKind.wrap .u64 (((BitVec.ofInt (IntKind.bits .u64) (IntKind.wrap .u64 (((BitVec.ofInt (IntKind.bits .u64) (IntKind.wrap .u64 (((BitVec.ofInt (IntKind.bits .u64) r_50) ||| (BitVec.ofInt (IntKind.bits .u64) r_52)).toNat : Int))) ||| (BitVec.ofInt (IntKind.bits .u64) (IntKind.wrap .u64 (((BitVec.ofInt (IntKind.bits .u64) r_54) ||| (BitVec.ofInt (IntKind.bits .u64) r_56)).toNat : Int)))).toNat : Int))) &&& (BitVec.ofInt (IntKind.bits .u64) 9259542123273814144)).toNat : Int) : Int) == 0) else false) = true → (0 ≤ (32 : Int) ∧ (32 : Int) ≤ ((s0_38).size : Int) ∧ (((s0_38).size : Int) : Int) ≤ ((s0_38).size : Int)) ∧ (I_39 ((s0_38).extract (32 : Int).toNat (((s0_38).size : Int) : Int).toNat) ∧ μ_40 ((s0_38).extract (32 : Int).toNat (((s0_38).size : Int) : Int).toNat) < μ_40 s0_38)) ∧ ((bif (decide ((((s0_38).size : Int) : Int) > 32)) then ((IntKind.wrap .u64 (((BitVec.ofInt (IntKind.bits .u64) (IntKind.wrap .u64 (((BitVec.ofInt (IntKind.bits .u64) (IntKind.wrap .u64 (((BitVec.ofInt (IntKind.bits .u64) r_50) ||| (BitVec.ofInt (IntKind.bits .u64) r_52)).toNat : Int))) ||| (BitVec.ofInt (IntKind.bits .u64) (IntKind.wrap .u64 (((BitVec.ofInt (IntKind.bits .u64) r_54) ||| (BitVec.ofInt (IntKind.bits .u64) r_56)).toNat : Int)))).toNat : Int))) &&& (BitVec.ofInt (IntKind.bits .u64) 9259542123273814144)).toNat : Int) : Int) == 0) else false) = false → (I_2 s0_38 ∧ μ_3 s0_38 < μ_3 s0_1)))) ∧ ((bif (decide ((((((s0_1).extract (1 : Int).toNat (((s0_1).size : Int) : Int).toNat).extract (8 : Int).toNat ((((s0_1).extract (1 : Int).toNat (((s0_1).size : Int) : Int).toNat).size : Int) : Int).toNat).size : Int) : Int) > 16)) then ((IntKind.wrap .u64 (((BitVec.ofInt (IntKind.bits .u64) (IntKind.wrap .u64 (((BitVec.ofInt (IntKind.bits .u64) r_35) ||| (BitVec.ofInt (IntKind.bits .u64) r_37)).toNat : Int))) &&& (BitVec.ofInt (IntKind.bits .u64) 9259542123273814144)).toNat : Int) : Int) == 0) else false) = false → (I_2 (((s0_1).extract (1 : Int).toNat (((s0_1).size : Int) : Int).toNat).extract (8 : Int).toNat ((((s0_1).extract (1 : Int).toNat (((s0_1).size : Int) : Int).toNat).size : Int) : Int).toNat) ∧ μ_3 (((s0_1).extract (1 : Int).toNat (((s0_1).size : Int) : Int).toNat).extract (8 : Int).toNat ((((s0_1).extract (1 : Int).toNat (((s0_1).size : Int) : Int).toNat).size : Int) : Int).toNat) < μ_3 s0_1))) ∧ ((bif (decide (((((s0_1).extract (1 : Int).toNat (((s0_1).size : Int) : Int).toNat).size : Int) : Int) > 8)) then ((IntKind.wrap .u64 (((BitVec.ofInt (IntKind.bits .u64) r_33) &&& (BitVec.ofInt (IntKind.bits .u64) 9259542123273814144)).toNat : Int) : Int) == 0) else false) = false → (I_2 ((s0_1).extract (1 : Int).toNat (((s0_1).size : Int) : Int).toNat) ∧ μ_3 ((s0_1).extract (1 : Int).toNat (((s0_1).size : Int) : Int).toNat) < μ_3 s0_1))) ∧ ((decide ((byteAt s0_1 (0 : Int).toNat : Int) < 128)) = false → (0 ≤ (byteAt s0_1 (0 : Int).toNat : Int) ∧ (byteAt s0_1 (0 : Int).toNat : Int) < ((256 : Nat) : Int)) ∧ ∃ x_57 : Int, cellG gl 1 (0 + (byteAt s0_1 (0 : Int).toNat : Int).toNat * 1) (.int .u8 x_57) ∧ (0 ≤ ((x_57 : Int).fdiv (2 ^ 4) : Int) ∧ ((x_57 : Int).fdiv (2 ^ 4) : Int) < ((16 : Nat) : Int)) ∧ ∃ x_58 : Int, cellG gl 2 (0 + ((x_57 : Int).fdiv (2 ^ 4) : Int).toNat * 2) (.int .u8 x_58) ∧ ∃ x_59 : Int, cellG gl 2 (0 + ((x_57 : Int).fdiv (2 ^ 4) : Int).toNat * 2 + 1) (.int .u8 x_59) ∧ (((IntKind.wrap .i64 (IntKind.wrap .u8 (((BitVec.ofInt (IntKind.bits .u8) x_57) &&& (BitVec.ofInt (IntKind.bits .u8) 7)).toNat : Int)) : Int) == 2) = true → ((!(decide ((((s0_1).size : Int) : Int) < 2))) = true → (0 ≤ (1 : Int) ∧ (1 : Int) < ((s0_1).size : Int))) ∧ ((!(bif (decide ((((s0_1).size : Int) : Int) < 2)) then true else (decide ((byteAt s0_1 (1 : Int).toNat : Int) < x_58)))) = true → (0 ≤ (1 : Int) ∧ (1 : Int) < ((s0_1).size : Int))) ∧ ((bif (bif (decide ((((s0_1).size : Int) : Int) < 2)) then true else (decide ((byteAt s0_1 (1 : Int).toNat : Int) < x_58))) then true else (decide ((x_59 : Int) < (byteAt s0_1 (1 : Int).toNat)))) = true → R false) ∧ ((bif (bif (decide ((((s0_1).size : Int) : Int) < 2)) then true else (decide ((byteAt s0_1 (1 : Int).toNat : Int) < x_58))) then true else (decide ((x_59 : Int) < (byteAt s0_1 (1 : Int).toNat)))) = false → (0 ≤ (2 : Int) ∧ (2 : Int) ≤ ((s0_1).size : Int) ∧ (((s0_1).size : Int) : Int) ≤ ((s0_1).size : Int)) ∧ (I_2 ((s0_1).extract (2 : Int).toNat (((s0_1).size : Int) : Int).toNat) ∧ μ_3 ((s0_1).extract (2 : Int).toNat (((s0_1).size : Int) : Int).toNat) < μ_3 s0_1))) ∧ (((IntKind.wrap .i64 (IntKind.wrap .u8 (((BitVec.ofInt (IntKind.bits .u8) x_57) &&& (BitVec.ofInt (IntKind.bits .u8) 7)).toNat : Int)) : Int) == 2) = false → (((IntKind.wrap .i64 (IntKind.wrap .u8 (((BitVec.ofInt (IntKind.bits .u8) x_57) &&& (BitVec.ofInt (IntKind.bits .u8) 7)).toNat : Int)) : Int) == 3) = true → ((!(decide ((((s0_1).size : Int) : Int) < 3))) = true → (0 ≤ (1 : Int) ∧ (1 : Int) < ((s0_1).size : Int))) ∧ ((!(bif (decide ((((s0_1).size : Int) : Int) < 3)) then true else (decide ((byteAt s0_1 (1 : Int).toNat : Int) < x_58)))) = true → (0 ≤ (1 : Int) ∧ (1 : Int) < ((s0_1).size : Int))) ∧ ((!(bif (bif (decide ((((s0_1).size : Int) : Int) < 3)) then true else (decide ((byteAt s0_1 (1 : Int).toNat : Int) < x_58))) then true else (decide ((x_59 : Int) < (byteAt s0_1 (1 : Int).toNat))))) = true → (0 ≤ (2 : Int) ∧ (2 : Int) < ((s0_1).size : Int))) ∧ ((!(bif (bif (bif (decide ((((s0_1).size : Int) : Int) < 3)) then true else (decide ((byteAt s0_1 (1 : Int).toNat : Int) < x_58))) then true else (decide ((x_59 : Int) < (byteAt s0_1 (1 : Int).toNat)))) then true else (decide ((byteAt s0_1 (2 : Int).toNat : Int) < 128)))) = true → (0 ≤ (2 : Int) ∧ (2 : Int) < ((s0_1).size : Int))) ∧ ((bif (bif (bif (bif (decide ((((s0_1).size : Int) : Int) < 3)) then true else (decide ((byteAt s0_1 (1 : Int).toNat : Int) < x_58))) then true else (decide ((x_59 : Int) < (byteAt s0_1 (1 : Int).toNat)))) then true else (decide ((byteAt s0_1 (2 : Int).toNat : Int) < 128))) then true else (decide ((191 : Int) < (byteAt s0_1 (2 : Int).toNat)))) = true → R false) ∧ ((bif (bif (bif (bif (decide ((((s0_1).size : Int) : Int) < 3)) then true else (decide ((byteAt s0_1 (1 : Int).toNat : Int) < x_58))) then true else (decide ((x_59 : Int) < (byteAt s0_1 (1 : Int).toNat)))) then true else (decide ((byteAt s0_1 (2 : Int).toNat : Int) < 128))) then true else (decide ((191 : Int) < (byteAt s0_1 (2 : Int).toNat)))) = false → (0 ≤ (3 : Int) ∧ (3 : Int) ≤ ((s0_1).size : Int) ∧ (((s0_1).size : Int) : Int) ≤ ((s0_1).size : Int)) ∧ (I_2 ((s0_1).extract (3 : Int).toNat (((s0_1).size : Int) : Int).toNat) ∧ μ_3 ((s0_1).extract (3 : Int).toNat (((s0_1).size : Int) : Int).toNat) < μ_3 s0_1))) ∧ (((IntKind.wrap .i64 (IntKind.wrap .u8 (((BitVec.ofInt (IntKind.bits .u8) x_57) &&& (BitVec.ofInt (IntKind.bits .u8) 7)).toNat : Int)) : Int) == 3) = false → (((IntKind.wrap .i64 (IntKind.wrap .u8 (((BitVec.ofInt (IntKind.bits .u8) x_57) &&& (BitVec.ofInt (IntKind.bits .u8) 7)).toNat : Int)) : Int) == 4) = true → ((!(decide ((((s0_1).size : Int) : Int) < 4))) = true → (0 ≤ (1 : Int) ∧ (1 : Int) < ((s0_1).size : Int))) ∧ ((!(bif (decide ((((s0_1).size : Int) : Int) < 4)) then true else (decide ((byteAt s0_1 (1 : Int).toNat : Int) < x_58)))) = true → (0 ≤ (1 : Int) ∧ (1 : Int) < ((s0_1).size : Int))) ∧ ((!(bif (bif (decide ((((s0_1).size : Int) : Int) < 4)) then true else (decide ((byteAt s0_1 (1 : Int).toNat : Int) < x_58))) then true else (decide ((x_59 : Int) < (byteAt s0_1 (1 : Int).toNat))))) = true → (0 ≤ (2 : Int) ∧ (2 : Int) < ((s0_1).size : Int))) ∧ ((!(bif (bif (bif (decide ((((s0_1).size : Int) : Int) < 4)) then true else (decide ((byteAt s0_1 (1 : Int).toNat : Int) < x_58))) then true else (decide ((x_59 : Int) < (byteAt s0_1 (1 : Int).toNat)))) then true else (decide ((byteAt s0_1 (2 : Int).toNat : Int) < 128)))) = true → (0 ≤ (2 : Int) ∧ (2 : Int) < ((s0_1).size : Int))) ∧ ((!(bif (bif (bif (bif (decide ((((s0_1).size : Int) : Int) < 4)) then true else (decide ((byteAt s0_1 (1 : Int).toNat : Int) < x_58))) then true else (decide ((x_59 : Int) < (byteAt s0_1 (1 : Int).toNat)))) then true else (decide ((byteAt s0_1 (2 : Int).toNat : Int) < 128))) then true else (decide ((191 : Int) < (byteAt s0_1 (2 : Int).toNat))))) = true → (0 ≤ (3 : Int) ∧ (3 : Int) < ((s0_1).size : Int))) ∧ ((!(bif (bif (bif (bif (bif (decide ((((s0_1).size : Int) : Int) < 4)) then true else (decide ((byteAt s0_1 (1 : Int).toNat : Int) < x_58))) then true else (decide ((x_59 : Int) < (byteAt s0_1 (1 : Int).toNat)))) then true else (decide ((byteAt s0_1 (2 : Int).toNat : Int) < 128))) then true else (decide ((191 : Int) < (byteAt s0_1 (2 : Int).toNat)))) then true else (decide ((byteAt s0_1 (3 : Int).toNat : Int) < 128)))) = true → (0 ≤ (3 : Int) ∧ (3 : Int) < ((s0_1).size : Int))) ∧ ((bif (bif (bif (bif (bif (bif (decide ((((s0_1).size : Int) : Int) < 4)) then true else (decide ((byteAt s0_1 (1 : Int).toNat : Int) < x_58))) then true else (decide ((x_59 : Int) < (byteAt s0_1 (1 : Int).toNat)))) then true else (decide ((byteAt s0_1 (2 : Int).toNat : Int) < 128))) then true else (decide ((191 : Int) < (byteAt s0_1 (2 : Int).toNat)))) then true else (decide ((byteAt s0_1 (3 : Int).toNat : Int) < 128))) then true else (decide ((191 : Int) < (byteAt s0_1 (3 : Int).toNat)))) = true → R false) ∧ ((bif (bif (bif (bif (bif (bif (decide ((((s0_1).size : Int) : Int) < 4)) then true else (decide ((byteAt s0_1 (1 : Int).toNat : Int) < x_58))) then true else (decide ((x_59 : Int) < (byteAt s0_1 (1 : Int).toNat)))) then true else (decide ((byteAt s0_1 (2 : Int).toNat : Int) < 128))) then true else (decide ((191 : Int) < (byteAt s0_1 (2 : Int).toNat)))) then true else (decide ((byteAt s0_1 (3 : Int).toNat : Int) < 128))) then true else (decide ((191 : Int) < (byteAt s0_1 (3 : Int).toNat)))) = false → (0 ≤ (4 : Int) ∧ (4 : Int) ≤ ((s0_1).size : Int) ∧ (((s0_1).size : Int) : Int) ≤ ((s0_1).size : Int)) ∧ (I_2 ((s0_1).extract (4 : Int).toNat (((s0_1).size : Int) : Int).toNat) ∧ μ_3 ((s0_1).extract (4 : Int).toNat (((s0_1).size : Int) : Int).toNat) < μ_3 s0_1))) ∧ (((IntKind.wrap .i64 (IntKind.wrap .u8 (((BitVec.ofInt (IntKind.bits .u8) x_57) &&& (BitVec.ofInt (IntKind.bits .u8) 7)).toNat : Int)) : Int) == 4) = false → R false))))) ∧ ((decide ((((s0_1).size : Int) : Int) > 0)) = false → R true))) :
    PC Tryz.prog gl 86 [Arg.mk .str s0] [.bool] R :=
  PC_of_form Tryz.mixed gl 34 ⟨[], [(7, 8, [], [0, 1, 2, 3, 4, 6, 7, 5], []), (9, 15, [], [0, 1, 2, 3, 4, 6, 7, 10, 11, 13, 14, 5, 8, 9, 12], [9])], [(1, ⟨[(0, .one (.dat .str))], [], [], [100000]⟩), (9, ⟨[(0, .one (.dat .str))], [], [], [100000]⟩)], []⟩ [Arg.mk .str s0] (rs := [.tmp 2]) (n := 169) Tryz.func86 (by kernel_rfl) (by kernel_rfl) (by kernel_rfl) (by kernel_rfl) H (by kernel_rfl)
theorem pu_value_Size (gl : Fr) (v0 : Tr) (R : Int → Prop)
    (H : ∃ (I_3 : Int → Int → Prop) (μ_4 : Int → Int → Nat), I_3 1 0 ∧ ∀ n3_1 : Int, ∀ x9_2 : Int, I_3 n3_1 x9_2 → (((decide ((x9_2 : Int) < ((List.length v0.items : Nat) : Int))) = true → ∃ y_7 : Tr, (0 ≤ (x9_2 : Int) ∧ v0.items[(x9_2 : Int).toNat]? = some y_7) ∧ PC Tryz.prog gl 90 [Arg.mk .tree (Tr.mk y_7.kind y_7.text y_7.keys y_7.items)] [.int .i64] (fun r_8 : Int => (I_3 (IntKind.wrap .i64 (n3_1 + r_8)) (IntKind.wrap .i64 (x9_2 + 1)) ∧ μ_4 (IntKind.wrap .i64 (n3_1 + r_8)) (IntKind.wrap .i64 (x9_2 + 1)) < μ_4 n3_1 x9_2))) ∧ ((decide ((x9_2 : Int) < ((List.length v0.items : Nat) : Int))) = false → R n3_1))) :
    PC Tryz.prog gl 90 [Arg.mk .tree v0] [.int .i64] R :=
  PC_of_form Tryz.mixed gl 34 ⟨[], [], [(3, ⟨[(3, .one (.dat (.int .i64))), (9, .one (.dat (.int .i64)))], [], [], [100192, 100576]⟩)], []⟩ [Arg.mk .tree v0] (rs := [.tmp 2]) (n := 19) Tryz.func90 (by kernel_rfl) (by kernel_rfl) (by kernel_rfl) (by kernel_rfl) H (by kernel_rfl)
theorem pu_value_Depth (gl : Fr) (v0 : Tr) (R : Int → Prop)
    (H : ∃ (I_3 : Int → Int → Prop) (μ_4 : Int → Int → Nat), I_3 0 0 ∧ ∀ n3_1 : Int, ∀ x9_2 : Int, I_3 n3_1 x9_2 → (((decide ((x9_2 : Int) < ((List.length v0.items : Nat) : Int))) = true → ∃ y_7 : Tr, (0 ≤ (x9_2 : Int) ∧ v0.items[(x9_2 : Int).toNat]? = some y_7) ∧ PC Tryz.prog gl 91 [Arg.mk .tree (Tr.mk y_7.kind y_7.text y_7.keys y_7.items)] [.int .i64] (fun r_8 : Int => (I_3 (if (n3_1 : Int) < r_8 then r_8 else n3_1) (IntKind.wrap .i64 (x9_2 + 1)) ∧ μ_4 (if (n3_1 : Int) < r_8 then r_8 else n3_1) (IntKind.wrap .i64 (x9_2 + 1)) < μ_4 n3_1 x9_2))) ∧ ((decide ((x9_2 : Int) < ((List.length v0.items : Nat) : Int))) = false → R (IntKind.wrap .i64 (n3_1 + 1))))) :
    PC Tryz.prog gl 91 [Arg.mk .tree v0] [.int .i64] R :=
  PC_of_form Tryz.mixed gl 34 ⟨[], [], [(3, ⟨[(3, .one (.dat (.int .i64))), (9, .one (.dat (.int .i64)))], [], [], [100192, 100576]⟩)], []⟩ [Arg.mk .tree v0] (rs := [.tmp 2]) (n := 20) Tryz.func91 (by kernel_rfl) (by kernel_rfl) (by kernel_rfl) (by kernel_rfl) H (by kernel_rfl)
theorem pu_value_decimal (gl : Fr) (s0 : ByteArray) (R : ((Bool × ByteArray × Int) × Bool) → Prop)
    (H : PC Tryz.prog gl 82 [Arg.mk .str s0] [.pair .bool (.pair .str (.int .i64)), .int .i64] (fun r_1 : (Bool × ByteArray × Int) × Int => ∃ J_2 : ByteArray → Prop, (((r_1.2 : Int) == 0) = true → PC Tryz.prog gl 55 [Arg.mk (.pair .bool (.pair .str (.int .i64))) (r_1.1.1, (r_1.1.2.1, r_1.1.2.2))] [.str] J_2) ∧ ∀ r_3 : ByteArray, (((r_1.2 : Int) == 0) = true → J_2 r_3) → R ((r_1.1.1, (r_1.1.2.1, r_1.1.2.2)), bif ((r_1.2 : Int) == 0) then ((r_3 : ByteArray).toList == (s0 : ByteArray).toList) else false))) :
    PC Tryz.prog gl 95 [Arg.mk .str s0] [.pair .bool (.pair .str (.int .i64)), .bool] R :=
  PC_of_form Tryz.mixed gl 34 ⟨[], [(2, 9, [], [0, 1, 2, 3, 4, 6, 5, 7, 8], [6, 7, 8])], [], []⟩ [Arg.mk .str s0] (rs := [.cell 2 80, .tmp 3]) (n := 20) Tryz.func95 (by kernel_rfl) (by kernel_rfl) (by kernel_rfl) (by kernel_rfl) H (by kernel_rfl)
theorem pu_value_plain (gl : Fr) (s0 : ByteArray) (R : Bool → Prop)
    (H : PC Tryz.prog gl 60 [Arg.mk .str s0] [.int .i64, .bool] (fun r_1 : Int × Bool => R r_1.2)) :
    PC Tryz.prog gl 96 [Arg.mk .str s0] [.bool] R :=
  PC_of_form Tryz.mixed gl 34 ⟨[], [], [], []⟩ [Arg.mk .str s0] (rs := [.tmp 2]) (n := 11) Tryz.func96 (by kernel_rfl) (by kernel_rfl) (by kernel_rfl) (by kernel_rfl) H (by kernel_rfl)
theorem pu_value_hole (gl : Fr) (s0 : ByteArray) (R : Bool → Prop)
    (H : PC Tryz.prog gl 95 [Arg.mk .str s0] [.pair .bool (.pair .str (.int .i64)), .bool] (fun r_1 : (Bool × ByteArray × Int) × Bool => PC Tryz.prog gl 127 [Arg.mk (.pair .bool (.pair .str (.int .i64))) (r_1.1.1, (r_1.1.2.1, r_1.1.2.2))] [.int .i64, .bool] (fun r_2 : Int × Bool => R (bif (bif r_1.2 then r_2.2 else false) then (decide ((r_2.1 : Int) ≥ 0)) else false)))) :
    PC Tryz.prog gl 97 [Arg.mk .str s0] [.bool] R :=
  PC_of_form Tryz.mixed gl 34 ⟨[], [], [], []⟩ [Arg.mk .str s0] (rs := [.tmp 2]) (n := 25) Tryz.func97 (by kernel_rfl) (by kernel_rfl) (by kernel_rfl) (by kernel_rfl) H (by kernel_rfl)
theorem pu_pointer_item (gl : Fr) (v0 : Tr) (step1 : ByteArray) (R : Int → Prop)
    (H : (((v0.kind : Int) == 6) = true → PC Tryz.prog gl 128 [Arg.mk (.row .str) v0.keys, Arg.mk .str step1] [.int .i64] (fun r_1 : Int => R r_1)) ∧ (((v0.kind : Int) == 6) = false → (((v0.kind : Int) == 5) = true → PC Tryz.prog gl 25 [Arg.mk .str step1] [.int .i64, .bool] (fun r_2 : Int × Bool => ((bif r_2.2 then (decide ((r_2.1 : Int) < ((List.length v0.items : Nat) : Int))) else false) = true → R r_2.1) ∧ ((bif r_2.2 then (decide ((r_2.1 : Int) < ((List.length v0.items : Nat) : Int))) else false) = false → R (-1)))) ∧ (((v0.kind : Int) == 5) = false → R (-1)))) :
    PC Tryz.prog gl 99 [Arg.mk .tree v0, Arg.mk .str step1] [.int .i64] R :=
  PC_of_form Tryz.mixed gl 34 ⟨[], [], [], []⟩ [Arg.mk .tree v0, Arg.mk .str step1] (rs := [.tmp 4]) (n := 31) Tryz.func99 (by kernel_rfl) (by kernel_rfl) (by kernel_rfl) (by kernel_rfl) H (by kernel_rfl)
theorem pu_scarfref06_node (gl : Fr) (v0 : Tr) (R : Bool → Prop)
    (H : ((bif (bif ((v0.kind : Int) != 6) then (decide ((((List.length v0.keys : Nat) : Int) : Int) > 0)) else false) then true else (bif (bif ((v0.kind : Int) != 6) then ((v0.kind : Int) != 5) else false) then (decide ((((List.length v0.items : Nat) : Int) : Int) > 0)) else false)) = true → R false) ∧ ((bif (bif ((v0.kind : Int) != 6) then (decide ((((List.length v0.keys : Nat) : Int) : Int) > 0)) else false) then true else (bif (bif ((v0.kind : Int) != 6) then ((v0.kind : Int) != 5) else false) then (decide ((((List.length v0.items : Nat) : Int) : Int) > 0)) else false)) = false → ∀ K_2 : Bool → Prop, (∀ x39_1 : Bool, ((x39_1 = true → R ((v0.text : ByteArray).toList == ((⟨#[]⟩ : ByteArray) : ByteArray).toList)) ∧ (x39_1 = false → (((v0.kind : Int) == 2) = true → R (bif ((v0.text : ByteArray).toList == ((⟨#[116, 114, 117, 101]⟩ : ByteArray) : ByteArray).toList) then true else ((v0.text : ByteArray).toList == ((⟨#[102, 97, 108, 115, 101]⟩ : ByteArray) : ByteArray).toList))) ∧ (((v0.kind : Int) == 2) = false → (((v0.kind : Int) == 3) = true → PC Tryz.prog gl 129 [Arg.mk .str v0.text] [.pair .bool (.pair .str (.int .i64)), .bool] (fun r_3 : (Bool × ByteArray × Int) × Bool => R r_3.2)) ∧ (((v0.kind : Int) == 3) = false → (((v0.kind : Int) == 4) = true → PC Tryz.prog gl 130 [Arg.mk .str v0.text] [.bool] (fun r_4 : Bool => R r_4)) ∧ (((v0.kind : Int) == 4) = false → (((v0.kind : Int) == 7) = true → PC Tryz.prog gl 129 [Arg.mk .str v0.text] [.pair .bool (.pair .str (.int .i64)), .bool] (fun r_5 : (Bool × ByteArray × Int) × Bool => PC Tryz.prog gl 131 [Arg.mk (.pair .bool (.pair .str (.int .i64))) (r_5.1.1, (r_5.1.2.1, r_5.1.2.2))] [.int .i64, .bool] (fun r_6 : Int × Bool => R (bif (bif r_5.2 then r_6.2 else false) then (decide ((r_6.1 : Int) ≥ 0)) else false)))) ∧ (((v0.kind : Int) == 7) = false → (((v0.kind : Int) == 6) = true → ∃ (I_8 : Int → Prop) (μ_9 : Int → Nat), I_8 0 ∧ ∀ i9_7 : Int, I_8 i9_7 → (((decide ((i9_7 : Int) < ((List.length v0.keys : Nat) : Int))) = true → ∃ y_19 : ByteArray, (0 ≤ (i9_7 : Int) ∧ v0.keys[(i9_7 : Int).toNat]? = some y_19) ∧ PC Tryz.prog gl 130 [Arg.mk .str y_19] [.bool] (fun r_20 : Bool => ((!r_20) = true → R false) ∧ ((!r_20) = false → ∃ (I_22 : Int → Prop) (μ_23 : Int → Nat), I_22 0 ∧ ∀ k11_21 : Int, I_22 k11_21 → (((decide ((k11_21 : Int) < i9_7)) = true → ∃ y_26 : ByteArray, (0 ≤ (k11_21 : Int) ∧ v0.keys[(k11_21 : Int).toNat]? = some y_26) ∧ ∃ y_27 : ByteArray, (0 ≤ (i9_7 : Int) ∧ v0.keys[(i9_7 : Int).toNat]? = some y_27) ∧ (((y_26 : ByteArray).toList == (y_27 : ByteArray).toList) = true → R false) ∧ (((y_26 : ByteArray).toList == (y_27 : ByteArray).toList) = false → (I_22 (IntKind.wrap .i64 (k11_21 + 1)) ∧ μ_23 (IntKind.wrap .i64 (k11_21 + 1)) < μ_23 k11_21))) ∧ ((decide ((k11_21 : Int) < i9_7)) = false → (I_8 (IntKind.wrap .i64 (i9_7 + 1)) ∧ μ_9 (IntKind.wrap .i64 (i9_7 + 1)) < μ_9 i9_7)))))) ∧ ((decide ((i9_7 : Int) < ((List.length v0.keys : Nat) : Int))) = false → R (bif ((v0.text : ByteArray).toList == ((⟨#[]⟩ : ByteArray) : ByteArray).toList) then ((((List.length v0.keys : Nat) : Int) : Int) == ((List.length v0.items : Nat) : Int)) else false)))) ∧ (((v0.kind : Int) == 6) = false → R false))))))) → K_2 x39_1) → (((v0.kind : Int) == 1) = true → K_2 ((v0.kind : Int) == 1)) ∧ (((v0.kind : Int) == 1) = false → K_2 ((v0.kind : Int) == 5)))) :
    PC Tryz.prog gl 102 [Arg.mk .tree v0] [.bool] R :=
  PC_of_form Tryz.mixed gl 34 ⟨[], [], [(20, ⟨[(9, .one (.dat (.int .i64)))], [], [1], [100576]⟩), (26, ⟨[(11, .one (.dat (.int .i64)))], [], [], [100704]⟩)], [(6, ⟨[(39, .one (.dat .bool))], [], [1], [102496]⟩)]⟩ [Arg.mk .tree v0] (rs := [.tmp 2]) (n := 135) Tryz.func102 (by kernel_rfl) (by kernel_rfl) (by kernel_rfl) (by kernel_rfl) H (by kernel_rfl)
theorem pu_scarfref01_wide (gl : Fr) (c0 : Int) (R : Int → Prop)
    (H : ((decide ((c0 : Int) < 128)) = true → R 1) ∧ ((decide ((c0 : Int) < 128)) = false → ((bif (decide ((c0 : Int) ≥ 194)) then (decide ((c0 : Int) ≤ 223)) else false) = true → R 2) ∧ ((bif (decide ((c0 : Int) ≥ 194)) then (decide ((c0 : Int) ≤ 223)) else false) = false → ((bif (decide ((c0 : Int) ≥ 224)) then (decide ((c0 : Int) ≤ 239)) else false) = true → R 3) ∧ ((bif (decide ((c0 : Int) ≥ 224)) then (decide ((c0 : Int) ≤ 239)) else false) = false → ((bif (decide ((c0 : Int) ≥ 240)) then (decide ((c0 : Int) ≤ 244)) else false) = true → R 4) ∧ ((bif (decide ((c0 : Int) ≥ 240)) then (decide ((c0 : Int) ≤ 244)) else false) = false → R 0))))) :
    PC Tryz.prog gl 103 [Arg.mk (.int .i64) c0] [.int .i64] R :=
  PC_of_form Tryz.mixed gl 34 ⟨[], [], [], []⟩ [Arg.mk (.int .i64) c0] (rs := [.tmp 2]) (n := 23) Tryz.func103 (by kernel_rfl) (by kernel_rfl) (by kernel_rfl) (by kernel_rfl) H (by kernel_rfl)
theorem pu_number_digits (gl : Fr) (s0 : ByteArray) (R : Bool → Prop)
    (H : ∃ (I_2 : (ByteArray × Nat) → Prop) (μ_3 : (ByteArray × Nat) → Nat), I_2 (s0, 0) ∧ ∀ b6_0_1 : ByteArray × Nat, I_2 b6_0_1 → (((nxB b6_0_1.1 b6_0_1.2) = true → (nxB b6_0_1.1 b6_0_1.2) = true ∧ ((bif (decide ((nxR b6_0_1.1 b6_0_1.2 : Int) < 48)) then true else (decide ((nxR b6_0_1.1 b6_0_1.2 : Int) > 57))) = true → R false) ∧ ((bif (decide ((nxR b6_0_1.1 b6_0_1.2 : Int) < 48)) then true else (decide ((nxR b6_0_1.1 b6_0_1.2 : Int) > 57))) = false → (I_2 (b6_0_1.1, nxP b6_0_1.1 b6_0_1.2) ∧ μ_3 (b6_0_1.1, nxP b6_0_1.1 b6_0_1.2) < μ_3 b6_0_1))) ∧ ((nxB b6_0_1.1 b6_0_1.2) = false → R (!((s0 : ByteArray).toList == ((⟨#[]⟩ : ByteArray) : ByteArray).toList))))) :
    PC Tryz.prog gl 114 [Arg.mk .str s0] [.bool] R :=
  PC_of_form Tryz.mixed gl 34 ⟨[], [], [(2, ⟨[], [(6, [.dat .iter])], [], [1000384]⟩)], []⟩ [Arg.mk .str s0] (rs := [.tmp 2]) (n := 18) Tryz.func114 (by kernel_rfl) (by kernel_rfl) (by kernel_rfl) (by kernel_rfl) H (by kernel_rfl)
theorem pu_number_read (gl : Fr) (s0 : ByteArray) (R : ((Bool × Bool × ByteArray × ByteArray × ByteArray) × Bool) → Prop)
    (H : PC Tryz.prog gl 138 [Arg.mk .str s0, Arg.mk .str (⟨#[45]⟩ : ByteArray)] [.str, .bool] (fun r_1 : ByteArray × Bool => PC Tryz.prog gl 139 [Arg.mk .str r_1.1, Arg.mk .str (⟨#[101, 69]⟩ : ByteArray)] [.str, .str, .bool] (fun r_2 : ByteArray × ByteArray × Bool => ∀ K_9 : ByteArray → Bool → Bool → ByteArray → ByteArray → ByteArray → Prop, (∀ exp4_3 : ByteArray, ∀ x_0_4 : Bool, ∀ x_1_5 : Bool, ∀ x_2_6 : ByteArray, ∀ x_3_7 : ByteArray, ∀ x_4_8 : ByteArray, (PC Tryz.prog gl 139 [Arg.mk .str r_2.1, Arg.mk .str (⟨#[46]⟩ : ByteArray)] [.str, .str, .bool] (fun r_20 : ByteArray × ByteArray × Bool => PC Tryz.prog gl 114 [Arg.mk .str r_20.1] [.bool] (fun r_21 : Bool => ∃ J_22 : Bool → Prop, (((!(!r_21)) && r_20.2.2) = true → PC Tryz.prog gl 114 [Arg.mk .str r_20.2.1] [.bool] J_22) ∧ ∀ r_23 : Bool, (((!(!r_21)) && r_20.2.2) = true → J_22 r_23) → ((bif (!r_21) then true else (bif r_20.2.2 then (!r_23) else false)) = true → R ((x_0_4, (x_1_5, (r_20.1, (r_20.2.1, exp4_3)))), false)) ∧ ((bif (!r_21) then true else (bif r_20.2.2 then (!r_23) else false)) = false → ((!((r_20.1 : ByteArray).toList == ((⟨#[48]⟩ : ByteArray) : ByteArray).toList)) = true → (0 ≤ (0 : Int) ∧ (0 : Int) < ((r_20.1).size : Int))) ∧ R ((x_0_4, (x_1_5, (r_20.1, (r_20.2.1, exp4_3)))), bif ((r_20.1 : ByteArray).toList == ((⟨#[48]⟩ : ByteArray) : ByteArray).toList) then true else ((byteAt r_20.1 (0 : Int).toNat : Int) != 48)))))) → K_9 exp4_3 x_0_4 x_1_5 x_2_6 x_3_7 x_4_8) → (r_2.2.2 = true → PC Tryz.prog gl 138 [Arg.mk .str r_2.2.1, Arg.mk .str (⟨#[45]⟩ : ByteArray)] [.str, .bool] (fun r_10 : ByteArray × Bool => ∀ K_17 : ByteArray → Bool → Bool → ByteArray → ByteArray → ByteArray → Prop, (∀ exp4_11 : ByteArray, ∀ x_0_12 : Bool, ∀ x_1_13 : Bool, ∀ x_2_14 : ByteArray, ∀ x_3_15 : ByteArray, ∀ x_4_16 : ByteArray, (PC Tryz.prog gl 114 [Arg.mk .str exp4_11] [.bool] (fun r_19 : Bool => ((!r_19) = true → R ((x_0_12, (x_1_13, (x_2_14, (x_3_15, x_4_16)))), false)) ∧ ((!r_19) = false → K_9 exp4_11 x_0_12 x_1_13 x_2_14 x_3_15 x_4_16))) → K_17 exp4_11 x_0_12 x_1_13 x_2_14 x_3_15 x_4_16) → ((!r_10.2) = true → PC Tryz.prog gl 140 [Arg.mk .str r_10.1, Arg.mk .str (⟨#[43]⟩ : ByteArray)] [.str] (fun r_18 : ByteArray => K_17 r_18 r_1.2 r_10.2 (⟨#[]⟩ : ByteArray) (⟨#[]⟩ : ByteArray) (⟨#[]⟩ : ByteArray))) ∧ ((!r_10.2) = false → K_17 r_10.1 r_1.2 r_10.2 (⟨#[]⟩ : ByteArray) (⟨#[]⟩ : ByteArray) (⟨#[]⟩ : ByteArray)))) ∧ (r_2.2.2 = false → K_9 r_2.2.1 r_1.2 false (⟨#[]⟩ : ByteArray) (⟨#[]⟩ : ByteArray) (⟨#[]⟩ : ByteArray))))) :
    PC Tryz.prog gl 116 [Arg.mk .str s0] [.pair .bool (.pair .bool (.pair .str (.pair .str .str))), .bool] R :=
  PC_of_form Tryz.mixed gl 34 ⟨[], [(14, 8, [], [0, 1, 2, 3, 4, 5, 6, 7], [4, 5, 6, 7])], [], [(9, ⟨[(4, .one (.dat .str))], [(2, [.dat .bool, .dat .bool, .dat .str, .dat .str, .dat .str])], [], [100256, 1000128, 1000129, 1000130, 1000131, 1000132]⟩), (7, ⟨[(4, .one (.dat .str))], [(2, [.dat .bool, .dat .bool, .dat .str, .dat .str, .dat .str])], [], [100256, 1000128, 1000129, 1000130, 1000131, 1000132]⟩)]⟩ [Arg.mk .str s0] (rs := [.cell 2 131, .tmp 3]) (n := 69) Tryz.func116 (by kernel_rfl) (by kernel_rfl) (by kernel_rfl) (by kernel_rfl) H (by kernel_rfl)
theorem pu_unicode_utf8_word_string (gl : Fr) (s0 : ByteArray) (R : Int → Prop)
    (H : (false = true → (0 ≤ (0 : Int) ∧ (0 : Int) < ((s0).size : Int)) ∧ (0 ≤ (1 : Int) ∧ (1 : Int) < ((s0).size : Int)) ∧ (0 ≤ (2 : Int) ∧ (2 : Int) < ((s0).size : Int)) ∧ (0 ≤ (3 : Int) ∧ (3 : Int) < ((s0).size : Int)) ∧ R (IntKind.wrap .u64 (((BitVec.ofInt (IntKind.bits .u64) (IntKind.wrap .u64 (((BitVec.ofInt (IntKind.bits .u64) (IntKind.wrap .u64 (((BitVec.ofInt (IntKind.bits .u64) (IntKind.wrap .u64 (byteAt s0 (0 : Int).toNat))) ||| (BitVec.ofInt (IntKind.bits .u64) (IntKind.wrap .u64 ((IntKind.wrap .u64 (byteAt s0 (1 : Int).toNat)) * 2 ^ 8)))).toNat : Int))) ||| (BitVec.ofInt (IntKind.bits .u64) (IntKind.wrap .u64 ((IntKind.wrap .u64 (byteAt s0 (2 : Int).toNat)) * 2 ^ 16)))).toNat : Int))) ||| (BitVec.ofInt (IntKind.bits .u64) (IntKind.wrap .u64 ((IntKind.wrap .u64 (byteAt s0 (3 : Int).toNat)) * 2 ^ 24)))).toNat : Int))) ∧ (false = false → (0 ≤ (0 : Int) ∧ (0 : Int) < ((s0).size : Int)) ∧ (0 ≤ (1 : Int) ∧ (1 : Int) < ((s0).size : Int)) ∧ (0 ≤ (2 : Int) ∧ (2 : Int) < ((s0).size : Int)) ∧ (0 ≤ (3 : Int) ∧ (3 : Int) < ((s0).size : Int)) ∧ (0 ≤ (4 : Int) ∧ (4 : Int) < ((s0).size : Int)) ∧ (0 ≤ (5 : Int) ∧ (5 : Int) < ((s0).size : Int)) ∧ (0 ≤ (6 : Int) ∧ (6 : Int) < ((s0).size : Int)) ∧ (0 ≤ (7 : Int) ∧ (7 : Int) < ((s0).size : Int)) ∧ R (IntKind.wrap .u64 (((BitVec.ofInt (IntKind.bits .u64) (IntKind.wrap .u64 (((BitVec.ofInt (IntKind.bits .u64) (IntKind.wrap .u64 (((BitVec.ofInt (IntKind.bits .u64) (IntKind.wrap .u64 (((BitVec.ofInt (IntKind.bits .u64) (IntKind.wrap .u64 (((BitVec.ofInt (IntKind.bits .u64) (IntKind.wrap .u64 (((BitVec.ofInt (IntKind.bits .u64) (IntKind.wrap .u64 (((BitVec.ofInt (IntKind.bits .u64) (IntKind.wrap .u64 (byteAt s0 (0 : Int).toNat))) ||| (BitVec.ofInt (IntKind.bits .u64) (IntKind.wrap .u64 ((IntKind.wrap .u64 (byteAt s0 (1 : Int).toNat)) * 2 ^ 8)))).toNat : Int))) ||| (BitVec.ofInt (IntKind.bits .u64) (IntKind.wrap .u64 ((IntKind.wrap .u64 (byteAt s0 (2 : Int).toNat)) * 2 ^ 16)))).toNat : Int))) ||| (BitVec.ofInt (IntKind.bits .u64) (IntKind.wrap .u64 ((IntKind.wrap .u64 (byteAt s0 (3 : Int).toNat)) * 2 ^ 24)))).toNat : Int))) ||| (BitVec.ofInt (IntKind.bits .u64) (IntKind.wrap .u64 ((IntKind.wrap .u64 (byteAt s0 (4 : Int).toNat)) * 2 ^ 32)))).toNat : Int))) ||| (BitVec.ofInt (IntKind.bits .u64) (IntKind.wrap .u64 ((IntKind.wrap .u64 (byteAt s0 (5 : Int).toNat)) * 2 ^ 40)))).toNat : Int))) ||| (BitVec.ofInt (IntKind.bits .u64) (IntKind.wrap .u64 ((IntKind.wrap .u64 (byteAt s0 (6 : Int).toNat)) * 2 ^ 48)))).toNat : Int))) ||| (BitVec.ofInt (IntKind.bits .u64) (IntKind.wrap .u64 ((IntKind.wrap .u64 (byteAt s0 (7 : Int).toNat)) * 2 ^ 56)))).toNat : Int)))) :
    PC Tryz.prog gl 121 [Arg.mk .str s0] [.int .u64] R :=
  PC_of_form Tryz.mixed gl 34 ⟨[], [], [], []⟩ [Arg.mk .str s0] (rs := [.tmp 2]) (n := 59) Tryz.func121 (by kernel_rfl) (by kernel_rfl) (by kernel_rfl) (by kernel_rfl) H (by kernel_rfl)
theorem pu_number_Int (gl : Fr) (n0 : Bool × ByteArray × Int) (R : (Int × Bool) → Prop)
    (H : PC Tryz.prog gl 80 [Arg.mk (.pair .bool (.pair .str (.int .i64))) (n0.1, (n0.2.1, n0.2.2))] [.bool] (fun r_1 : Bool => ((bif (bif (!r_1) then true else (decide ((n0.2.2 : Int) < 0))) then true else (decide ((IntKind.wrap .i64 (((n0.2.1).size : Int) + n0.2.2) : Int) > 19))) = true → R (0, false)) ∧ ((bif (bif (!r_1) then true else (decide ((n0.2.2 : Int) < 0))) then true else (decide ((IntKind.wrap .i64 (((n0.2.1).size : Int) + n0.2.2) : Int) > 19))) = false → PC Tryz.prog gl 150 [Arg.mk .str (⟨#[48]⟩ : ByteArray), Arg.mk (.int .i64) n0.2.2] [.str] (fun r_2 : ByteArray => fits63 ((n0.2.1).size + (r_2).size) ∧ ∀ K_4 : ByteArray → Prop, (∀ s4_3 : ByteArray, ((((s4_3 : ByteArray).toList == ((⟨#[]⟩ : ByteArray) : ByteArray).toList) = true → R (0, true)) ∧ (((s4_3 : ByteArray).toList == ((⟨#[]⟩ : ByteArray) : ByteArray).toList) = false → PC Tryz.prog gl 151 [Arg.mk .str s4_3, Arg.mk (.int .i64) 10, Arg.mk (.int .i64) 64] [.int .i64, .err] (fun r_5 : Int × Bool => ((!r_5.2) = true → R (0, false)) ∧ ((!r_5.2) = false → R (r_5.1, true))))) → K_4 s4_3) → (n0.1 = true → fits63 (((⟨#[45]⟩ : ByteArray)).size + (n0.2.1 ++ r_2).size) ∧ K_4 ((⟨#[45]⟩ : ByteArray) ++ (n0.2.1 ++ r_2))) ∧ (n0.1 = false → K_4 (n0.2.1 ++ r_2)))))) :
    PC Tryz.prog gl 127 [Arg.mk (.pair .bool (.pair .str (.int .i64))) n0] [.int .i64, .bool] R :=
  PC_of_form Tryz.mixed gl 34 ⟨[], [(3, 5, [], [0, 1, 2, 3, 4], [])], [], [(6, ⟨[(4, .one (.dat .str))], [], [], [100256]⟩)]⟩ [Arg.mk (.pair .bool (.pair .str (.int .i64))) n0] (rs := [.tmp 2, .tmp 3]) (n := 44) Tryz.func127 (by kernel_rfl) (by kernel_rfl) (by kernel_rfl) (by kernel_rfl) H (by kernel_rfl)
theorem pu_scarfref06_decimal (gl : Fr) (s0 : ByteArray) (R : ((Bool × ByteArray × Int) × Bool) → Prop)
    (H : PC Tryz.prog gl 152 [Arg.mk .str s0] [.pair .bool (.pair .str (.int .i64)), .int .i64] (fun r_1 : (Bool × ByteArray × Int) × Int => ∃ J_2 : ByteArray → Prop, (((r_1.2 : Int) == 0) = true → PC Tryz.prog gl 153 [Arg.mk (.pair .bool (.pair .str (.int .i64))) (r_1.1.1, (r_1.1.2.1, r_1.1.2.2))] [.str] J_2) ∧ ∀ r_3 : ByteArray, (((r_1.2 : Int) == 0) = true → J_2 r_3) → R ((r_1.1.1, (r_1.1.2.1, r_1.1.2.2)), bif ((r_1.2 : Int) == 0) then ((r_3 : ByteArray).toList == (s0 : ByteArray).toList) else false))) :
    PC Tryz.prog gl 129 [Arg.mk .str s0] [.pair .bool (.pair .str (.int .i64)), .bool] R :=
  PC_of_form Tryz.mixed gl 34 ⟨[], [(2, 9, [], [0, 1, 2, 3, 4, 6, 5, 7, 8], [6, 7, 8])], [], []⟩ [Arg.mk .str s0] (rs := [.cell 2 80, .tmp 3]) (n := 20) Tryz.func129 (by kernel_rfl) (by kernel_rfl) (by kernel_rfl) (by kernel_rfl) H (by kernel_rfl)
theorem pu_scarfref06_utf (gl : Fr) (s0 : ByteArray) (R : Bool → Prop)
    (H : PC Tryz.prog gl 51 [Arg.mk .str s0] [.int .i64, .bool] (fun r_1 : Int × Bool => R r_1.2)) :
    PC Tryz.prog gl 130 [Arg.mk .str s0] [.bool] R :=
  PC_of_form Tryz.mixed gl 34 ⟨[], [], [], []⟩ [Arg.mk .str s0] (rs := [.tmp 2]) (n := 11) Tryz.func130 (by kernel_rfl) (by kernel_rfl) (by kernel_rfl) (by kernel_rfl) H (by kernel_rfl)
theorem pu_scarfref02_Int (gl : Fr) (n0 : Bool × ByteArray × Int) (R : (Int × Bool) → Prop)
    (H : PC Tryz.prog gl 154 [Arg.mk (.pair .bool (.pair .str (.int .i64))) (n0.1, (n0.2.1, n0.2.2))] [.bool] (fun r_1 : Bool => ((bif (bif (!r_1) then true else (decide ((n0.2.2 : Int) < 0))) then true else (decide ((IntKind.wrap .i64 (((n0.2.1).size : Int) + n0.2.2) : Int) > 19))) = true → R (0, false)) ∧ ((bif (bif (!r_1) then true else (decide ((n0.2.2 : Int) < 0))) then true else (decide ((IntKind.wrap .i64 (((n0.2.1).size : Int) + n0.2.2) : Int) > 19))) = false → ∃ (I_4 : Int → Int → Prop) (μ_5 : Int → Int → Nat), I_4 0 0 ∧ ∀ v5_2 : Int, ∀ i6_3 : Int, I_4 v5_2 i6_3 → (((decide ((i6_3 : Int) < (IntKind.wrap .i64 (((n0.2.1).size : Int) + n0.2.2)))) = true → ∀ K_9 : Int → Prop, (∀ d7_8 : Int, (IntKind.i64 = IntKind.i64 ∧ (10 : Int) ≠ 0 ∧ ((decide ((v5_2 : Int) < (IntKind.wrap .i64 ((IntKind.wrap .i64 ((-9223372036854775808) + d7_8) : Int).tdiv 10)))) = true → R (0, false)) ∧ ((decide ((v5_2 : Int) < (IntKind.wrap .i64 ((IntKind.wrap .i64 ((-9223372036854775808) + d7_8) : Int).tdiv 10)))) = false → (I_4 (IntKind.wrap .i64 ((IntKind.wrap .i64 (10 * v5_2)) - d7_8)) (IntKind.wrap .i64 (i6_3 + 1)) ∧ μ_5 (IntKind.wrap .i64 ((IntKind.wrap .i64 (10 * v5_2)) - d7_8)) (IntKind.wrap .i64 (i6_3 + 1)) < μ_5 v5_2 i6_3))) → K_9 d7_8) → ((decide ((i6_3 : Int) < ((n0.2.1).size : Int))) = true → (0 ≤ (i6_3 : Int) ∧ (i6_3 : Int) < ((n0.2.1).size : Int)) ∧ K_9 (IntKind.wrap .i64 (IntKind.wrap .u8 ((byteAt n0.2.1 (i6_3 : Int).toNat) - 48)))) ∧ ((decide ((i6_3 : Int) < ((n0.2.1).size : Int))) = false → K_9 0)) ∧ ((decide ((i6_3 : Int) < (IntKind.wrap .i64 (((n0.2.1).size : Int) + n0.2.2)))) = false → (n0.1 = true → R (v5_2, true)) ∧ (n0.1 = false → (((v5_2 : Int) == (-9223372036854775808)) = true → R (0, false)) ∧ (((v5_2 : Int) == (-9223372036854775808)) = false → R (IntKind.wrap .i64 (0 - v5_2), true)))))))) :
    PC Tryz.prog gl 131 [Arg.mk (.pair .bool (.pair .str (.int .i64))) n0] [.int .i64, .bool] R :=
  PC_of_form Tryz.mixed gl 34 ⟨[], [], [(6, ⟨[(5, .one (.dat (.int .i64))), (6, .one (.dat (.int .i64)))], [], [1], [100320, 100384]⟩)], [(11, ⟨[(7, .one (.dat (.int .i64)))], [], [], [100448]⟩)]⟩ [Arg.mk (.pair .bool (.pair .str (.int .i64))) n0] (rs := [.tmp 2, .tmp 3]) (n := 63) Tryz.func131 (by kernel_rfl) (by kernel_rfl) (by kernel_rfl) (by kernel_rfl) H (by kernel_rfl)
theorem pu_number_cut (gl : Fr) (s0 : ByteArray) (at1 : ByteArray) (R : (ByteArray × ByteArray × Bool) → Prop)
    (H : ∃ (I_2 : Int → Prop) (μ_3 : Int → Nat), I_2 0 ∧ ∀ x10_1 : Int, I_2 x10_1 → (((decide ((x10_1 : Int) < ((s0).size : Int))) = true → (0 ≤ (x10_1 : Int) ∧ (x10_1 : Int) < ((s0).size : Int)) ∧ PC Tryz.prog gl 132 [Arg.mk .str at1, Arg.mk (.int .u8) (byteAt s0 (x10_1 : Int).toNat)] [.int .i64] (fun r_5 : Int => ((decide ((r_5 : Int) ≥ 0)) = true → (0 ≤ (0 : Int) ∧ (0 : Int) ≤ x10_1 ∧ (x10_1 : Int) ≤ ((s0).size : Int)) ∧ (0 ≤ (IntKind.wrap .i64 (x10_1 + 1) : Int) ∧ (IntKind.wrap .i64 (x10_1 + 1) : Int) ≤ ((s0).size : Int) ∧ (((s0).size : Int) : Int) ≤ ((s0).size : Int)) ∧ R ((s0).extract (0 : Int).toNat (x10_1 : Int).toNat, (s0).extract (IntKind.wrap .i64 (x10_1 + 1) : Int).toNat (((s0).size : Int) : Int).toNat, true)) ∧ ((decide ((r_5 : Int) ≥ 0)) = false → (I_2 (IntKind.wrap .i64 (x10_1 + 1)) ∧ μ_3 (IntKind.wrap .i64 (x10_1 + 1)) < μ_3 x10_1)))) ∧ ((decide ((x10_1 : Int) < ((s0).size : Int))) = false → R (s0, (⟨#[]⟩ : ByteArray), false)))) :
    PC Tryz.prog gl 139 [Arg.mk .str s0, Arg.mk .str at1] [.str, .str, .bool] R :=
  PC_of_form Tryz.mixed gl 34 ⟨[], [], [(2, ⟨[(10, .one (.dat (.int .i64)))], [], [], [100640]⟩)], []⟩ [Arg.mk .str s0, Arg.mk .str at1] (rs := [.tmp 4, .tmp 5, .tmp 6]) (n := 28) Tryz.func139 (by kernel_rfl) (by kernel_rfl) (by kernel_rfl) (by kernel_rfl) H (by kernel_rfl)
theorem pu_scarfref02_Parse (gl : Fr) (s0 : ByteArray) (R : ((Bool × ByteArray × Int) × Int) → Prop)
    (H : PC Tryz.prog gl 168 [Arg.mk .str s0] [.bool, .str, .str, .bool, .str, .bool] (fun r_1 : Bool × ByteArray × ByteArray × Bool × ByteArray × Bool => ((!r_1.2.2.2.2.2) = true → R ((false, ((⟨#[]⟩ : ByteArray), 0)), 2)) ∧ ((!r_1.2.2.2.2.2) = false → ((decide ((IntKind.wrap .i64 (((r_1.2.1).size : Int) + ((r_1.2.2.1).size : Int)) : Int) > 1000)) = true → R ((false, ((⟨#[]⟩ : ByteArray), 0)), 3)) ∧ ((decide ((IntKind.wrap .i64 (((r_1.2.1).size : Int) + ((r_1.2.2.1).size : Int)) : Int) > 1000)) = false → ∃ (I_6 : ByteArray → Bool → ByteArray → Int → Prop) (μ_7 : ByteArray → Bool → ByteArray → Int → Nat), I_6 r_1.2.2.2.2.1 false (⟨#[]⟩ : ByteArray) 0 ∧ ∀ exp8_2 : ByteArray, ∀ b2_0_3 : Bool, ∀ b2_1_4 : ByteArray, ∀ b2_2_5 : Int, I_6 exp8_2 b2_0_3 b2_1_4 b2_2_5 → (((decide ((((exp8_2).size : Int) : Int) > 1)) = true → (0 ≤ (0 : Int) ∧ (0 : Int) < ((exp8_2).size : Int))) ∧ ((bif (decide ((((exp8_2).size : Int) : Int) > 1)) then ((byteAt exp8_2 (0 : Int).toNat : Int) == 48) else false) = true → (0 ≤ (1 : Int) ∧ (1 : Int) ≤ ((exp8_2).size : Int) ∧ (((exp8_2).size : Int) : Int) ≤ ((exp8_2).size : Int)) ∧ (I_6 ((exp8_2).extract (1 : Int).toNat (((exp8_2).size : Int) : Int).toNat) b2_0_3 b2_1_4 b2_2_5 ∧ μ_7 ((exp8_2).extract (1 : Int).toNat (((exp8_2).size : Int) : Int).toNat) b2_0_3 b2_1_4 b2_2_5 < μ_7 exp8_2 b2_0_3 b2_1_4 b2_2_5)) ∧ ((bif (decide ((((exp8_2).size : Int) : Int) > 1)) then ((byteAt exp8_2 (0 : Int).toNat : Int) == 48) else false) = false → ((decide ((((exp8_2).size : Int) : Int) > 9)) = true → R ((false, ((⟨#[]⟩ : ByteArray), 0)), 4)) ∧ ((decide ((((exp8_2).size : Int) : Int) > 9)) = false → ∃ (I_70 : Int → Int → Bool → ByteArray → Int → Prop) (μ_71 : Int → Int → Bool → ByteArray → Int → Nat), I_70 0 0 b2_0_3 b2_1_4 b2_2_5 ∧ ∀ e10_65 : Int, ∀ i11_66 : Int, ∀ b2_0_67 : Bool, ∀ b2_1_68 : ByteArray, ∀ b2_2_69 : Int, I_70 e10_65 i11_66 b2_0_67 b2_1_68 b2_2_69 → (((decide ((i11_66 : Int) < ((exp8_2).size : Int))) = true → (0 ≤ (i11_66 : Int) ∧ (i11_66 : Int) < ((exp8_2).size : Int)) ∧ (I_70 (IntKind.wrap .i64 ((IntKind.wrap .i64 (10 * e10_65)) + (IntKind.wrap .i64 (IntKind.wrap .u8 ((byteAt exp8_2 (i11_66 : Int).toNat) - 48))))) (IntKind.wrap .i64 (i11_66 + 1)) b2_0_67 b2_1_68 b2_2_69 ∧ μ_71 (IntKind.wrap .i64 ((IntKind.wrap .i64 (10 * e10_65)) + (IntKind.wrap .i64 (IntKind.wrap .u8 ((byteAt exp8_2 (i11_66 : Int).toNat) - 48))))) (IntKind.wrap .i64 (i11_66 + 1)) b2_0_67 b2_1_68 b2_2_69 < μ_71 e10_65 i11_66 b2_0_67 b2_1_68 b2_2_69)) ∧ ((decide ((i11_66 : Int) < ((exp8_2).size : Int))) = false → ∀ K_101 : Int → Bool → ByteArray → Int → Prop, (∀ e10_97 : Int, ∀ b2_0_98 : Bool, ∀ b2_1_99 : ByteArray, ∀ b2_2_100 : Int, (fits63 ((r_1.2.1).size + (r_1.2.2.1).size) ∧ ∃ (I_106 : ByteArray → Bool → ByteArray → Int → Prop) (μ_107 : ByteArray → Bool → ByteArray → Int → Nat), I_106 (r_1.2.1 ++ r_1.2.2.1) b2_0_98 b2_1_99 b2_2_100 ∧ ∀ d12_102 : ByteArray, ∀ b2_0_103 : Bool, ∀ b2_1_104 : ByteArray, ∀ b2_2_105 : Int, I_106 d12_102 b2_0_103 b2_1_104 b2_2_105 → (((decide ((((d12_102).size : Int) : Int) > 0)) = true → (0 ≤ (0 : Int) ∧ (0 : Int) < ((d12_102).size : Int))) ∧ ((bif (decide ((((d12_102).size : Int) : Int) > 0)) then ((byteAt d12_102 (0 : Int).toNat : Int) == 48) else false) = true → (0 ≤ (1 : Int) ∧ (1 : Int) ≤ ((d12_102).size : Int) ∧ (((d12_102).size : Int) : Int) ≤ ((d12_102).size : Int)) ∧ (I_106 ((d12_102).extract (1 : Int).toNat (((d12_102).size : Int) : Int).toNat) b2_0_103 b2_1_104 b2_2_105 ∧ μ_107 ((d12_102).extract (1 : Int).toNat (((d12_102).size : Int) : Int).toNat) b2_0_103 b2_1_104 b2_2_105 < μ_107 d12_102 b2_0_103 b2_1_104 b2_2_105)) ∧ ((bif (decide ((((d12_102).size : Int) : Int) > 0)) then ((byteAt d12_102 (0 : Int).toNat : Int) == 48) else false) = false → (((d12_102 : ByteArray).toList == ((⟨#[]⟩ : ByteArray) : ByteArray).toList) = true → R ((false, ((⟨#[]⟩ : ByteArray), 0)), 0)) ∧ (((d12_102 : ByteArray).toList == ((⟨#[]⟩ : ByteArray) : ByteArray).toList) = false → ∃ (I_120 : Int → ByteArray → Bool → ByteArray → Int → Prop) (μ_121 : Int → ByteArray → Bool → ByteArray → Int → Nat), I_120 (IntKind.wrap .i64 (e10_97 - ((r_1.2.2.1).size : Int))) d12_102 b2_0_103 b2_1_104 b2_2_105 ∧ ∀ e10_115 : Int, ∀ d12_116 : ByteArray, ∀ b2_0_117 : Bool, ∀ b2_1_118 : ByteArray, ∀ b2_2_119 : Int, I_120 e10_115 d12_116 b2_0_117 b2_1_118 b2_2_119 → ((0 ≤ (IntKind.wrap .i64 (((d12_116).size : Int) - 1) : Int) ∧ (IntKind.wrap .i64 (((d12_116).size : Int) - 1) : Int) < ((d12_116).size : Int)) ∧ (((byteAt d12_116 (IntKind.wrap .i64 (((d12_116).size : Int) - 1) : Int).toNat : Int) == 48) = true → (0 ≤ (0 : Int) ∧ (0 : Int) ≤ (IntKind.wrap .i64 (((d12_116).size : Int) - 1)) ∧ (IntKind.wrap .i64 (((d12_116).size : Int) - 1) : Int) ≤ ((d12_116).size : Int)) ∧ (I_120 (IntKind.wrap .i64 (e10_115 + 1)) ((d12_116).extract (0 : Int).toNat (IntKind.wrap .i64 (((d12_116).size : Int) - 1) : Int).toNat) b2_0_117 b2_1_118 b2_2_119 ∧ μ_121 (IntKind.wrap .i64 (e10_115 + 1)) ((d12_116).extract (0 : Int).toNat (IntKind.wrap .i64 (((d12_116).size : Int) - 1) : Int).toNat) b2_0_117 b2_1_118 b2_2_119 < μ_121 e10_115 d12_116 b2_0_117 b2_1_118 b2_2_119)) ∧ (((byteAt d12_116 (IntKind.wrap .i64 (((d12_116).size : Int) - 1) : Int).toNat : Int) == 48) = false → ((bif (decide ((e10_115 : Int) < (-1000000))) then true else (decide ((e10_115 : Int) > 1000000))) = true → R ((false, ((⟨#[]⟩ : ByteArray), 0)), 4)) ∧ ((bif (decide ((e10_115 : Int) < (-1000000))) then true else (decide ((e10_115 : Int) > 1000000))) = false → R ((r_1.1, (d12_116, e10_115)), 0)))))))) → K_101 e10_97 b2_0_98 b2_1_99 b2_2_100) → (r_1.2.2.2.1 = true → K_101 (IntKind.wrap .i64 (0 - e10_65)) b2_0_67 b2_1_68 b2_2_69) ∧ (r_1.2.2.2.1 = false → K_101 e10_65 b2_0_67 b2_1_68 b2_2_69)))))))))) :
    PC Tryz.prog gl 152 [Arg.mk .str s0] [.pair .bool (.pair .str (.int .i64)), .int .i64] R :=
  PC_of_form Tryz.mixed gl 34 ⟨[], [], [(6, ⟨[(8, .one (.dat .str))], [(2, [.dat .bool, .dat .str, .dat (.int .i64)])], [], [100512, 1000128, 1000129, 1000130]⟩), (12, ⟨[(10, .one (.dat (.int .i64))), (11, .one (.dat (.int .i64)))], [(2, [.dat .bool, .dat .str, .dat (.int .i64)])], [], [100640, 100704, 1000128, 1000129, 1000130]⟩), (19, ⟨[(12, .one (.dat .str))], [(2, [.dat .bool, .dat .str, .dat (.int .i64)])], [], [100768, 1000128, 1000129, 1000130]⟩), (23, ⟨[(10, .one (.dat (.int .i64))), (12, .one (.dat .str))], [(2, [.dat .bool, .dat .str, .dat (.int .i64)])], [], [100640, 100768, 1000128, 1000129, 1000130]⟩)], [(17, ⟨[(10, .one (.dat (.int .i64)))], [(2, [.dat .bool, .dat .str, .dat (.int .i64)])], [], [100640, 1000128, 1000129, 1000130]⟩)]⟩ [Arg.mk .str s0] (rs := [.cell 2 80, .tmp 3]) (n := 107) Tryz.func152 (by kernel_rfl) (by kernel_rfl) (by kernel_rfl) (by kernel_rfl) H (by kernel_rfl)
theorem pu_scarfref02_Text (gl : Fr) (n0 : Bool × ByteArray × Int) (R : ByteArray → Prop)
    (H : PC Tryz.prog gl 154 [Arg.mk (.pair .bool (.pair .str (.int .i64))) (n0.1, (n0.2.1, n0.2.2))] [.bool] (fun r_1 : Bool => ((!r_1) = true → R (⟨#[]⟩ : ByteArray)) ∧ ((!r_1) = false → PC Tryz.prog gl 169 [Arg.mk (.pair .bool (.pair .str (.int .i64))) (n0.1, (n0.2.1, n0.2.2))] [.bool] (fun r_2 : Bool => (r_2 = true → R (⟨#[48]⟩ : ByteArray)) ∧ (r_2 = false → ∀ K_4 : ByteArray → Prop, (∀ s4_3 : ByteArray, ((((n0.2.2 : Int) != 0) = true → fits63 ((s4_3).size + ((⟨#[101]⟩ : ByteArray)).size) ∧ PC Tryz.prog gl 170 [Arg.mk (.int .i64) n0.2.2] [.str] (fun r_5 : ByteArray => fits63 ((s4_3 ++ (⟨#[101]⟩ : ByteArray)).size + (r_5).size) ∧ R ((s4_3 ++ (⟨#[101]⟩ : ByteArray)) ++ r_5))) ∧ (((n0.2.2 : Int) != 0) = false → R s4_3)) → K_4 s4_3) → (n0.1 = true → fits63 (((⟨#[45]⟩ : ByteArray)).size + (n0.2.1).size) ∧ K_4 ((⟨#[45]⟩ : ByteArray) ++ n0.2.1)) ∧ (n0.1 = false → K_4 n0.2.1)))))) :
    PC Tryz.prog gl 153 [Arg.mk (.pair .bool (.pair .str (.int .i64))) n0] [.str] R :=
  PC_of_form Tryz.mixed gl 34 ⟨[], [], [], [(9, ⟨[(4, .one (.dat .str))], [], [1], [100256]⟩)]⟩ [Arg.mk (.pair .bool (.pair .str (.int .i64))) n0] (rs := [.tmp 2]) (n := 27) Tryz.func153 (by kernel_rfl) (by kernel_rfl) (by kernel_rfl) (by kernel_rfl) H (by kernel_rfl)
theorem pu_scarfref02_Right (gl : Fr) (n0 : Bool × ByteArray × Int) (R : Bool → Prop)
    (H : PC Tryz.prog gl 169 [Arg.mk (.pair .bool (.pair .str (.int .i64))) (n0.1, (n0.2.1, n0.2.2))] [.bool] (fun r_1 : Bool => (r_1 = true → R true) ∧ (r_1 = false → PC Tryz.prog gl 171 [Arg.mk .str n0.2.1] [.bool] (fun r_2 : Bool => ((bif r_2 then (decide ((((n0.2.1).size : Int) : Int) ≤ 1000)) else false) = true → (0 ≤ (0 : Int) ∧ (0 : Int) < ((n0.2.1).size : Int))) ∧ ((bif (bif r_2 then (decide ((((n0.2.1).size : Int) : Int) ≤ 1000)) else false) then ((byteAt n0.2.1 (0 : Int).toNat : Int) != 48) else false) = true → (0 ≤ (IntKind.wrap .i64 (((n0.2.1).size : Int) - 1) : Int) ∧ (IntKind.wrap .i64 (((n0.2.1).size : Int) - 1) : Int) < ((n0.2.1).size : Int))) ∧ R (bif (bif (bif (bif (bif r_2 then (decide ((((n0.2.1).size : Int) : Int) ≤ 1000)) else false) then ((byteAt n0.2.1 (0 : Int).toNat : Int) != 48) else false) then ((byteAt n0.2.1 (IntKind.wrap .i64 (((n0.2.1).size : Int) - 1) : Int).toNat : Int) != 48) else false) then (decide ((n0.2.2 : Int) ≥ (-1000000))) else false) then (decide ((n0.2.2 : Int) ≤ 1000000)) else false))))) :
    PC Tryz.prog gl 154 [Arg.mk (.pair .bool (.pair .str (.int .i64))) n0] [.bool] R :=
  PC_of_form Tryz.mixed gl 34 ⟨[], [], [], []⟩ [Arg.mk (.pair .bool (.pair .str (.int .i64))) n0] (rs := [.tmp 2]) (n := 42) Tryz.func154 (by kernel_rfl) (by kernel_rfl) (by kernel_rfl) (by kernel_rfl) H (by kernel_rfl)
theorem pu_scarfref02_parts (gl : Fr) (s0 : ByteArray) (R : (Bool × ByteArray × ByteArray × Bool × ByteArray × Bool) → Prop)
    (H : ((decide ((((s0).size : Int) : Int) > 0)) = true → (0 ≤ (0 : Int) ∧ (0 : Int) < ((s0).size : Int))) ∧ ∀ K_2 : ByteArray → Prop, (∀ s0_1 : ByteArray, (∃ (I_4 : Int → Prop) (μ_5 : Int → Nat), I_4 0 ∧ ∀ k9_3 : Int, I_4 k9_3 → (((decide ((k9_3 : Int) < ((s0_1).size : Int))) = true → (0 ≤ (k9_3 : Int) ∧ (k9_3 : Int) < ((s0_1).size : Int))) ∧ ((bif (decide ((k9_3 : Int) < ((s0_1).size : Int))) then ((byteAt s0_1 (k9_3 : Int).toNat : Int) != 101) else false) = true → (0 ≤ (k9_3 : Int) ∧ (k9_3 : Int) < ((s0_1).size : Int))) ∧ ((bif (bif (decide ((k9_3 : Int) < ((s0_1).size : Int))) then ((byteAt s0_1 (k9_3 : Int).toNat : Int) != 101) else false) then ((byteAt s0_1 (k9_3 : Int).toNat : Int) != 69) else false) = true → (I_4 (IntKind.wrap .i64 (k9_3 + 1)) ∧ μ_5 (IntKind.wrap .i64 (k9_3 + 1)) < μ_5 k9_3)) ∧ ((bif (bif (decide ((k9_3 : Int) < ((s0_1).size : Int))) then ((byteAt s0_1 (k9_3 : Int).toNat : Int) != 101) else false) then ((byteAt s0_1 (k9_3 : Int).toNat : Int) != 69) else false) = false → ∀ K_32 : ByteArray → Bool → Prop, (∀ exp10_30 : ByteArray, ∀ minus11_31 : Bool, ((0 ≤ (0 : Int) ∧ (0 : Int) ≤ k9_3 ∧ (k9_3 : Int) ≤ ((s0_1).size : Int)) ∧ ∃ (I_34 : Int → Prop) (μ_35 : Int → Nat), I_34 0 ∧ ∀ k9_33 : Int, I_34 k9_33 → (((decide ((k9_33 : Int) < (((s0_1).extract (0 : Int).toNat (k9_3 : Int).toNat).size : Int))) = true → (0 ≤ (k9_33 : Int) ∧ (k9_33 : Int) < (((s0_1).extract (0 : Int).toNat (k9_3 : Int).toNat).size : Int))) ∧ ((bif (decide ((k9_33 : Int) < (((s0_1).extract (0 : Int).toNat (k9_3 : Int).toNat).size : Int))) then ((byteAt ((s0_1).extract (0 : Int).toNat (k9_3 : Int).toNat) (k9_33 : Int).toNat : Int) != 46) else false) = true → (I_34 (IntKind.wrap .i64 (k9_33 + 1)) ∧ μ_35 (IntKind.wrap .i64 (k9_33 + 1)) < μ_35 k9_33)) ∧ ((bif (decide ((k9_33 : Int) < (((s0_1).extract (0 : Int).toNat (k9_3 : Int).toNat).size : Int))) then ((byteAt ((s0_1).extract (0 : Int).toNat (k9_3 : Int).toNat) (k9_33 : Int).toNat : Int) != 46) else false) = false → (0 ≤ (0 : Int) ∧ (0 : Int) ≤ k9_33 ∧ (k9_33 : Int) ≤ (((s0_1).extract (0 : Int).toNat (k9_3 : Int).toNat).size : Int)) ∧ ∀ K_46 : ByteArray → Prop, (∀ rest13_45 : ByteArray, (PC Tryz.prog gl 171 [Arg.mk .str (((s0_1).extract (0 : Int).toNat (k9_3 : Int).toNat).extract (0 : Int).toNat (k9_33 : Int).toNat)] [.bool] (fun r_47 : Bool => ∃ J_48 : Bool → Prop, (r_47 = true → PC Tryz.prog gl 171 [Arg.mk .str rest13_45] [.bool] J_48) ∧ ∀ r_49 : Bool, (r_47 = true → J_48 r_49) → ∃ J_50 : Bool → Prop, ((bif r_47 then r_49 else false) = true → PC Tryz.prog gl 171 [Arg.mk .str exp10_30] [.bool] J_50) ∧ ∀ r_51 : Bool, ((bif r_47 then r_49 else false) = true → J_50 r_51) → (((bif (bif r_47 then r_49 else false) then r_51 else false) && (!((((s0_1).extract (0 : Int).toNat (k9_3 : Int).toNat).extract (0 : Int).toNat (k9_33 : Int).toNat : ByteArray).toList == ((⟨#[48]⟩ : ByteArray) : ByteArray).toList))) = true → (0 ≤ (0 : Int) ∧ (0 : Int) < ((((s0_1).extract (0 : Int).toNat (k9_3 : Int).toNat).extract (0 : Int).toNat (k9_33 : Int).toNat).size : Int))) ∧ ∀ K_53 : ByteArray → Prop, (∀ rest13_52 : ByteArray, (R (bif (decide ((((s0).size : Int) : Int) > 0)) then ((byteAt s0 (0 : Int).toNat : Int) == 45) else false, ((s0_1).extract (0 : Int).toNat (k9_3 : Int).toNat).extract (0 : Int).toNat (k9_33 : Int).toNat, rest13_52, minus11_31, exp10_30, bif (bif (bif r_47 then r_49 else false) then r_51 else false) then (bif ((((s0_1).extract (0 : Int).toNat (k9_3 : Int).toNat).extract (0 : Int).toNat (k9_33 : Int).toNat : ByteArray).toList == ((⟨#[48]⟩ : ByteArray) : ByteArray).toList) then true else ((byteAt (((s0_1).extract (0 : Int).toNat (k9_3 : Int).toNat).extract (0 : Int).toNat (k9_33 : Int).toNat) (0 : Int).toNat : Int) != 48)) else false)) → K_53 rest13_52) → (((k9_33 : Int) == (((s0_1).extract (0 : Int).toNat (k9_3 : Int).toNat).size : Int)) = true → K_53 (⟨#[]⟩ : ByteArray)) ∧ (((k9_33 : Int) == (((s0_1).extract (0 : Int).toNat (k9_3 : Int).toNat).size : Int)) = false → K_53 rest13_45))) → K_46 rest13_45) → ((decide ((k9_33 : Int) < (((s0_1).extract (0 : Int).toNat (k9_3 : Int).toNat).size : Int))) = true → (0 ≤ (IntKind.wrap .i64 (k9_33 + 1) : Int) ∧ (IntKind.wrap .i64 (k9_33 + 1) : Int) ≤ (((s0_1).extract (0 : Int).toNat (k9_3 : Int).toNat).size : Int) ∧ ((((s0_1).extract (0 : Int).toNat (k9_3 : Int).toNat).size : Int) : Int) ≤ (((s0_1).extract (0 : Int).toNat (k9_3 : Int).toNat).size : Int)) ∧ K_46 (((s0_1).extract (0 : Int).toNat (k9_3 : Int).toNat).extract (IntKind.wrap .i64 (k9_33 + 1) : Int).toNat ((((s0_1).extract (0 : Int).toNat (k9_3 : Int).toNat).size : Int) : Int).toNat)) ∧ ((decide ((k9_33 : Int) < (((s0_1).extract (0 : Int).toNat (k9_3 : Int).toNat).size : Int))) = false → K_46 (⟨#[48]⟩ : ByteArray))))) → K_32 exp10_30 minus11_31) → ((decide ((k9_3 : Int) < ((s0_1).size : Int))) = true → (0 ≤ (IntKind.wrap .i64 (k9_3 + 1) : Int) ∧ (IntKind.wrap .i64 (k9_3 + 1) : Int) ≤ ((s0_1).size : Int) ∧ (((s0_1).size : Int) : Int) ≤ ((s0_1).size : Int)) ∧ ((decide (((((s0_1).extract (IntKind.wrap .i64 (k9_3 + 1) : Int).toNat (((s0_1).size : Int) : Int).toNat).size : Int) : Int) > 0)) = true → (0 ≤ (0 : Int) ∧ (0 : Int) < (((s0_1).extract (IntKind.wrap .i64 (k9_3 + 1) : Int).toNat (((s0_1).size : Int) : Int).toNat).size : Int))) ∧ (((!(bif (decide (((((s0_1).extract (IntKind.wrap .i64 (k9_3 + 1) : Int).toNat (((s0_1).size : Int) : Int).toNat).size : Int) : Int) > 0)) then ((byteAt ((s0_1).extract (IntKind.wrap .i64 (k9_3 + 1) : Int).toNat (((s0_1).size : Int) : Int).toNat) (0 : Int).toNat : Int) == 45) else false)) && (decide (((((s0_1).extract (IntKind.wrap .i64 (k9_3 + 1) : Int).toNat (((s0_1).size : Int) : Int).toNat).size : Int) : Int) > 0))) = true → (0 ≤ (0 : Int) ∧ (0 : Int) < (((s0_1).extract (IntKind.wrap .i64 (k9_3 + 1) : Int).toNat (((s0_1).size : Int) : Int).toNat).size : Int))) ∧ ((bif (bif (decide (((((s0_1).extract (IntKind.wrap .i64 (k9_3 + 1) : Int).toNat (((s0_1).size : Int) : Int).toNat).size : Int) : Int) > 0)) then ((byteAt ((s0_1).extract (IntKind.wrap .i64 (k9_3 + 1) : Int).toNat (((s0_1).size : Int) : Int).toNat) (0 : Int).toNat : Int) == 45) else false) then true else (bif (decide (((((s0_1).extract (IntKind.wrap .i64 (k9_3 + 1) : Int).toNat (((s0_1).size : Int) : Int).toNat).size : Int) : Int) > 0)) then ((byteAt ((s0_1).extract (IntKind.wrap .i64 (k9_3 + 1) : Int).toNat (((s0_1).size : Int) : Int).toNat) (0 : Int).toNat : Int) == 43) else false)) = true → (0 ≤ (1 : Int) ∧ (1 : Int) ≤ (((s0_1).extract (IntKind.wrap .i64 (k9_3 + 1) : Int).toNat (((s0_1).size : Int) : Int).toNat).size : Int) ∧ ((((s0_1).extract (IntKind.wrap .i64 (k9_3 + 1) : Int).toNat (((s0_1).size : Int) : Int).toNat).size : Int) : Int) ≤ (((s0_1).extract (IntKind.wrap .i64 (k9_3 + 1) : Int).toNat (((s0_1).size : Int) : Int).toNat).size : Int)) ∧ K_32 (((s0_1).extract (IntKind.wrap .i64 (k9_3 + 1) : Int).toNat (((s0_1).size : Int) : Int).toNat).extract (1 : Int).toNat ((((s0_1).extract (IntKind.wrap .i64 (k9_3 + 1) : Int).toNat (((s0_1).size : Int) : Int).toNat).size : Int) : Int).toNat) (bif (decide (((((s0_1).extract (IntKind.wrap .i64 (k9_3 + 1) : Int).toNat (((s0_1).size : Int) : Int).toNat).size : Int) : Int) > 0)) then ((byteAt ((s0_1).extract (IntKind.wrap .i64 (k9_3 + 1) : Int).toNat (((s0_1).size : Int) : Int).toNat) (0 : Int).toNat : Int) == 45) else false)) ∧ ((bif (bif (decide (((((s0_1).extract (IntKind.wrap .i64 (k9_3 + 1) : Int).toNat (((s0_1).size : Int) : Int).toNat).size : Int) : Int) > 0)) then ((byteAt ((s0_1).extract (IntKind.wrap .i64 (k9_3 + 1) : Int).toNat (((s0_1).size : Int) : Int).toNat) (0 : Int).toNat : Int) == 45) else false) then true else (bif (decide (((((s0_1).extract (IntKind.wrap .i64 (k9_3 + 1) : Int).toNat (((s0_1).size : Int) : Int).toNat).size : Int) : Int) > 0)) then ((byteAt ((s0_1).extract (IntKind.wrap .i64 (k9_3 + 1) : Int).toNat (((s0_1).size : Int) : Int).toNat) (0 : Int).toNat : Int) == 43) else false)) = false → K_32 ((s0_1).extract (IntKind.wrap .i64 (k9_3 + 1) : Int).toNat (((s0_1).size : Int) : Int).toNat) (bif (decide (((((s0_1).extract (IntKind.wrap .i64 (k9_3 + 1) : Int).toNat (((s0_1).size : Int) : Int).toNat).size : Int) : Int) > 0)) then ((byteAt ((s0_1).extract (IntKind.wrap .i64 (k9_3 + 1) : Int).toNat (((s0_1).size : Int) : Int).toNat) (0 : Int).toNat : Int) == 45) else false))) ∧ ((decide ((k9_3 : Int) < ((s0_1).size : Int))) = false → K_32 (⟨#[48]⟩ : ByteArray) false)))) → K_2 s0_1) → ((bif (decide ((((s0).size : Int) : Int) > 0)) then ((byteAt s0 (0 : Int).toNat : Int) == 45) else false) = true → (0 ≤ (1 : Int) ∧ (1 : Int) ≤ ((s0).size : Int) ∧ (((s0).size : Int) : Int) ≤ ((s0).size : Int)) ∧ K_2 ((s0).extract (1 : Int).toNat (((s0).size : Int) : Int).toNat)) ∧ ((bif (decide ((((s0).size : Int) : Int) > 0)) then ((byteAt s0 (0 : Int).toNat : Int) == 45) else false) = false → K_2 s0)) :
    PC Tryz.prog gl 168 [Arg.mk .str s0] [.bool, .str, .str, .bool, .str, .bool] R :=
  PC_of_form Tryz.mixed gl 34 ⟨[], [], [(5, ⟨[(9, .one (.dat (.int .i64)))], [], [], [100576]⟩), (16, ⟨[(9, .one (.dat (.int .i64)))], [], [], [100576]⟩)], [(4, ⟨[(0, .one (.dat .str))], [], [], [100000]⟩), (14, ⟨[(10, .one (.dat .str)), (11, .one (.dat .bool))], [], [], [100640, 100704]⟩), (22, ⟨[(13, .one (.dat .str))], [], [], [100832]⟩), (25, ⟨[(13, .one (.dat .str))], [], [], [100832]⟩)]⟩ [Arg.mk .str s0] (rs := [.tmp 2, .tmp 3, .tmp 4, .tmp 5, .tmp 6, .tmp 7]) (n := 128) Tryz.func168 (by kernel_rfl) (by kernel_rfl) (by kernel_rfl) (by kernel_rfl) H (by kernel_rfl)
theorem pu_scarfref02_nought (gl : Fr) (n0 : Bool × ByteArray × Int) (R : Bool → Prop)
    (H : R ((n0.1 == false) && (((n0.2.1 : ByteArray).toList == ((⟨#[]⟩ : ByteArray) : ByteArray).toList) && (((n0.2.2 : Int) == 0) && true)))) :
    PC Tryz.prog gl 169 [Arg.mk (.pair .bool (.pair .str (.int .i64))) n0] [.bool] R :=
  PC_of_form Tryz.mixed gl 34 ⟨[], [], [], []⟩ [Arg.mk (.pair .bool (.pair .str (.int .i64))) n0] (rs := [.tmp 2]) (n := 6) Tryz.func169 (by kernel_rfl) (by kernel_rfl) (by kernel_rfl) (by kernel_rfl) H (by kernel_rfl)
theorem pu_scarfref02_Decimal (gl : Fr) (n0 : Int) (R : ByteArray → Prop)
    (H : ((bif (decide ((n0 : Int) ≥ 0)) then (decide ((n0 : Int) < 10)) else false) = true → (0 ≤ (n0 : Int) ∧ (n0 : Int) ≤ (IntKind.wrap .i64 (n0 + 1)) ∧ (IntKind.wrap .i64 (n0 + 1) : Int) ≤ (((⟨#[48, 49, 50, 51, 52, 53, 54, 55, 56, 57]⟩ : ByteArray)).size : Int)) ∧ R (((⟨#[48, 49, 50, 51, 52, 53, 54, 55, 56, 57]⟩ : ByteArray)).extract (n0 : Int).toNat (IntKind.wrap .i64 (n0 + 1) : Int).toNat)) ∧ ((bif (decide ((n0 : Int) ≥ 0)) then (decide ((n0 : Int) < 10)) else false) = false → ((decide ((n0 : Int) > 0)) = true → IntKind.i64 = IntKind.i64 ∧ (10 : Int) ≠ 0 ∧ IntKind.i64 = IntKind.i64 ∧ (10 : Int) ≠ 0 ∧ IntKind.i64 = IntKind.i64 ∧ (10 : Int) ≠ 0 ∧ (0 ≤ ((n0 : Int).tmod 10 : Int) ∧ ((n0 : Int).tmod 10 : Int) ≤ (IntKind.wrap .i64 (((n0 : Int).tmod 10) + 1)) ∧ (IntKind.wrap .i64 (((n0 : Int).tmod 10) + 1) : Int) ≤ (((⟨#[48, 49, 50, 51, 52, 53, 54, 55, 56, 57]⟩ : ByteArray)).size : Int)) ∧ PC Tryz.prog gl 170 [Arg.mk (.int .i64) (IntKind.wrap .i64 ((n0 : Int).tdiv 10))] [.str] (fun r_1 : ByteArray => fits63 ((r_1).size + (((⟨#[48, 49, 50, 51, 52, 53, 54, 55, 56, 57]⟩ : ByteArray)).extract ((n0 : Int).tmod 10 : Int).toNat (IntKind.wrap .i64 (((n0 : Int).tmod 10) + 1) : Int).toNat).size) ∧ R (r_1 ++ (((⟨#[48, 49, 50, 51, 52, 53, 54, 55, 56, 57]⟩ : ByteArray)).extract ((n0 : Int).tmod 10 : Int).toNat (IntKind.wrap .i64 (((n0 : Int).tmod 10) + 1) : Int).toNat)))) ∧ ((decide ((n0 : Int) > 0)) = false → ((decide ((n0 : Int) > (-10))) = true → (0 ≤ (IntKind.wrap .i64 (0 - n0) : Int) ∧ (IntKind.wrap .i64 (0 - n0) : Int) ≤ (IntKind.wrap .i64 ((IntKind.wrap .i64 (0 - n0)) + 1)) ∧ (IntKind.wrap .i64 ((IntKind.wrap .i64 (0 - n0)) + 1) : Int) ≤ (((⟨#[48, 49, 50, 51, 52, 53, 54, 55, 56, 57]⟩ : ByteArray)).size : Int)) ∧ fits63 (((⟨#[45]⟩ : ByteArray)).size + (((⟨#[48, 49, 50, 51, 52, 53, 54, 55, 56, 57]⟩ : ByteArray)).extract (IntKind.wrap .i64 (0 - n0) : Int).toNat (IntKind.wrap .i64 ((IntKind.wrap .i64 (0 - n0)) + 1) : Int).toNat).size) ∧ R ((⟨#[45]⟩ : ByteArray) ++ (((⟨#[48, 49, 50, 51, 52, 53, 54, 55, 56, 57]⟩ : ByteArray)).extract (IntKind.wrap .i64 (0 - n0) : Int).toNat (IntKind.wrap .i64 ((IntKind.wrap .i64 (0 - n0)) + 1) : Int).toNat))) ∧ ((decide ((n0 : Int) > (-10))) = false → IntKind.i64 = IntKind.i64 ∧ (10 : Int) ≠ 0 ∧ IntKind.i64 = IntKind.i64 ∧ (10 : Int) ≠ 0 ∧ IntKind.i64 = IntKind.i64 ∧ (10 : Int) ≠ 0 ∧ (0 ≤ (IntKind.wrap .i64 (0 - ((n0 : Int).tmod 10)) : Int) ∧ (IntKind.wrap .i64 (0 - ((n0 : Int).tmod 10)) : Int) ≤ (IntKind.wrap .i64 ((IntKind.wrap .i64 (0 - ((n0 : Int).tmod 10))) + 1)) ∧ (IntKind.wrap .i64 ((IntKind.wrap .i64 (0 - ((n0 : Int).tmod 10))) + 1) : Int) ≤ (((⟨#[48, 49, 50, 51, 52, 53, 54, 55, 56, 57]⟩ : ByteArray)).size : Int)) ∧ PC Tryz.prog gl 170 [Arg.mk (.int .i64) (IntKind.wrap .i64 ((n0 : Int).tdiv 10))] [.str] (fun r_2 : ByteArray => fits63 ((r_2).size + (((⟨#[48, 49, 50, 51, 52, 53, 54, 55, 56, 57]⟩ : ByteArray)).extract (IntKind.wrap .i64 (0 - ((n0 : Int).tmod 10)) : Int).toNat (IntKind.wrap .i64 ((IntKind.wrap .i64 (0 - ((n0 : Int).tmod 10))) + 1) : Int).toNat).size) ∧ R (r_2 ++ (((⟨#[48, 49, 50, 51, 52, 53, 54, 55, 56, 57]⟩ : ByteArray)).extract (IntKind.wrap .i64 (0 - ((n0 : Int).tmod 10)) : Int).toNat (IntKind.wrap .i64 ((IntKind.wrap .i64 (0 - ((n0 : Int).tmod 10))) + 1) : Int).toNat))))))) :
    PC Tryz.prog gl 170 [Arg.mk (.int .i64) n0] [.str] R :=
  PC_of_form Tryz.mixed gl 34 ⟨[], [(5, 10, [], [0, 1, 3, 4, 5, 6, 7, 8, 9, 2], []), (8, 12, [], [0, 1, 3, 4, 5, 6, 7, 8, 9, 10, 11, 2], [])], [], []⟩ [Arg.mk (.int .i64) n0] (rs := [.tmp 2]) (n := 51) Tryz.func170 (by kernel_rfl) (by kernel_rfl) (by kernel_rfl) (by kernel_rfl) H (by kernel_rfl)
theorem pu_scarfref02_digits (gl : Fr) (s0 : ByteArray) (R : Bool → Prop)
    (H : ∃ (I_2 : Int → Prop) (μ_3 : Int → Nat), I_2 0 ∧ ∀ i3_1 : Int, I_2 i3_1 → (((decide ((i3_1 : Int) < ((s0).size : Int))) = true → (0 ≤ (i3_1 : Int) ∧ (i3_1 : Int) < ((s0).size : Int)) ∧ ((!(decide ((byteAt s0 (i3_1 : Int).toNat : Int) < 48))) = true → (0 ≤ (i3_1 : Int) ∧ (i3_1 : Int) < ((s0).size : Int))) ∧ ((bif (decide ((byteAt s0 (i3_1 : Int).toNat : Int) < 48)) then true else (decide ((byteAt s0 (i3_1 : Int).toNat : Int) > 57))) = true → R false) ∧ ((bif (decide ((byteAt s0 (i3_1 : Int).toNat : Int) < 48)) then true else (decide ((byteAt s0 (i3_1 : Int).toNat : Int) > 57))) = false → (I_2 (IntKind.wrap .i64 (i3_1 + 1)) ∧ μ_3 (IntKind.wrap .i64 (i3_1 + 1)) < μ_3 i3_1))) ∧ ((decide ((i3_1 : Int) < ((s0).size : Int))) = false → R (decide ((((s0).size : Int) : Int) > 0))))) :
    PC Tryz.prog gl 171 [Arg.mk .str s0] [.bool] R :=
  PC_of_form Tryz.mixed gl 34 ⟨[], [], [(2, ⟨[(3, .one (.dat (.int .i64)))], [], [], [100192]⟩)], []⟩ [Arg.mk .str s0] (rs := [.tmp 2]) (n := 23) Tryz.func171 (by kernel_rfl) (by kernel_rfl) (by kernel_rfl) (by kernel_rfl) H (by kernel_rfl)
end Go.Proofs.YtaoceiiakcpbaaaGreatDoor
end
section
namespace Go.X
open Go
set_option linter.unusedVariables false
abbrev bl (l : List UInt8) : ByteArray := ⟨l.toArray⟩
abbrev lb (s : ByteArray) : List UInt8 := s.data.toList
@[simp] theorem lb_bl (l : List UInt8) : lb (bl l) = l := by simp [lb]
@[simp] theorem bl_lb (s : ByteArray) : bl (lb s) = s := by cases s; simp [lb, bl]
theorem lb_inj {s t : ByteArray} : lb s = lb t ↔ s = t := ⟨fun h => by rw [← bl_lb s, h, bl_lb], fun h => by rw [h]⟩
theorem lb_len (s : ByteArray) : (lb s).length = s.size := by cases s; simp [lb, ByteArray.size]
theorem lb_append (s t : ByteArray) : lb (s ++ t) = lb s ++ lb t := by
  cases s; cases t
  simp [lb]
theorem lb_extract (s : ByteArray) (a b : Nat) : lb (s.extract a b) = ((lb s).drop a).take (b - a) := by
  cases s
  simp [lb, ByteArray.data_extract, List.extract_eq_take_drop]
theorem byteAt_lb (s : ByteArray) (i : Nat) : byteAt s i = ((((lb s)[i]?).getD 0).toNat : Int) := by
  cases s; simp [lb, byteAt]
theorem get!_lb (s : ByteArray) (i : Nat) : s.get! i = ((lb s)[i]?).getD 0 := by
  cases s with
  | mk d => simp [lb, ByteArray.get!, Array.getElem!_eq_getD]; rfl
theorem byteAt_range (s : ByteArray) (i : Nat) : 0 ≤ byteAt s i ∧ byteAt s i < 256 := by
  rw [byteAt_lb]
  have := (((lb s)[i]?).getD 0).toNat_lt
  omega
def dec (l : List UInt8) : Nat × Nat := Go.Lib.decodeN l.length (l.getD 0 0).toNat (l.getD 1 0).toNat (l.getD 2 0).toNat (l.getD 3 0).toNat
theorem dec_at (s : ByteArray) (i : Nat) : Utf8.decode s i = dec ((lb s).drop i) := by
  rw [Go.Lib.decode_at, dec]
  simp only [get!_lb, List.getD_eq_getElem?_getD, List.getElem?_drop, List.length_drop, lb_len, Nat.add_zero]
theorem dec_width (l : List UInt8) : 1 ≤ (dec l).2 ∧ (dec l).2 ≤ 4 := by
  unfold dec Go.Lib.decodeN
  repeat' split
  all_goals simp
theorem dec_le {l : List UInt8} (h : l ≠ []) : (dec l).2 ≤ l.length := by
  have : 0 < l.length := List.length_pos_iff.2 h
  unfold dec Go.Lib.decodeN
  repeat' split
  all_goals simp only
  all_goals omega
def badD (d : Nat × Nat) : Bool := d.1 == 65533 && d.2 == 1
def u8ok (l : List UInt8) : Bool := if h : l = [] then true else if badD (dec l) then false else u8ok (l.drop (dec l).2)
termination_by l.length
decreasing_by
  have h1 := dec_width l
  have h2 : 0 < l.length := List.length_pos_iff.2 h
  simp only [List.length_drop]; omega
theorem u8ok_nil : u8ok [] = true := by unfold u8ok; simp
theorem u8ok_step {l : List UInt8} (h : l ≠ []) : u8ok l = if badD (dec l) then false else u8ok (l.drop (dec l).2) := by
  rw [u8ok]; simp [h]
theorem dec_ascii {c : UInt8} {l : List UInt8} (h : c.toNat < 128) : dec (c :: l) = (c.toNat, 1) := by
  simp [dec, Go.Lib.decodeN, h]
theorem badD_ascii {c : UInt8} {l : List UInt8} (h : c.toNat < 128) : badD (dec (c :: l)) = false := by
  rw [dec_ascii h, badD]
  have : (c.toNat == 65533) = false := by simp; omega
  simp [this]
theorem u8ok_ascii {c : UInt8} {l : List UInt8} (h : c.toNat < 128) : u8ok (c :: l) = u8ok l := by
  rw [u8ok_step (by simp), badD_ascii h, dec_ascii h]; simp
end Go.X
end
section
namespace Go.X
open Go Go.Lib
set_option linter.unusedVariables false
abbrev Bs := List UInt8
theorem index_pre {sub : Bs} {b : UInt8} {l : Bs} (h : sub.isPrefixOf (b :: l) = true) : index (b :: l) sub = 0 := by unfold index; rw [if_pos h]
theorem index_no {sub : Bs} {b : UInt8} {l : Bs} (h : sub.isPrefixOf (b :: l) = false) (h' : index l sub = -1) : index (b :: l) sub = -1 := by unfold index; rw [if_neg (by simp [h]), if_pos (by simp [h'])]
theorem index_on {sub : Bs} {b : UInt8} {l : Bs} (h : sub.isPrefixOf (b :: l) = false) {i : Nat} (h' : index l sub = i) : index (b :: l) sub = ((i + 1 : Nat) : Int) := by
  unfold index
  have : ((i : Int) == -1) = false := by rw [beq_eq_false_iff_ne]; omega
  rw [if_neg (by simp [h]), h', if_neg (by simp [this])]; omega
theorem index_or (l sub : Bs) : index l sub = -1 ∨ ∃ i : Nat, index l sub = i := by
  have := index_ge l sub
  by_cases h : index l sub = -1
  · exact .inl h
  · exact .inr ⟨(index l sub).toNat, by omega⟩
theorem index_nil {sub : Bs} (h : sub ≠ []) : index [] sub = -1 := by
  unfold index; cases sub with
  | nil => exact absurd rfl h
  | cons a t => rfl
theorem index_fit {l sub : Bs} {i : Nat} (h : index l sub = i) : i + sub.length ≤ l.length := by
  have := index_room l sub (by omega); omega
def repW (old new : Bs) (s : Bs) : Bs :=
  if h : old = [] ∨ index s old = -1 then s else s.take (index s old).toNat ++ new ++ repW old new (s.drop ((index s old).toNat + old.length))
termination_by s.length
decreasing_by
  have h1 : old ≠ [] := fun e => h (.inl e)
  have h2 : 0 < old.length := List.length_pos_iff.2 h1
  have h3 := index_ge s old
  have h4 : index s old ≠ -1 := fun e => h (.inr e)
  have h5 := index_room s old (by omega)
  simp only [List.length_drop]; omega
theorem repW_miss {old new s : Bs} (h : index s old = -1) : repW old new s = s := by rw [repW, dif_pos (.inr h)]
theorem repW_hit {old new s : Bs} {i : Nat} (ho : old ≠ []) (h : index s old = i) : repW old new s = s.take i ++ new ++ repW old new (s.drop (i + old.length)) := by
  rw [repW, dif_neg (fun e => e.elim ho fun e => by omega), h]; simp
theorem countFrom_fuel {sub : Bs} (ho : sub ≠ []) : ∀ (f : Nat) (s : Bs), s.length < f → ∀ g, s.length < g → countFrom sub f s = countFrom sub g s
  | 0, _, h, _, _ => absurd h (Nat.not_lt_zero _)
  | f + 1, s, hf, 0, hg => absurd hg (Nat.not_lt_zero _)
  | f + 1, s, hf, g + 1, hg => by
    unfold countFrom
    rcases index_or s sub with e | ⟨i, e⟩
    · simp [e]
    · have hb : ((i : Int) == -1) = false := by rw [beq_eq_false_iff_ne]; omega
      rw [e, if_neg (by simp [hb]), if_neg (by simp [hb])]
      have h1 := index_fit e
      have h2 : 0 < sub.length := List.length_pos_iff.2 ho
      rw [countFrom_fuel ho f _ (by simp only [List.length_drop, Int.toNat_natCast]; omega) g (by simp only [List.length_drop, Int.toNat_natCast]; omega)]
theorem count_no {sub s : Bs} (h : index s sub = -1) : count s sub = 0 := by rw [count, countFrom, h]; rfl
theorem count_hit {sub s : Bs} {i : Nat} (ho : sub ≠ []) (e : index s sub = i) : count s sub = 1 + count (s.drop (i + sub.length)) sub := by
  have hb : ((i : Int) == -1) = false := by rw [beq_eq_false_iff_ne]; omega
  have h1 := index_fit e
  have h2 : 0 < sub.length := List.length_pos_iff.2 ho
  rw [count, countFrom, e, if_neg (by simp [hb]), count, Int.toNat_natCast, countFrom_fuel ho s.length _ (by simp only [List.length_drop]; omega) ((s.drop (i + sub.length)).length + 1) (by omega)]
theorem replaceK_full {old new : Bs} (ho : old ≠ []) : ∀ (k : Nat) (s : Bs), count s old ≤ k → replaceK old new k s = repW old new s
  | 0, s, h => by
    rcases index_or s old with e | ⟨i, e⟩
    · rw [repW_miss e]; rfl
    · rw [count_hit ho e] at h; omega
  | k + 1, s, h => by
    rcases index_or s old with e | ⟨i, e⟩
    · rw [repW_miss e, replaceK, if_pos (by simp [e])]
    · rw [repW_hit ho e, replaceK_hit _ _ _ _ _ e, replaceK_full ho k]
      rw [count_hit ho e] at h; omega
theorem replaceAll_W {old new s : Bs} (ho : old ≠ []) (hn : old ≠ new) : replaceAll s old new = repW old new s := by
  unfold replaceAll replace
  rw [if_neg (by simpa using hn), replaceNum, if_pos (.inl (by omega))]
  exact replaceK_full ho _ _ (Nat.le_refl _)
theorem repW_nil {old new : Bs} (ho : old ≠ []) : repW old new [] = [] := repW_miss (index_nil ho)
theorem repW_cons {old new : Bs} (ho : old ≠ []) (b : UInt8) (l : Bs) : repW old new (b :: l) = if old.isPrefixOf (b :: l) then new ++ repW old new ((b :: l).drop old.length) else b :: repW old new l := by
  cases hp : old.isPrefixOf (b :: l) with
  | true => rw [repW_hit (i := 0) ho (index_pre hp)]; simp
  | false =>
    simp only [Bool.false_eq_true, if_false]
    rcases index_or l old with e | ⟨i, e⟩
    · rw [repW_miss (index_no hp e), repW_miss e]
    · rw [repW_hit ho (index_on hp e), repW_hit ho e, show i + 1 + old.length = (i + old.length) + 1 by omega]; simp
theorem count_nil {sub : Bs} (ho : sub ≠ []) : count [] sub = 0 := by
  unfold count countFrom
  simp [index_nil ho]
theorem count_cons {sub : Bs} (ho : sub ≠ []) (b : UInt8) (l : Bs) : count (b :: l) sub = if sub.isPrefixOf (b :: l) then 1 + count ((b :: l).drop sub.length) sub else count l sub := by
  cases hp : sub.isPrefixOf (b :: l) with
  | true =>
    simp only [if_true]
    rw [count_hit (i := 0) ho (index_pre hp), Nat.zero_add]
  | false =>
    simp only [Bool.false_eq_true, if_false]
    rcases index_or l sub with e | ⟨i, e⟩
    · rw [count_no (index_no hp e), count_no e]
    · rw [count_hit ho (index_on hp e), count_hit ho e, show i + 1 + sub.length = (i + sub.length) + 1 by omega, List.drop_succ_cons]
theorem count_one (c : UInt8) : ∀ l : Bs, count l [c] = l.count c
  | [] => by rw [count_nil (by simp)]; rfl
  | b :: l => by
    rw [count_cons (by simp), List.count_cons]
    simp only [List.isPrefixOf, Bool.and_true, beq_iff_eq, List.length_singleton, List.drop_succ_cons, List.drop_zero]
    rw [count_one c l]
    by_cases h : c = b
    · subst h; simp; omega
    · rw [if_neg h, if_neg (fun e => h e.symm)]; omega
theorem repW_one (c : UInt8) (new : Bs) : ∀ l : Bs, repW [c] new l = l.flatMap fun x => if x = c then new else [x]
  | [] => repW_nil (by simp)
  | b :: l => by
    rw [repW_cons (by simp), List.flatMap_cons]
    simp only [List.isPrefixOf, Bool.and_true, beq_iff_eq, List.length_singleton, List.drop_succ_cons, List.drop_zero]
    rw [repW_one c new l]
    by_cases h : c = b
    · subst h; simp
    · rw [if_neg h, if_neg (fun e => h e.symm)]; simp
def splW (sep : Bs) (s : Bs) : List Bs :=
  if h : sep = [] ∨ index s sep = -1 then [s] else s.take (index s sep).toNat :: splW sep (s.drop ((index s sep).toNat + sep.length))
termination_by s.length
decreasing_by
  have h1 : sep ≠ [] := fun e => h (.inl e)
  have h2 : 0 < sep.length := List.length_pos_iff.2 h1
  have h3 := index_ge s sep
  have h4 : index s sep ≠ -1 := fun e => h (.inr e)
  have h5 := index_room s sep (by omega)
  simp only [List.length_drop]; omega
theorem splW_miss {sep s : Bs} (h : index s sep = -1) : splW sep s = [s] := by rw [splW, dif_pos (.inr h)]
theorem splW_hit {sep s : Bs} {i : Nat} (ho : sep ≠ []) (h : index s sep = i) : splW sep s = s.take i :: splW sep (s.drop (i + sep.length)) := by
  rw [splW, dif_neg (fun e => e.elim ho fun e => by omega), h]; simp
theorem splitK_full {sep : Bs} (ho : sep ≠ []) : ∀ (k : Nat) (s : Bs), count s sep ≤ k → splitK sep 0 k s = splW sep s
  | 0, s, h => by
    rcases index_or s sep with e | ⟨i, e⟩
    · rw [splW_miss e]; rfl
    · rw [count_hit ho e] at h; omega
  | k + 1, s, h => by
    rcases index_or s sep with e | ⟨i, e⟩
    · rw [splW_miss e, splitK, if_pos (by simp [e])]
    · have hb : ((i : Int) == -1) = false := by rw [beq_eq_false_iff_ne]; omega
      rw [splW_hit ho e, splitK, e, if_neg (by simp [hb]), Int.toNat_natCast, splitK_full ho k]
      · simp
      · rw [count_hit ho e] at h; omega
def splC (c : UInt8) : Bs → List Bs
  | [] => [[]]
  | b :: l => if b = c then [] :: splC c l else match splC c l with
    | [] => [[b]]
    | x :: r => (b :: x) :: r
theorem splC_ne (c : UInt8) : ∀ l, splC c l ≠ []
  | [] => by simp [splC]
  | b :: l => by
    unfold splC
    split
    · simp
    · split <;> simp
theorem splW_one (c : UInt8) : ∀ l : Bs, splW [c] l = splC c l
  | [] => splW_miss (index_nil (by simp))
  | b :: l => by
    have ih := splW_one c l
    by_cases h : b = c
    · subst h
      rw [splW_hit (i := 0) (by simp) (index_pre (by simp [List.isPrefixOf])), splC, if_pos rfl, ← ih]; simp
    · have hp : [c].isPrefixOf (b :: l) = false := by simp [List.isPrefixOf]; exact fun e => h e.symm
      rw [splC, if_neg h, ← ih]
      rcases index_or l [c] with e | ⟨i, e⟩
      · rw [splW_miss (index_no hp e), splW_miss e]
      · rw [splW_hit (by simp) (index_on hp e), splW_hit (by simp) e, show i + 1 + [c].length = (i + [c].length) + 1 by rfl]; simp
theorem splC_length (c : UInt8) : ∀ l, (splC c l).length = l.count c + 1
  | [] => rfl
  | b :: l => by
    have ih := splC_length c l
    unfold splC
    rw [List.count_cons]
    by_cases h : b = c
    · subst h; simp [ih]
    · rw [if_neg h]
      simp only [beq_iff_eq, h, if_false, Nat.add_zero]
      split
      · rename_i e; exact absurd e (splC_ne c l)
      · rename_i x r e; rw [e] at ih; simpa using ih
end Go.X
end
section
namespace Go.Proofs.YtaoceiiakcpbaaaGreatDoor
open Go Go.X Go.Proofs
set_option linter.unusedVariables false
theorem joinI {α : Type} {B : α → Prop} {c : Bool} {a b : α} (h : B (bif c then a else b)) : ∀ K : α → Prop, (∀ v, B v → K v) → (c = true → K a) ∧ (c = false → K b) :=
  fun K hK => ⟨fun hc => hK _ (by subst hc; exact h), fun hc => hK _ (by subst hc; exact h)⟩
theorem wrapB (s : ByteArray) (i : Nat) : IntKind.wrap .i64 (byteAt s i) = byteAt s i := by
  have := byteAt_range s i
  exact wrap64 (by omega) (by omega)
theorem wrap32' {n : Int} (h1 : -2147483648 ≤ n) (h2 : n ≤ 2147483647) : IntKind.wrap .i32 n = n := by
  unfold IntKind.wrap
  have e : (2 : Int) ^ IntKind.bits .i32 = 4294967296 := by decide
  have e' : (2 : Int) ^ (IntKind.bits .i32 - 1) = 2147483648 := by decide
  simp only [e, e']
  have hs : IntKind.signed .i32 = true := rfl
  simp only [hs, Bool.true_and, decide_eq_true_eq]
  split <;> omega
theorem dec_bytes (s : ByteArray) (a : Nat) : dec ((lb s).drop a) = Lib.decodeN (s.size - a) (byteAt s a).toNat (byteAt s (a + 1)).toNat (byteAt s (a + 2)).toNat (byteAt s (a + 3)).toNat := by
  simp only [dec, byteAt_lb, List.getD_eq_getElem?_getD, List.getElem?_drop, List.length_drop, lb_len, Nat.add_zero, Int.toNat_natCast]
def wideS (c : Int) : Int := if c < 128 then 1 else if 194 ≤ c ∧ c ≤ 223 then 2 else if 224 ≤ c ∧ c ≤ 239 then 3 else if 240 ≤ c ∧ c ≤ 244 then 4 else 0
theorem wide_pc {gl : Fr} {c : Int} {R : Int → Prop} (h : R (wideS c)) : PC Tryz.prog gl 103 [Arg.mk (.int .i64) c] [.int .i64] R := by
  apply pu_scarfref01_wide
  unfold wideS at h
  grind
theorem dec1 {n b0 b1 b2 b3 : Nat} (h : b0 < 128) : Lib.decodeN n b0 b1 b2 b3 = (b0, 1) := by
  unfold Lib.decodeN; rw [if_pos h]
theorem dec0 {n b0 b1 b2 b3 : Nat} (h : 128 ≤ b0 ∧ b0 < 194 ∨ 245 ≤ b0 ∧ b0 < 256) : Lib.decodeN n b0 b1 b2 b3 = (65533, 1) := by
  refine Lib.bad_eq _ _ _ _ _ (by omega) ?_
  unfold Lib.firstT
  repeat' split
  all_goals first | rfl | (exfalso; omega)
theorem dec2 {n b0 b1 b2 b3 : Nat} (h : 194 ≤ b0 ∧ b0 < 224) (h1 : b1 < 256) : Lib.decodeN n b0 b1 b2 b3 = if 2 ≤ n ∧ 128 ≤ b1 ∧ b1 ≤ 191 then ((b0 - 192) * 64 + (b1 - 128), 2) else (65533, 1) := by
  unfold Lib.decodeN
  rw [if_neg (by omega)]
  by_cases hc : 2 ≤ n ∧ 128 ≤ b1 ∧ b1 ≤ 191
  · have e : b0 % 32 * 64 + b1 % 64 = (b0 - 192) * 64 + (b1 - 128) := by omega
    rw [if_pos (by omega), if_pos (by omega), if_pos hc, e]
  · rw [if_neg (by omega), if_neg (by omega), if_neg (by omega), if_neg hc]
theorem dec3 {n b0 b1 b2 b3 : Nat} (h : 224 ≤ b0 ∧ b0 < 240) (h1 : b1 < 256) (h2 : b2 < 256) : Lib.decodeN n b0 b1 b2 b3 =
    if 3 ≤ n ∧ (128 ≤ b1 ∧ b1 ≤ 191) ∧ (128 ≤ b2 ∧ b2 ≤ 191) ∧ 2048 ≤ ((b0 - 224) * 64 + (b1 - 128)) * 64 + (b2 - 128) ∧ (((b0 - 224) * 64 + (b1 - 128)) * 64 + (b2 - 128) < 55296 ∨ 57344 ≤ ((b0 - 224) * 64 + (b1 - 128)) * 64 + (b2 - 128))
    then (((b0 - 224) * 64 + (b1 - 128)) * 64 + (b2 - 128), 3) else (65533, 1) := by
  unfold Lib.decodeN
  rw [if_neg (by omega), if_neg (by omega)]
  by_cases hc : 3 ≤ n ∧ (128 ≤ b1 ∧ b1 ≤ 191) ∧ (128 ≤ b2 ∧ b2 ≤ 191)
  · rw [if_pos (by omega)]
    have e : b0 % 16 * 4096 + b1 % 64 * 64 + b2 % 64 = ((b0 - 224) * 64 + (b1 - 128)) * 64 + (b2 - 128) := by omega
    rw [e]
    split <;> rename_i hx
    · rw [if_pos (by omega)]
    · rw [if_neg (by omega)]
  · rw [if_neg (by omega), if_neg (by omega), if_neg (by omega)]
theorem dec4 {n b0 b1 b2 b3 : Nat} (h : 240 ≤ b0 ∧ b0 < 245) (h1 : b1 < 256) (h2 : b2 < 256) (h3 : b3 < 256) : Lib.decodeN n b0 b1 b2 b3 =
    if 4 ≤ n ∧ (128 ≤ b1 ∧ b1 ≤ 191) ∧ (128 ≤ b2 ∧ b2 ≤ 191) ∧ (128 ≤ b3 ∧ b3 ≤ 191) ∧ 65536 ≤ (((b0 - 240) * 64 + (b1 - 128)) * 64 + (b2 - 128)) * 64 + (b3 - 128) ∧ (((b0 - 240) * 64 + (b1 - 128)) * 64 + (b2 - 128)) * 64 + (b3 - 128) ≤ 1114111
    then ((((b0 - 240) * 64 + (b1 - 128)) * 64 + (b2 - 128)) * 64 + (b3 - 128), 4) else (65533, 1) := by
  unfold Lib.decodeN
  rw [if_neg (by omega), if_neg (by omega), if_neg (by omega)]
  by_cases hc : 4 ≤ n ∧ (128 ≤ b1 ∧ b1 ≤ 191) ∧ (128 ≤ b2 ∧ b2 ≤ 191) ∧ (128 ≤ b3 ∧ b3 ≤ 191)
  · rw [if_pos (by omega)]
    have e : b0 % 8 * 262144 + b1 % 64 * 4096 + b2 % 64 * 64 + b3 % 64 = (((b0 - 240) * 64 + (b1 - 128)) * 64 + (b2 - 128)) * 64 + (b3 - 128) := by omega
    rw [e]
    split <;> rename_i hx
    · rw [if_pos (by omega)]
    · rw [if_neg (by omega)]
  · rw [if_neg (by omega), if_neg (by omega)]
def nextS (s : ByteArray) (at' : Int) : Int × Int := if at' < 0 ∨ at' ≥ s.size then (0, 0) else (((dec ((lb s).drop at'.toNat)).1 : Int), ((dec ((lb s).drop at'.toNat)).2 : Int))
set_option maxHeartbeats 1000000 in
theorem Next_pc {gl : Fr} {s : ByteArray} {at' : Int} {R : Int × Int → Prop} (hs : (s.size : Int) ≤ 4611686018427387904) (h : R (nextS s at')) : PC Tryz.prog gl 75 [Arg.mk .str s, Arg.mk (.int .i64) at'] [.int .i32, .int .i64] R := by
  apply pu_scarfref01_Next
  unfold nextS at h
  refine ⟨fun hc => ?_, fun hc => ?_⟩
  · rw [if_pos (by grind)] at h; exact h
  · have hb : 0 ≤ at' ∧ at' < (s.size : Int) := by grind
    rw [if_neg (by omega), dec_bytes] at h
    refine ⟨hb, wide_pc ?_⟩
    obtain ⟨a, rfl⟩ : ∃ a : Nat, at' = (a : Int) := ⟨at'.toNat, by omega⟩
    simp only [Int.toNat_natCast, wrapB] at h ⊢
    have r0 := byteAt_range s a; have r1 := byteAt_range s (a + 1); have r2 := byteAt_range s (a + 2); have r3 := byteAt_range s (a + 3)
    have ix : ∀ i : Int, 1 ≤ i → i ≤ 4 → (IntKind.wrap .i64 ((a : Int) + i)) = (a : Int) + i := fun i h1 h2 => wrap64 (by omega) (by omega)
    have e1 : ((a : Int) + 1).toNat = a + 1 := by omega
    have e2 : ((a : Int) + 2).toNat = a + 2 := by omega
    have e3 : ((a : Int) + 3).toNat = a + 3 := by omega
    have hsz : IntKind.wrap .i64 ((s.size : Int) - (a : Int)) = (s.size : Int) - (a : Int) := wrap64 (by omega) (by omega)
    rw [hsz]
    generalize hn : wideS (byteAt s a) = n
    unfold wideS at hn
    generalize hb0 : byteAt s a = b0 at *
    refine ⟨fun hc2 => ?_, fun hc2 => ⟨hb, ?_⟩⟩
    · have : Lib.decodeN (s.size - a) b0.toNat (byteAt s (a + 1)).toNat (byteAt s (a + 2)).toNat (byteAt s (a + 3)).toNat = (65533, 1) := by
        have hc3 : n = 0 ∨ n > (s.size : Int) - a := by grind
        unfold Lib.decodeN
        repeat' split
        all_goals first | rfl | (exfalso; split at hn <;> first | omega | (split at hn <;> first | omega | (split at hn <;> first | omega | (split at hn <;> omega))))
      rw [this] at h; exact h
    · have hc3 : n ≠ 0 ∧ n ≤ (s.size : Int) - a := by grind
      apply joinI; apply joinI; apply joinI
      have hv : (bif n == 4 then IntKind.wrap .i64 ((bif n == 3 then IntKind.wrap .i64 ((bif n == 2 then IntKind.wrap .i64 (b0 - 192) else b0) - 224) else bif n == 2 then IntKind.wrap .i64 (b0 - 192) else b0) - 240) else bif n == 3 then IntKind.wrap .i64 ((bif n == 2 then IntKind.wrap .i64 (b0 - 192) else b0) - 224) else bif n == 2 then IntKind.wrap .i64 (b0 - 192) else b0)
          = (if n = 4 then b0 - 240 else if n = 3 then b0 - 224 else if n = 2 then b0 - 192 else b0) := by
        have w1 : IntKind.wrap .i64 (b0 - 192) = b0 - 192 := wrap64 (by omega) (by omega)
        have w2 : IntKind.wrap .i64 (b0 - 224) = b0 - 224 := wrap64 (by omega) (by omega)
        have w3 : IntKind.wrap .i64 (b0 - 240) = b0 - 240 := wrap64 (by omega) (by omega)
        grind
      rw [hv]
      generalize hv1 : (if n = 4 then b0 - 240 else if n = 3 then b0 - 224 else if n = 2 then b0 - 192 else b0) = v1
      have hv1r : 0 ≤ v1 ∧ v1 < 128 := by grind
      have hv1n : n = 4 → v1 ≤ 4 := by grind
      generalize hb1 : byteAt s (a + 1) = b1 at *
      generalize hb2 : byteAt s (a + 2) = b2 at *
      generalize hb3 : byteAt s (a + 3) = b3 at *
      have q1 := byteAt_range s (a + 1); have q2 := byteAt_range s (a + 2); have q3 := byteAt_range s (a + 3)
      rw [hb1] at q1; rw [hb2] at q2; rw [hb3] at q3
      obtain ⟨N, hN⟩ : ∃ N : Nat, s.size - a = N := ⟨_, rfl⟩
      have hN' : (N : Int) = s.size - a := by omega
      rw [hN] at h
      have hn5 : n = 1 ∨ n = 2 ∨ n = 3 ∨ n = 4 := by grind
      have good : ∀ v : Int, (n = 1 → v = v1) → (n = 2 → (128 ≤ b1 ∧ b1 ≤ 191) ∧ v = 64 * v1 + b1 - 128) → (n = 3 → (128 ≤ b1 ∧ b1 ≤ 191) ∧ (128 ≤ b2 ∧ b2 ≤ 191) ∧ v = 64 * (64 * v1 + b1 - 128) + b2 - 128) →
          (n = 4 → (128 ≤ b1 ∧ b1 ≤ 191) ∧ (128 ≤ b2 ∧ b2 ≤ 191) ∧ (128 ≤ b3 ∧ b3 ≤ 191) ∧ v = 64 * (64 * (64 * v1 + b1 - 128) + b2 - 128) + b3 - 128) →
          (((n = 3 ∧ v < 2048) ∨ (n = 4 ∧ v < 65536) ∨ v > 1114111 ∨ (v ≥ 55296 ∧ v < 57344)) → R (65533, 1)) ∧ (¬((n = 3 ∧ v < 2048) ∨ (n = 4 ∧ v < 65536) ∨ v > 1114111 ∨ (v ≥ 55296 ∧ v < 57344)) → R (IntKind.wrap .i32 v, n)) := by
        intro v k1 k2 k3 k4
        rcases hn5 with rfl | rfl | rfl | rfl
        · have hb0' : b0 < 128 := by grind
          have := k1 rfl
          have hv1' : v1 = b0 := by grind
          rw [dec1 (by omega)] at h
          refine ⟨fun hx => by omega, fun _ => ?_⟩
          rw [wrap32' (by omega) (by omega)]
          have e : ((b0.toNat : Nat) : Int) = v := by omega
          simp only [e] at h
          exact h
        · have hb0' : 194 ≤ b0 ∧ b0 < 224 := by grind
          obtain ⟨c1, hv⟩ := k2 rfl
          have hv1' : v1 = b0 - 192 := by grind
          rw [dec2 (by omega) (by omega), if_pos (by omega)] at h
          refine ⟨fun hx => by omega, fun _ => ?_⟩
          rw [wrap32' (by omega) (by omega)]
          have e : (((b0.toNat - 192) * 64 + (b1.toNat - 128) : Nat) : Int) = v := by omega
          simp only [e] at h
          exact h
        · have hb0' : 224 ≤ b0 ∧ b0 < 240 := by grind
          obtain ⟨c1, c2, hv⟩ := k3 rfl
          have hv1' : v1 = b0 - 224 := by grind
          have e : ((((b0.toNat - 224) * 64 + (b1.toNat - 128)) * 64 + (b2.toNat - 128) : Nat) : Int) = v := by omega
          rw [dec3 (by omega) (by omega) (by omega)] at h
          refine ⟨fun hx => ?_, fun hx => ?_⟩
          · rw [if_neg (by omega)] at h; exact h
          · rw [if_pos (by omega)] at h
            rw [wrap32' (by omega) (by omega)]
            simp only [e] at h
            exact h
        · have hb0' : 240 ≤ b0 ∧ b0 < 245 := by grind
          obtain ⟨c1, c2, c3, hv⟩ := k4 rfl
          have hv1' : v1 = b0 - 240 := by grind
          have e : (((((b0.toNat - 240) * 64 + (b1.toNat - 128)) * 64 + (b2.toNat - 128)) * 64 + (b3.toNat - 128) : Nat) : Int) = v := by omega
          rw [dec4 (by omega) (by omega) (by omega) (by omega)] at h
          refine ⟨fun hx => ?_, fun hx => ?_⟩
          · rw [if_neg (by omega)] at h; exact h
          · rw [if_pos (by omega)] at h
            rw [wrap32' (by omega) (by omega)]
            simp only [e] at h
            exact h
      have bad : ∀ i : Int, 1 ≤ i → i < n → ((i = 1 ∧ ¬ (128 ≤ b1 ∧ b1 ≤ 191)) ∨ (i = 2 ∧ ¬ (128 ≤ b2 ∧ b2 ≤ 191)) ∨ (i = 3 ∧ ¬ (128 ≤ b3 ∧ b3 ≤ 191))) → R (65533, 1) := by
        intro i i1 i2 hx
        rcases hn5 with rfl | rfl | rfl | rfl
        · omega
        · have hb0' : 194 ≤ b0 ∧ b0 < 224 := by grind
          rw [dec2 (by omega) (by omega), if_neg (by omega)] at h; exact h
        · have hb0' : 224 ≤ b0 ∧ b0 < 240 := by grind
          rw [dec3 (by omega) (by omega) (by omega), if_neg (by omega)] at h; exact h
        · have hb0' : 240 ≤ b0 ∧ b0 < 245 := by grind
          rw [dec4 (by omega) (by omega) (by omega) (by omega), if_neg (by omega)] at h; exact h
      clear h hn hv hc hc2
      refine ⟨fun v i => 1 ≤ i ∧ i ≤ n ∧ (0 ≤ v ∧ v < 2097152) ∧ (i = 1 → v = v1) ∧ (i = 2 → (128 ≤ b1 ∧ b1 ≤ 191) ∧ v = 64 * v1 + b1 - 128) ∧ (i = 3 → (128 ≤ b1 ∧ b1 ≤ 191) ∧ (128 ≤ b2 ∧ b2 ≤ 191) ∧ v = 64 * (64 * v1 + b1 - 128) + b2 - 128)
        ∧ (i = 4 → (128 ≤ b1 ∧ b1 ≤ 191) ∧ (128 ≤ b2 ∧ b2 ≤ 191) ∧ (128 ≤ b3 ∧ b3 ≤ 191) ∧ v = 64 * (64 * (64 * v1 + b1 - 128) + b2 - 128) + b3 - 128), fun v i => (n - i).toNat, by omega, fun v i hi => ⟨fun hl => ?_, fun hl => ?_⟩⟩
      · have hl' : i < n := by simpa using hl
        obtain ⟨i1, i2, j0, j1, j2, j3, j4⟩ := hi
        rw [ix i i1 (by omega)]
        obtain ⟨b, hbi⟩ : ∃ b, byteAt s ((a : Int) + i).toNat = b := ⟨_, rfl⟩
        have hbb : (i = 1 → b = b1) ∧ (i = 2 → b = b2) ∧ (i = 3 → b = b3) := by
          refine ⟨fun e => ?_, fun e => ?_, fun e => ?_⟩ <;> subst e
          · rw [← hbi, e1, hb1]
          · rw [← hbi, e2, hb2]
          · rw [← hbi, e3, hb3]
        rw [hbi]
        have hbr := byteAt_range s ((a : Int) + i).toNat
        rw [hbi] at hbr
        refine ⟨by omega, fun hq => bad i i1 hl' ?_, fun hq => ?_⟩
        · have : b < 128 ∨ b > 191 := by grind
          omega
        · have hq' : ¬ (b < 128 ∨ b > 191) := by grind
          have w1 : IntKind.wrap .i64 (64 * v) = 64 * v := wrap64 (by omega) (by omega)
          have w2 : IntKind.wrap .i64 (64 * v + b) = 64 * v + b := wrap64 (by omega) (by omega)
          have w3 : IntKind.wrap .i64 (64 * v + b - 128) = 64 * v + b - 128 := wrap64 (by omega) (by omega)
          have w4 : IntKind.wrap .i64 (i + 1) = i + 1 := wrap64 (by omega) (by omega)
          rw [w1, w2, w3, w4]
          have hi3 : i = 1 ∨ i = 2 ∨ i = 3 := by omega
          dsimp only
          refine ⟨⟨by omega, by omega, ?_, by omega, ?_, ?_, ?_⟩, by omega⟩
          · rcases hi3 with rfl | rfl | rfl
            · have := j1 rfl; have := hbb.1 rfl; omega
            · have := j2 rfl; have := hbb.2.1 rfl; omega
            · have := j3 rfl; have := hbb.2.2 rfl; omega
          · intro e
            have e' : i = 1 := by omega
            have := j1 e'; have := hbb.1 e'; omega
          · intro e
            have e' : i = 2 := by omega
            have := j2 e'; have := hbb.2.1 e'; omega
          · intro e
            have e' : i = 3 := by omega
            have := j3 e'; have := hbb.2.2 e'; omega
      · have hl' : i = n := by have : ¬ i < n := by simpa using hl
                               omega
        subst hl'
        obtain ⟨i1, i2, j0, j1, j2, j3, j4⟩ := hi
        obtain ⟨g1, g2⟩ := good v j1 j2 j3 j4
        refine ⟨fun hx => g1 ?_, fun hx => g2 ?_⟩
        · grind
        · grind
def goodS (s : ByteArray) (a : Nat) : Bool := !badD (dec ((lb s).drop a))
theorem Good_pc {gl : Fr} {s : ByteArray} {a : Nat} {R : Bool → Prop} (ha : a < s.size) (hs : (s.size : Int) ≤ 4611686018427387904) (h : R (goodS s a)) : PC Tryz.prog gl 74 [Arg.mk .str s, Arg.mk (.int .i64) a] [.bool] R := by
  apply pu_scarfref01_Good
  refine Next_pc hs ?_
  have hw := dec_width ((lb s).drop a)
  unfold goodS badD at h
  have e : nextS s (a : Int) = (((dec ((lb s).drop a)).1 : Int), ((dec ((lb s).drop a)).2 : Int)) := by
    unfold nextS
    rw [if_neg (by omega)]; rfl
  rw [e]
  obtain ⟨d, hd⟩ : ∃ d, dec ((lb s).drop a) = d := ⟨_, rfl⟩
  rw [hd] at h hw ⊢
  have e1 : decide (((d.2 : Nat) : Int) > 0) = true := by simp; omega
  have e2 : ((((d.1 : Nat) : Int)) == 65533) = (d.1 == 65533) := by rw [Bool.eq_iff_iff]; simp; omega
  have e3 : ((((d.2 : Nat) : Int)) == 1) = (d.2 == 1) := by rw [Bool.eq_iff_iff]; simp; omega
  show R (bif decide (((d.2 : Nat) : Int) > 0) then !bif (((d.1 : Nat) : Int)) == 65533 then (((d.2 : Nat) : Int)) == 1 else false else false)
  rw [e1, e2, e3]
  simpa only [cond_true, Bool.cond_false_right] using h
theorem RefValid_pc {gl : Fr} {s : ByteArray} {R : Int × Bool → Prop} (hs : (s.size : Int) ≤ 4611686018427387904) (h : ∀ k, R (k, u8ok (lb s))) : PC Tryz.prog gl 51 [Arg.mk .str s] [.int .i64, .bool] R := by
  apply pu_scarfref01_Valid
  refine ⟨fun a => 0 ≤ a ∧ a ≤ (s.size : Int) ∧ u8ok (lb s) = u8ok ((lb s).drop a.toNat), fun a => ((s.size : Int) - a).toNat, ⟨by omega, by omega, by simp⟩, fun a ⟨h0, h1, h2⟩ => ⟨fun hc => ?_, fun hc => ?_⟩⟩
  · have hc' : a < (s.size : Int) := by simpa using hc
    obtain ⟨k, rfl⟩ : ∃ k : Nat, a = (k : Int) := ⟨a.toNat, by omega⟩
    simp only [Int.toNat_natCast] at h2
    have hne : (lb s).drop k ≠ [] := by
      intro e
      have := congrArg List.length e
      simp only [List.length_drop, lb_len, List.length_nil] at this; omega
    rw [u8ok_step hne] at h2
    refine Good_pc (by omega) hs ⟨fun hg => ?_, fun hg => ?_⟩
    · have : badD (dec ((lb s).drop k)) = true := by simpa [goodS] using hg
      rw [this] at h2
      have := h k
      rw [h2] at this; exact this
    · have hb : badD (dec ((lb s).drop k)) = false := by simpa [goodS] using hg
      rw [hb] at h2
      simp only [Bool.false_eq_true, if_false, List.drop_drop] at h2
      refine Next_pc hs ?_
      unfold nextS
      rw [if_neg (by omega)]
      simp only [Int.toNat_natCast]
      have hw := dec_width ((lb s).drop k)
      have hl := dec_le hne
      simp only [List.length_drop, lb_len] at hl
      have w : IntKind.wrap .i64 ((k : Int) + ((dec ((lb s).drop k)).2 : Int)) = ((k + (dec ((lb s).drop k)).2 : Nat) : Int) := by rw [wrap64 (by omega) (by omega)]; omega
      rw [w]
      refine ⟨⟨by omega, by omega, ?_⟩, by omega⟩
      rw [Int.toNat_natCast]; exact h2
  · have hc' : ¬ a < (s.size : Int) := by simpa using hc
    have : (lb s).drop a.toNat = [] := List.drop_eq_nil_of_le (by rw [lb_len]; omega)
    rw [this, u8ok_nil] at h2
    rw [← h2]; exact h _
end Go.Proofs.YtaoceiiakcpbaaaGreatDoor
end
section
namespace Go.Proofs.YtaoceiiakcpbaaaGreatDoor
open Go Go.Proofs Go.Shelf Go.RowKit
set_option linter.unusedVariables false
def z_lays161_ren : Go.Shelf.Ren := ⟨fun | 161 => 117 | 231 => 141 | 227 => 106 | 233 => 142 | 235 => 143 | 228 => 107 | 197 => 85 | 151 => 163 | 260 => 120 | 152 => 104 | 137 => 132 | 119 => 133 | 224 => 124 | 225 => 123 | 217 => 122 | 266 => 148 | n => n, fun | 9 => 9 | 4 => 4 | 3 => 3 | 5 => 5 | 117 => 121 | 116 => 120 | 0 => 0 | 124 => 146 | 105 => 97 | 21 => 21 | 119 => 136 | 46 => 140 | 139 => 139 | 138 => 138 | n => n, fun | 3 => 1 | 4 => 2 | n => n⟩
theorem z_lays161 : Go.Proofs.Lays.n161 Tryz.prog z_lays161_ren := {
  mixed := by kernel_rfl
  f119 := Tryz.func133.trans (congrArg some (by kernel_rfl))
  f137 := Tryz.func132.trans (congrArg some (by kernel_rfl))
  f151 := Tryz.func163.trans (congrArg some (by kernel_rfl))
  f152 := Tryz.func104.trans (congrArg some (by kernel_rfl))
  f161 := Tryz.func117.trans (congrArg some (by kernel_rfl))
  f197 := Tryz.func85.trans (congrArg some (by kernel_rfl))
  f217 := Tryz.func122.trans (congrArg some (by kernel_rfl))
  f224 := Tryz.func124.trans (congrArg some (by kernel_rfl))
  f225 := Tryz.func123.trans (congrArg some (by kernel_rfl))
  f227 := Tryz.func106.trans (congrArg some (by kernel_rfl))
  f228 := Tryz.func107.trans (congrArg some (by kernel_rfl))
  f231 := Tryz.func141.trans (congrArg some (by kernel_rfl))
  f233 := Tryz.func142.trans (congrArg some (by kernel_rfl))
  f235 := Tryz.func143.trans (congrArg some (by kernel_rfl))
  f260 := Tryz.func120.trans (congrArg some (by kernel_rfl))
  f266 := Tryz.func148.trans (congrArg some (by kernel_rfl))
  t0 := Tryz.underlying0
  a0 := Tryz.isAgg0
  z0 := Tryz.sizeOf0
  v0 := Tryz.zeroValue0
  t3 := Tryz.underlying3
  a3 := Tryz.isAgg3
  z3 := Tryz.sizeOf3
  v3 := Tryz.zeroValue3
  t4 := Tryz.underlying4
  a4 := Tryz.isAgg4
  z4 := Tryz.sizeOf4
  v4 := Tryz.zeroValue4
  t5 := Tryz.underlying5
  a5 := Tryz.isAgg5
  z5 := Tryz.sizeOf5
  v5 := Tryz.zeroValue5
  t9 := Tryz.underlying9
  a9 := Tryz.isAgg9
  z9 := Tryz.sizeOf9
  v9 := Tryz.zeroValue9
  t21 := Tryz.underlying21
  a21 := Tryz.isAgg21
  z21 := Tryz.sizeOf21
  v21 := Tryz.zeroValue21
  t46 := Tryz.underlying140
  a46 := Tryz.isAgg140
  z46 := Tryz.sizeOf140
  v46 := Tryz.zeroValue140
  t105 := Tryz.underlying97
  a105 := Tryz.isAgg97
  z105 := Tryz.sizeOf97
  v105 := Tryz.zeroValue97
  t116 := Tryz.underlying120
  a116 := Tryz.isAgg120
  z116 := Tryz.sizeOf120
  t117 := Tryz.underlying121
  a117 := Tryz.isAgg121
  z117 := Tryz.sizeOf121
  v117 := Tryz.zeroValue121
  t119 := Tryz.underlying136
  a119 := Tryz.isAgg136
  z119 := Tryz.sizeOf136
  t124 := Tryz.underlying146
  a124 := Tryz.isAgg146
  z124 := Tryz.sizeOf146
  v124 := Tryz.zeroValue146
  t138 := Tryz.underlying138
  a138 := Tryz.isAgg138
  z138 := Tryz.sizeOf138
  v138 := Tryz.zeroValue138
  t139 := Tryz.underlying139
  a139 := Tryz.isAgg139
  z139 := Tryz.sizeOf139
  v139 := Tryz.zeroValue139
  g3 := by kernel_rfl
  g4 := by kernel_rfl }
theorem z_strings_TrimLeft_one (s : ByteArray) (c : UInt8) (hc : c.toNat < 128) (w : World) :
    Calls Tryz.prog 117 #[.string s, .string ⟨#[c]⟩] w fun e w' => e = .returned (.string ⟨(Lib.trimLeftB s.data.toList c).toArray⟩) ∧ w' = w := Any.strings_TrimLeft_one z_lays161 s c hc w
def z_lays162_ren : Go.Shelf.Ren := ⟨fun | 162 => 118 | 232 => 144 | 227 => 106 | 234 => 145 | 236 => 146 | 228 => 107 | 271 => 164 | 151 => 163 | 120 => 178 | 197 => 85 | 152 => 104 | 260 => 120 | 137 => 132 | 119 => 133 | 224 => 124 | 225 => 123 | 217 => 122 | 266 => 148 | n => n, fun | 9 => 9 | 4 => 4 | 3 => 3 | 5 => 5 | 117 => 121 | 116 => 120 | 0 => 0 | 124 => 146 | 21 => 21 | 105 => 97 | 46 => 140 | 119 => 136 | 139 => 139 | 138 => 138 | n => n, fun | 3 => 1 | 4 => 2 | n => n⟩
theorem z_lays162 : Go.Proofs.Lays.n162 Tryz.prog z_lays162_ren := {
  mixed := by kernel_rfl
  f119 := Tryz.func133.trans (congrArg some (by kernel_rfl))
  f120 := Tryz.func178.trans (congrArg some (by kernel_rfl))
  f137 := Tryz.func132.trans (congrArg some (by kernel_rfl))
  f151 := Tryz.func163.trans (congrArg some (by kernel_rfl))
  f152 := Tryz.func104.trans (congrArg some (by kernel_rfl))
  f162 := Tryz.func118.trans (congrArg some (by kernel_rfl))
  f197 := Tryz.func85.trans (congrArg some (by kernel_rfl))
  f217 := Tryz.func122.trans (congrArg some (by kernel_rfl))
  f224 := Tryz.func124.trans (congrArg some (by kernel_rfl))
  f225 := Tryz.func123.trans (congrArg some (by kernel_rfl))
  f227 := Tryz.func106.trans (congrArg some (by kernel_rfl))
  f228 := Tryz.func107.trans (congrArg some (by kernel_rfl))
  f232 := Tryz.func144.trans (congrArg some (by kernel_rfl))
  f234 := Tryz.func145.trans (congrArg some (by kernel_rfl))
  f236 := Tryz.func146.trans (congrArg some (by kernel_rfl))
  f260 := Tryz.func120.trans (congrArg some (by kernel_rfl))
  f266 := Tryz.func148.trans (congrArg some (by kernel_rfl))
  f271 := Tryz.func164.trans (congrArg some (by kernel_rfl))
  t0 := Tryz.underlying0
  a0 := Tryz.isAgg0
  z0 := Tryz.sizeOf0
  v0 := Tryz.zeroValue0
  t3 := Tryz.underlying3
  a3 := Tryz.isAgg3
  z3 := Tryz.sizeOf3
  v3 := Tryz.zeroValue3
  t4 := Tryz.underlying4
  a4 := Tryz.isAgg4
  z4 := Tryz.sizeOf4
  v4 := Tryz.zeroValue4
  t5 := Tryz.underlying5
  a5 := Tryz.isAgg5
  z5 := Tryz.sizeOf5
  v5 := Tryz.zeroValue5
  t9 := Tryz.underlying9
  a9 := Tryz.isAgg9
  z9 := Tryz.sizeOf9
  v9 := Tryz.zeroValue9
  t21 := Tryz.underlying21
  a21 := Tryz.isAgg21
  z21 := Tryz.sizeOf21
  v21 := Tryz.zeroValue21
  t46 := Tryz.underlying140
  a46 := Tryz.isAgg140
  z46 := Tryz.sizeOf140
  v46 := Tryz.zeroValue140
  t105 := Tryz.underlying97
  a105 := Tryz.isAgg97
  z105 := Tryz.sizeOf97
  v105 := Tryz.zeroValue97
  t116 := Tryz.underlying120
  a116 := Tryz.isAgg120
  z116 := Tryz.sizeOf120
  t117 := Tryz.underlying121
  a117 := Tryz.isAgg121
  z117 := Tryz.sizeOf121
  v117 := Tryz.zeroValue121
  t119 := Tryz.underlying136
  a119 := Tryz.isAgg136
  z119 := Tryz.sizeOf136
  t124 := Tryz.underlying146
  a124 := Tryz.isAgg146
  z124 := Tryz.sizeOf146
  v124 := Tryz.zeroValue146
  t138 := Tryz.underlying138
  a138 := Tryz.isAgg138
  z138 := Tryz.sizeOf138
  v138 := Tryz.zeroValue138
  t139 := Tryz.underlying139
  a139 := Tryz.isAgg139
  z139 := Tryz.sizeOf139
  v139 := Tryz.zeroValue139
  g3 := by kernel_rfl
  g4 := by kernel_rfl }
theorem z_strings_TrimRight_one (s : ByteArray) (c : UInt8) (hc : c.toNat < 128) (w : World) (hs : s.size ≤ 9223372036854775807) :
    Calls Tryz.prog 118 #[.string s, .string ⟨#[c]⟩] w fun e w' => e = .returned (.string ⟨(Lib.trimRightB s.data.toList c).toArray⟩) ∧ w' = w := Any.strings_TrimRight_one z_lays162 s c hc w hs
def z_lays137_ren : Go.Shelf.Ren := ⟨fun | 137 => 132 | 217 => 122 | 266 => 148 | n => n, fun | 9 => 9 | 5 => 5 | 3 => 3 | n => n, fun | n => n⟩
theorem z_lays137 : Go.Proofs.Lays.n137 Tryz.prog z_lays137_ren := {
  mixed := by kernel_rfl
  f137 := Tryz.func132.trans (congrArg some (by kernel_rfl))
  f217 := Tryz.func122.trans (congrArg some (by kernel_rfl))
  f266 := Tryz.func148.trans (congrArg some (by kernel_rfl))
  t3 := Tryz.underlying3
  a3 := Tryz.isAgg3
  z3 := Tryz.sizeOf3
  v3 := Tryz.zeroValue3
  t5 := Tryz.underlying5
  a5 := Tryz.isAgg5
  z5 := Tryz.sizeOf5
  v5 := Tryz.zeroValue5
  t9 := Tryz.underlying9
  a9 := Tryz.isAgg9
  z9 := Tryz.sizeOf9
  v9 := Tryz.zeroValue9 }
theorem z_strings_IndexByte (s : ByteArray) (c : Int) (w : World) :
    Calls Tryz.prog 132 #[.string s, .int .u8 c] w fun e w' => e = .returned (.int .i64 (Lib.indexByte s.data.toList c.toNat.toUInt8)) ∧ w' = w := Any.strings_IndexByte z_lays137 s c w
def z_lays103_ren : Go.Shelf.Ren := ⟨fun | 103 => 138 | 210 => 161 | 206 => 177 | n => n, fun | 9 => 9 | 4 => 4 | 24 => 155 | 3 => 3 | n => n, fun | n => n⟩
theorem z_lays103 : Go.Proofs.Lays.n103 Tryz.prog z_lays103_ren := {
  mixed := by kernel_rfl
  f103 := Tryz.func138.trans (congrArg some (by kernel_rfl))
  f206 := Tryz.func177.trans (congrArg some (by kernel_rfl))
  f210 := Tryz.func161.trans (congrArg some (by kernel_rfl))
  t3 := Tryz.underlying3
  a3 := Tryz.isAgg3
  z3 := Tryz.sizeOf3
  v3 := Tryz.zeroValue3
  t4 := Tryz.underlying4
  a4 := Tryz.isAgg4
  z4 := Tryz.sizeOf4
  v4 := Tryz.zeroValue4
  t9 := Tryz.underlying9
  a9 := Tryz.isAgg9
  z9 := Tryz.sizeOf9
  v9 := Tryz.zeroValue9
  t24 := Tryz.underlying155
  a24 := Tryz.isAgg155
  z24 := Tryz.sizeOf155
  v24 := Tryz.zeroValue155 }
theorem z_strings_CutPrefix (s p : ByteArray) (w : World) :
    Calls Tryz.prog 138 #[.string s, .string p] w fun e w' => e = .returned (.tuple #[.string ⟨(Lib.trimPrefix s.data.toList p.data.toList).toArray⟩, .bool (Lib.hasPrefix s.data.toList p.data.toList)]) ∧ w' = w := Any.strings_CutPrefix z_lays103 s p w
def z_laysM171_ren : Go.Shelf.Ren := ⟨fun | 171 => 81 | 243 => 115 | 246 => 137 | 283 => 157 | 284 => 158 | 285 => 159 | 286 => 160 | 129 => 173 | 317 => 172 | 318 => 174 | 319 => 175 | 320 => 176 | 337 => 181 | 338 => 182 | n => n, fun | 3 => 3 | 9 => 9 | 2 => 2 | 4 => 4 | 171 => 168 | 0 => 0 | 53 => 147 | 37 => 55 | 5 => 5 | 173 => 171 | 212 => 180 | 51 => 160 | 20 => 20 | 213 => 181 | 46 => 140 | 232 => 187 | 233 => 188 | n => n, fun | 17 => 5 | 18 => 6 | 19 => 7 | n => n⟩
theorem z_laysM171 : Go.Proofs.LaysM.n171 Tryz.prog z_laysM171_ren := {
  mixed := by kernel_rfl
  f129 := Tryz.func173.trans (congrArg some (by kernel_rfl))
  f171 := Tryz.func81.trans (congrArg some (by kernel_rfl))
  f243 := Tryz.func115.trans (congrArg some (by kernel_rfl))
  f246 := Tryz.func137.trans (congrArg some (by kernel_rfl))
  f283 := Tryz.func157.trans (congrArg some (by kernel_rfl))
  f284 := Tryz.func158.trans (congrArg some (by kernel_rfl))
  f285 := Tryz.func159.trans (congrArg some (by kernel_rfl))
  f286 := Tryz.func160.trans (congrArg some (by kernel_rfl))
  f317 := Tryz.func172.trans (congrArg some (by kernel_rfl))
  f318 := Tryz.func174.trans (congrArg some (by kernel_rfl))
  f319 := Tryz.func175.trans (congrArg some (by kernel_rfl))
  f320 := Tryz.func176.trans (congrArg some (by kernel_rfl))
  f337 := Tryz.func181.trans (congrArg some (by kernel_rfl))
  f338 := Tryz.func182.trans (congrArg some (by kernel_rfl))
  t0 := Tryz.underlying0
  a0 := Tryz.isAgg0
  z0 := Tryz.sizeOf0
  v0 := Tryz.zeroValue0
  t2 := Tryz.underlying2
  a2 := Tryz.isAgg2
  z2 := Tryz.sizeOf2
  v2 := Tryz.zeroValue2
  t3 := Tryz.underlying3
  a3 := Tryz.isAgg3
  z3 := Tryz.sizeOf3
  v3 := Tryz.zeroValue3
  t4 := Tryz.underlying4
  a4 := Tryz.isAgg4
  z4 := Tryz.sizeOf4
  v4 := Tryz.zeroValue4
  t5 := Tryz.underlying5
  a5 := Tryz.isAgg5
  z5 := Tryz.sizeOf5
  v5 := Tryz.zeroValue5
  t9 := Tryz.underlying9
  a9 := Tryz.isAgg9
  z9 := Tryz.sizeOf9
  v9 := Tryz.zeroValue9
  t20 := Tryz.underlying20
  a20 := Tryz.isAgg20
  z20 := Tryz.sizeOf20
  v20 := Tryz.zeroValue20
  t37 := Tryz.underlying55
  a37 := Tryz.isAgg55
  z37 := Tryz.sizeOf55
  v37 := Tryz.zeroValue55
  t46 := Tryz.underlying140
  a46 := Tryz.isAgg140
  z46 := Tryz.sizeOf140
  v46 := Tryz.zeroValue140
  t51 := Tryz.underlying160
  a51 := Tryz.isAgg160
  z51 := Tryz.sizeOf160
  v51 := Tryz.zeroValue160
  t53 := Tryz.underlying147
  a53 := Tryz.isAgg147
  z53 := Tryz.sizeOf147
  v53 := Tryz.zeroValue147
  t171 := Tryz.underlying168
  a171 := Tryz.isAgg168
  z171 := Tryz.sizeOf168
  v171 := Tryz.zeroValue168
  t173 := Tryz.underlying171
  a173 := Tryz.isAgg171
  z173 := Tryz.sizeOf171
  v173 := Tryz.zeroValue171
  t212 := Tryz.underlying180
  a212 := Tryz.isAgg180
  z212 := Tryz.sizeOf180
  v212 := Tryz.zeroValue180
  t213 := Tryz.underlying181
  a213 := Tryz.isAgg181
  z213 := Tryz.sizeOf181
  t232 := Tryz.underlying187
  a232 := Tryz.isAgg187
  z232 := Tryz.sizeOf187
  v232 := Tryz.zeroValue187
  t233 := Tryz.underlying188
  a233 := Tryz.isAgg188
  z233 := Tryz.sizeOf188
  v233 := Tryz.zeroValue188
  g17 := by kernel_rfl
  g18 := by kernel_rfl
  g19 := by kernel_rfl
  i0 := by kernel_rfl
  i2 := by kernel_rfl
  i3 := by kernel_rfl
  i4 := by kernel_rfl
  i5 := by kernel_rfl
  i9 := by kernel_rfl
  i20 := by kernel_rfl
  i37 := by kernel_rfl
  i46 := by kernel_rfl
  i51 := by kernel_rfl
  i53 := by kernel_rfl
  i171 := by kernel_rfl
  i173 := by kernel_rfl
  i212 := by kernel_rfl
  i232 := by kernel_rfl
  i233 := by kernel_rfl
  m17 := by kernel_rfl
  m18 := by kernel_rfl
  m19 := by kernel_rfl }
open Go.RowKit Go.Sort Go.Lib in
theorem z_strconv_Itoa (n : Int) (h0 : -9223372036854775808 ≤ n) (h1 : n ≤ 9223372036854775807) (w : World) (htab : Lib.TabIs Tryz.prog w "internal/strconv.uint64pow10" .u64 Lib.pow10Tab) :
    Calls Tryz.prog 81 #[.int .i64 n] w fun e w' => e = .returned (.string ⟨(Lib.itoa n).toArray⟩) ∧ ∃ k os, w' = grow (w.drewN k) os := Any.strconv_Itoa z_laysM171 n h0 h1 w htab
def z_laysC172_ren : Go.Shelf.Ren := ⟨fun | 172 => 53 | 244 => 77 | 245 => 78 | 247 => 108 | 279 => 109 | 280 => 110 | 281 => 111 | 282 => 112 | 287 => 134 | 316 => 135 | 171 => 81 | 205 => 136 | 321 => 155 | 322 => 156 | 243 => 115 | 246 => 137 | 283 => 157 | 284 => 158 | 285 => 159 | 286 => 160 | 129 => 173 | 317 => 172 | 318 => 174 | 319 => 175 | 320 => 176 | 337 => 181 | 338 => 182 | n => n, fun | 9 => 9 | 3 => 3 | 75 => 59 | 76 => 61 | 4 => 4 | 5 => 5 | 167 => 124 | 37 => 55 | 0 => 0 | 85 => 125 | 2 => 2 | 168 => 127 | 53 => 147 | 175 => 148 | 46 => 140 | 210 => 152 | 127 => 83 | 145 => 167 | 143 => 165 | 21 => 21 | 171 => 168 | 173 => 171 | 212 => 180 | 51 => 160 | 20 => 20 | 213 => 181 | 232 => 187 | 233 => 188 | 80 => 64 | n => n, fun | 15 => 3 | 16 => 4 | 17 => 5 | 18 => 6 | 19 => 7 | n => n⟩
theorem z_laysC172 : Go.Proofs.LaysC.n172 Tryz.prog z_laysC172_ren := {
  mixed := by kernel_rfl
  f129 := Tryz.func173.trans (congrArg some (by kernel_rfl))
  f171 := Tryz.func81.trans (congrArg some (by kernel_rfl))
  f172 := Tryz.func53.trans (congrArg some (by kernel_rfl))
  f205 := Tryz.func136.trans (congrArg some (by kernel_rfl))
  f243 := Tryz.func115.trans (congrArg some (by kernel_rfl))
  f244 := Tryz.func77.trans (congrArg some (by kernel_rfl))
  f245 := Tryz.func78.trans (congrArg some (by kernel_rfl))
  f246 := Tryz.func137.trans (congrArg some (by kernel_rfl))
  f247 := Tryz.func108.trans (congrArg some (by kernel_rfl))
  f279 := Tryz.func109.trans (congrArg some (by kernel_rfl))
  f280 := Tryz.func110.trans (congrArg some (by kernel_rfl))
  f281 := Tryz.func111.trans (congrArg some (by kernel_rfl))
  f282 := Tryz.func112.trans (congrArg some (by kernel_rfl))
  f283 := Tryz.func157.trans (congrArg some (by kernel_rfl))
  f284 := Tryz.func158.trans (congrArg some (by kernel_rfl))
  f285 := Tryz.func159.trans (congrArg some (by kernel_rfl))
  f286 := Tryz.func160.trans (congrArg some (by kernel_rfl))
  f287 := Tryz.func134.trans (congrArg some (by kernel_rfl))
  f316 := Tryz.func135.trans (congrArg some (by kernel_rfl))
  f317 := Tryz.func172.trans (congrArg some (by kernel_rfl))
  f318 := Tryz.func174.trans (congrArg some (by kernel_rfl))
  f319 := Tryz.func175.trans (congrArg some (by kernel_rfl))
  f320 := Tryz.func176.trans (congrArg some (by kernel_rfl))
  f321 := Tryz.func155.trans (congrArg some (by kernel_rfl))
  f322 := Tryz.func156.trans (congrArg some (by kernel_rfl))
  f337 := Tryz.func181.trans (congrArg some (by kernel_rfl))
  f338 := Tryz.func182.trans (congrArg some (by kernel_rfl))
  t0 := Tryz.underlying0
  a0 := Tryz.isAgg0
  z0 := Tryz.sizeOf0
  v0 := Tryz.zeroValue0
  t2 := Tryz.underlying2
  a2 := Tryz.isAgg2
  z2 := Tryz.sizeOf2
  v2 := Tryz.zeroValue2
  t3 := Tryz.underlying3
  a3 := Tryz.isAgg3
  z3 := Tryz.sizeOf3
  v3 := Tryz.zeroValue3
  t4 := Tryz.underlying4
  a4 := Tryz.isAgg4
  z4 := Tryz.sizeOf4
  v4 := Tryz.zeroValue4
  t5 := Tryz.underlying5
  a5 := Tryz.isAgg5
  z5 := Tryz.sizeOf5
  v5 := Tryz.zeroValue5
  t9 := Tryz.underlying9
  a9 := Tryz.isAgg9
  z9 := Tryz.sizeOf9
  v9 := Tryz.zeroValue9
  t20 := Tryz.underlying20
  a20 := Tryz.isAgg20
  z20 := Tryz.sizeOf20
  v20 := Tryz.zeroValue20
  t21 := Tryz.underlying21
  a21 := Tryz.isAgg21
  z21 := Tryz.sizeOf21
  v21 := Tryz.zeroValue21
  t37 := Tryz.underlying55
  a37 := Tryz.isAgg55
  z37 := Tryz.sizeOf55
  v37 := Tryz.zeroValue55
  t46 := Tryz.underlying140
  a46 := Tryz.isAgg140
  z46 := Tryz.sizeOf140
  v46 := Tryz.zeroValue140
  t51 := Tryz.underlying160
  a51 := Tryz.isAgg160
  z51 := Tryz.sizeOf160
  v51 := Tryz.zeroValue160
  t53 := Tryz.underlying147
  a53 := Tryz.isAgg147
  z53 := Tryz.sizeOf147
  v53 := Tryz.zeroValue147
  t75 := Tryz.underlying59
  a75 := Tryz.isAgg59
  z75 := Tryz.sizeOf59
  v75 := Tryz.zeroValue59
  t76 := Tryz.underlying61
  a76 := Tryz.isAgg61
  z76 := Tryz.sizeOf61
  v76 := Tryz.zeroValue61
  t85 := Tryz.underlying125
  a85 := Tryz.isAgg125
  z85 := Tryz.sizeOf125
  v85 := Tryz.zeroValue125
  t127 := Tryz.underlying83
  a127 := Tryz.isAgg83
  z127 := Tryz.sizeOf83
  v127 := Tryz.zeroValue83
  t143 := Tryz.underlying165
  a143 := Tryz.isAgg165
  z143 := Tryz.sizeOf165
  v143 := Tryz.zeroValue165
  t145 := Tryz.underlying167
  a145 := Tryz.isAgg167
  z145 := Tryz.sizeOf167
  v145 := Tryz.zeroValue167
  t167 := Tryz.underlying124
  a167 := Tryz.isAgg124
  z167 := Tryz.sizeOf124
  v167 := Tryz.zeroValue124
  t168 := Tryz.underlying127
  a168 := Tryz.isAgg127
  z168 := Tryz.sizeOf127
  v168 := Tryz.zeroValue127
  t171 := Tryz.underlying168
  a171 := Tryz.isAgg168
  z171 := Tryz.sizeOf168
  v171 := Tryz.zeroValue168
  t173 := Tryz.underlying171
  a173 := Tryz.isAgg171
  z173 := Tryz.sizeOf171
  v173 := Tryz.zeroValue171
  t175 := Tryz.underlying148
  a175 := Tryz.isAgg148
  z175 := Tryz.sizeOf148
  v175 := Tryz.zeroValue148
  t210 := Tryz.underlying152
  a210 := Tryz.isAgg152
  z210 := Tryz.sizeOf152
  v210 := Tryz.zeroValue152
  t212 := Tryz.underlying180
  a212 := Tryz.isAgg180
  z212 := Tryz.sizeOf180
  v212 := Tryz.zeroValue180
  t213 := Tryz.underlying181
  a213 := Tryz.isAgg181
  z213 := Tryz.sizeOf181
  t232 := Tryz.underlying187
  a232 := Tryz.isAgg187
  z232 := Tryz.sizeOf187
  v232 := Tryz.zeroValue187
  t233 := Tryz.underlying188
  a233 := Tryz.isAgg188
  z233 := Tryz.sizeOf188
  v233 := Tryz.zeroValue188
  g15 := by kernel_rfl
  g16 := by kernel_rfl
  g17 := by kernel_rfl
  g18 := by kernel_rfl
  g19 := by kernel_rfl
  t80 := Tryz.underlying64
  a80 := Tryz.isAgg64
  z80 := Tryz.sizeOf64
  v80 := Tryz.zeroValue64
  i0 := by kernel_rfl
  i2 := by kernel_rfl
  i3 := by kernel_rfl
  i4 := by kernel_rfl
  i5 := by kernel_rfl
  i9 := by kernel_rfl
  i20 := by kernel_rfl
  i21 := by kernel_rfl
  i37 := by kernel_rfl
  i46 := by kernel_rfl
  i51 := by kernel_rfl
  i53 := by kernel_rfl
  i75 := by kernel_rfl
  i76 := by kernel_rfl
  i80 := by kernel_rfl
  i85 := by kernel_rfl
  i127 := by kernel_rfl
  i143 := by kernel_rfl
  i145 := by kernel_rfl
  i167 := by kernel_rfl
  i168 := by kernel_rfl
  i171 := by kernel_rfl
  i173 := by kernel_rfl
  i175 := by kernel_rfl
  i210 := by kernel_rfl
  i212 := by kernel_rfl
  i232 := by kernel_rfl
  i233 := by kernel_rfl
  m15 := by kernel_rfl
  m16 := by kernel_rfl
  m17 := by kernel_rfl
  m18 := by kernel_rfl
  m19 := by kernel_rfl
  c0 := by kernel_rfl
  c2 := by kernel_rfl
  c3 := by kernel_rfl
  c4 := by kernel_rfl
  c5 := by kernel_rfl
  c9 := by kernel_rfl
  c20 := by kernel_rfl
  c21 := by kernel_rfl
  c37 := by kernel_rfl
  c46 := by kernel_rfl
  c51 := by kernel_rfl
  c53 := by kernel_rfl
  c75 := by kernel_rfl
  c76 := by kernel_rfl
  c80 := by kernel_rfl
  c85 := by kernel_rfl
  c127 := by kernel_rfl
  c143 := by kernel_rfl
  c145 := by kernel_rfl
  c167 := by kernel_rfl
  c168 := by kernel_rfl
  c171 := by kernel_rfl
  c173 := by kernel_rfl
  c175 := by kernel_rfl
  c210 := by kernel_rfl
  c212 := by kernel_rfl
  c213 := by kernel_rfl
  c232 := by kernel_rfl
  c233 := by kernel_rfl }
theorem z_strconv_Atoi_ok (s : ByteArray) (hmax : s.size ≤ 9223372036854775806) (v : Int) (h : Lib.atoiAll s.data.toList = .ok v) (w : World) :
    Calls Tryz.prog 53 #[.string s] w fun e w' => e = .returned (.tuple #[.int .i64 v, .nilIface]) ∧ (w' = w ∨ ∃ t, w' = Lib.bytesWorld w 5 t) := Any.strconv_Atoi_ok z_laysC172 s hmax v h w
theorem z_strconv_Atoi_syntax (s : ByteArray) (hlim : s.size ≤ 281474976710656) (h : Lib.atoiAll s.data.toList = Lib.atoiAll []) (ev : Value) (w : World) (hv : w.cell? ⟨3, 0, none⟩ = some ev) (hev : ev = .nilIface ∨ ∃ te pe, ev = .iface te pe) :
    Calls Tryz.prog 53 #[.string s] w fun e w' => ∃ N, e = .returned (.tuple #[.int .i64 (0), .iface 127 (.pointer (some ⟨N, 0, none⟩))]) ∧ w.heap.size ≤ N ∧ w'.heap[N]? = some (.cells #[.string ⟨#[65, 116, 111, 105]⟩, .string s, ev] 152 (0, 0)) ∧ Below w.heap.size w w' := Any.strconv_Atoi_syntax z_laysC172 s hlim h ev w hv hev
theorem z_strconv_Atoi_range (s : ByteArray) (hlim : s.size ≤ 281474976710656) (h : Lib.atoiAll s.data.toList = .range) (ev : Value) (w : World) (hv : w.cell? ⟨4, 0, none⟩ = some ev) (hev : ev = .nilIface ∨ ∃ te pe, ev = .iface te pe) :
    Calls Tryz.prog 53 #[.string s] w fun e w' => ∃ N, e = .returned (.tuple #[.int .i64 (Lib.atoiSat s.data.toList), .iface 127 (.pointer (some ⟨N, 0, none⟩))]) ∧ w.heap.size ≤ N ∧ w'.heap[N]? = some (.cells #[.string ⟨#[65, 116, 111, 105]⟩, .string s, ev] 152 (0, 0)) ∧ Below w.heap.size w w' := Any.strconv_Atoi_range z_laysC172 s hlim h ev w hv hev
def z_laysC174_ren : Go.Shelf.Ren := ⟨fun | 174 => 151 | 247 => 108 | 245 => 78 | 287 => 134 | 279 => 109 | 280 => 110 | 281 => 111 | 282 => 112 | 321 => 155 | 322 => 156 | 316 => 135 | 171 => 81 | 205 => 136 | 243 => 115 | 246 => 137 | 283 => 157 | 284 => 158 | 285 => 159 | 286 => 160 | 129 => 173 | 317 => 172 | 318 => 174 | 319 => 175 | 320 => 176 | 337 => 181 | 338 => 182 | n => n, fun | 9 => 9 | 3 => 3 | 2 => 2 | 75 => 59 | 85 => 125 | 4 => 4 | 167 => 124 | 5 => 5 | 53 => 147 | 175 => 148 | 46 => 140 | 168 => 127 | 37 => 55 | 0 => 0 | 210 => 152 | 21 => 21 | 127 => 83 | 145 => 167 | 143 => 165 | 171 => 168 | 173 => 171 | 212 => 180 | 51 => 160 | 20 => 20 | 213 => 181 | 232 => 187 | 233 => 188 | 80 => 64 | n => n, fun | 15 => 3 | 16 => 4 | 17 => 5 | 18 => 6 | 19 => 7 | n => n⟩
theorem z_laysC174 : Go.Proofs.LaysC.n174 Tryz.prog z_laysC174_ren := {
  mixed := by kernel_rfl
  f129 := Tryz.func173.trans (congrArg some (by kernel_rfl))
  f171 := Tryz.func81.trans (congrArg some (by kernel_rfl))
  f174 := Tryz.func151.trans (congrArg some (by kernel_rfl))
  f205 := Tryz.func136.trans (congrArg some (by kernel_rfl))
  f243 := Tryz.func115.trans (congrArg some (by kernel_rfl))
  f245 := Tryz.func78.trans (congrArg some (by kernel_rfl))
  f246 := Tryz.func137.trans (congrArg some (by kernel_rfl))
  f247 := Tryz.func108.trans (congrArg some (by kernel_rfl))
  f279 := Tryz.func109.trans (congrArg some (by kernel_rfl))
  f280 := Tryz.func110.trans (congrArg some (by kernel_rfl))
  f281 := Tryz.func111.trans (congrArg some (by kernel_rfl))
  f282 := Tryz.func112.trans (congrArg some (by kernel_rfl))
  f283 := Tryz.func157.trans (congrArg some (by kernel_rfl))
  f284 := Tryz.func158.trans (congrArg some (by kernel_rfl))
  f285 := Tryz.func159.trans (congrArg some (by kernel_rfl))
  f286 := Tryz.func160.trans (congrArg some (by kernel_rfl))
  f287 := Tryz.func134.trans (congrArg some (by kernel_rfl))
  f316 := Tryz.func135.trans (congrArg some (by kernel_rfl))
  f317 := Tryz.func172.trans (congrArg some (by kernel_rfl))
  f318 := Tryz.func174.trans (congrArg some (by kernel_rfl))
  f319 := Tryz.func175.trans (congrArg some (by kernel_rfl))
  f320 := Tryz.func176.trans (congrArg some (by kernel_rfl))
  f321 := Tryz.func155.trans (congrArg some (by kernel_rfl))
  f322 := Tryz.func156.trans (congrArg some (by kernel_rfl))
  f337 := Tryz.func181.trans (congrArg some (by kernel_rfl))
  f338 := Tryz.func182.trans (congrArg some (by kernel_rfl))
  t0 := Tryz.underlying0
  a0 := Tryz.isAgg0
  z0 := Tryz.sizeOf0
  v0 := Tryz.zeroValue0
  t2 := Tryz.underlying2
  a2 := Tryz.isAgg2
  z2 := Tryz.sizeOf2
  v2 := Tryz.zeroValue2
  t3 := Tryz.underlying3
  a3 := Tryz.isAgg3
  z3 := Tryz.sizeOf3
  v3 := Tryz.zeroValue3
  t4 := Tryz.underlying4
  a4 := Tryz.isAgg4
  z4 := Tryz.sizeOf4
  v4 := Tryz.zeroValue4
  t5 := Tryz.underlying5
  a5 := Tryz.isAgg5
  z5 := Tryz.sizeOf5
  v5 := Tryz.zeroValue5
  t9 := Tryz.underlying9
  a9 := Tryz.isAgg9
  z9 := Tryz.sizeOf9
  v9 := Tryz.zeroValue9
  t20 := Tryz.underlying20
  a20 := Tryz.isAgg20
  z20 := Tryz.sizeOf20
  v20 := Tryz.zeroValue20
  t21 := Tryz.underlying21
  a21 := Tryz.isAgg21
  z21 := Tryz.sizeOf21
  v21 := Tryz.zeroValue21
  t37 := Tryz.underlying55
  a37 := Tryz.isAgg55
  z37 := Tryz.sizeOf55
  v37 := Tryz.zeroValue55
  t46 := Tryz.underlying140
  a46 := Tryz.isAgg140
  z46 := Tryz.sizeOf140
  v46 := Tryz.zeroValue140
  t51 := Tryz.underlying160
  a51 := Tryz.isAgg160
  z51 := Tryz.sizeOf160
  v51 := Tryz.zeroValue160
  t53 := Tryz.underlying147
  a53 := Tryz.isAgg147
  z53 := Tryz.sizeOf147
  v53 := Tryz.zeroValue147
  t75 := Tryz.underlying59
  a75 := Tryz.isAgg59
  z75 := Tryz.sizeOf59
  v75 := Tryz.zeroValue59
  t85 := Tryz.underlying125
  a85 := Tryz.isAgg125
  z85 := Tryz.sizeOf125
  v85 := Tryz.zeroValue125
  t127 := Tryz.underlying83
  a127 := Tryz.isAgg83
  z127 := Tryz.sizeOf83
  v127 := Tryz.zeroValue83
  t143 := Tryz.underlying165
  a143 := Tryz.isAgg165
  z143 := Tryz.sizeOf165
  v143 := Tryz.zeroValue165
  t145 := Tryz.underlying167
  a145 := Tryz.isAgg167
  z145 := Tryz.sizeOf167
  v145 := Tryz.zeroValue167
  t167 := Tryz.underlying124
  a167 := Tryz.isAgg124
  z167 := Tryz.sizeOf124
  v167 := Tryz.zeroValue124
  t168 := Tryz.underlying127
  a168 := Tryz.isAgg127
  z168 := Tryz.sizeOf127
  v168 := Tryz.zeroValue127
  t171 := Tryz.underlying168
  a171 := Tryz.isAgg168
  z171 := Tryz.sizeOf168
  v171 := Tryz.zeroValue168
  t173 := Tryz.underlying171
  a173 := Tryz.isAgg171
  z173 := Tryz.sizeOf171
  v173 := Tryz.zeroValue171
  t175 := Tryz.underlying148
  a175 := Tryz.isAgg148
  z175 := Tryz.sizeOf148
  v175 := Tryz.zeroValue148
  t210 := Tryz.underlying152
  a210 := Tryz.isAgg152
  z210 := Tryz.sizeOf152
  v210 := Tryz.zeroValue152
  t212 := Tryz.underlying180
  a212 := Tryz.isAgg180
  z212 := Tryz.sizeOf180
  v212 := Tryz.zeroValue180
  t213 := Tryz.underlying181
  a213 := Tryz.isAgg181
  z213 := Tryz.sizeOf181
  t232 := Tryz.underlying187
  a232 := Tryz.isAgg187
  z232 := Tryz.sizeOf187
  v232 := Tryz.zeroValue187
  t233 := Tryz.underlying188
  a233 := Tryz.isAgg188
  z233 := Tryz.sizeOf188
  v233 := Tryz.zeroValue188
  g15 := by kernel_rfl
  g16 := by kernel_rfl
  g17 := by kernel_rfl
  g18 := by kernel_rfl
  g19 := by kernel_rfl
  t80 := Tryz.underlying64
  a80 := Tryz.isAgg64
  z80 := Tryz.sizeOf64
  v80 := Tryz.zeroValue64
  i0 := by kernel_rfl
  i2 := by kernel_rfl
  i3 := by kernel_rfl
  i4 := by kernel_rfl
  i5 := by kernel_rfl
  i9 := by kernel_rfl
  i20 := by kernel_rfl
  i21 := by kernel_rfl
  i37 := by kernel_rfl
  i46 := by kernel_rfl
  i51 := by kernel_rfl
  i53 := by kernel_rfl
  i75 := by kernel_rfl
  i80 := by kernel_rfl
  i85 := by kernel_rfl
  i127 := by kernel_rfl
  i143 := by kernel_rfl
  i145 := by kernel_rfl
  i167 := by kernel_rfl
  i168 := by kernel_rfl
  i171 := by kernel_rfl
  i173 := by kernel_rfl
  i175 := by kernel_rfl
  i210 := by kernel_rfl
  i212 := by kernel_rfl
  i232 := by kernel_rfl
  i233 := by kernel_rfl
  m15 := by kernel_rfl
  m16 := by kernel_rfl
  m17 := by kernel_rfl
  m18 := by kernel_rfl
  m19 := by kernel_rfl
  c0 := by kernel_rfl
  c2 := by kernel_rfl
  c3 := by kernel_rfl
  c4 := by kernel_rfl
  c5 := by kernel_rfl
  c9 := by kernel_rfl
  c20 := by kernel_rfl
  c21 := by kernel_rfl
  c37 := by kernel_rfl
  c46 := by kernel_rfl
  c51 := by kernel_rfl
  c53 := by kernel_rfl
  c75 := by kernel_rfl
  c80 := by kernel_rfl
  c85 := by kernel_rfl
  c127 := by kernel_rfl
  c143 := by kernel_rfl
  c145 := by kernel_rfl
  c167 := by kernel_rfl
  c168 := by kernel_rfl
  c171 := by kernel_rfl
  c173 := by kernel_rfl
  c175 := by kernel_rfl
  c210 := by kernel_rfl
  c212 := by kernel_rfl
  c213 := by kernel_rfl
  c232 := by kernel_rfl
  c233 := by kernel_rfl }
theorem z_strconv_ParseInt_10_at64_ok (s : ByteArray) (hmax : s.size ≤ 9223372036854775806) (v : Int) (h : Lib.parseIntB 64 s.data.toList = .ok v) (w : World) :
    Calls Tryz.prog 151 #[.string s, .int .i64 10, .int .i64 64] w fun e w' => e = .returned (.tuple #[.int .i64 v, .nilIface]) ∧ (w' = w ∨ ∃ t, w' = Lib.bytesWorld w 5 t) := Any.strconv_ParseInt_10_at64_ok z_laysC174 s hmax v h w
theorem z_strconv_ParseInt_10_at64_syntax (s : ByteArray) (hlim : s.size ≤ 281474976710656) (h : Lib.parseIntB 64 s.data.toList = Lib.parseIntB 64 []) (ev : Value) (w : World) (hv : w.cell? ⟨3, 0, none⟩ = some ev) (hev : ev = .nilIface ∨ ∃ te pe, ev = .iface te pe) :
    Calls Tryz.prog 151 #[.string s, .int .i64 10, .int .i64 64] w fun e w' => ∃ N, e = .returned (.tuple #[.int .i64 (0), .iface 127 (.pointer (some ⟨N, 0, none⟩))]) ∧ w.heap.size ≤ N ∧ w'.heap[N]? = some (.cells #[.string ⟨#[80, 97, 114, 115, 101, 73, 110, 116]⟩, .string s, ev] 152 (0, 0)) ∧ Below w.heap.size w w' := Any.strconv_ParseInt_10_at64_syntax z_laysC174 s hlim h ev w hv hev
theorem z_strconv_ParseInt_10_at64_range (s : ByteArray) (hlim : s.size ≤ 281474976710656) (h : Lib.parseIntB 64 s.data.toList = .range) (ev : Value) (w : World) (hv : w.cell? ⟨4, 0, none⟩ = some ev) (hev : ev = .nilIface ∨ ∃ te pe, ev = .iface te pe) :
    Calls Tryz.prog 151 #[.string s, .int .i64 10, .int .i64 64] w fun e w' => ∃ N, e = .returned (.tuple #[.int .i64 (Lib.intSat 64 s.data.toList), .iface 127 (.pointer (some ⟨N, 0, none⟩))]) ∧ w.heap.size ≤ N ∧ w'.heap[N]? = some (.cells #[.string ⟨#[80, 97, 114, 115, 101, 73, 110, 116]⟩, .string s, ev] 152 (0, 0)) ∧ Below w.heap.size w w' := Any.strconv_ParseInt_10_at64_range z_laysC174 s hlim h ev w hv hev
def z_lays145_ren : Go.Shelf.Ren := ⟨fun | 145 => 61 | 220 => 87 | 219 => 88 | 217 => 122 | 225 => 123 | 224 => 124 | 267 => 125 | 266 => 148 | 314 => 149 | n => n, fun | 9 => 9 | 4 => 4 | 59 => 85 | 3 => 3 | 5 => 5 | 46 => 140 | 146 => 161 | 51 => 160 | n => n, fun | 1 => 0 | n => n⟩
theorem z_lays145 : Go.Proofs.Lays.n145 Tryz.prog z_lays145_ren := {
  mixed := by kernel_rfl
  f145 := Tryz.func61.trans (congrArg some (by kernel_rfl))
  f217 := Tryz.func122.trans (congrArg some (by kernel_rfl))
  f219 := Tryz.func88.trans (congrArg some (by kernel_rfl))
  f220 := Tryz.func87.trans (congrArg some (by kernel_rfl))
  f224 := Tryz.func124.trans (congrArg some (by kernel_rfl))
  f225 := Tryz.func123.trans (congrArg some (by kernel_rfl))
  f266 := Tryz.func148.trans (congrArg some (by kernel_rfl))
  f267 := Tryz.func125.trans (congrArg some (by kernel_rfl))
  f314 := Tryz.func149.trans (congrArg some (by kernel_rfl))
  t3 := Tryz.underlying3
  a3 := Tryz.isAgg3
  z3 := Tryz.sizeOf3
  v3 := Tryz.zeroValue3
  t4 := Tryz.underlying4
  a4 := Tryz.isAgg4
  z4 := Tryz.sizeOf4
  v4 := Tryz.zeroValue4
  t5 := Tryz.underlying5
  a5 := Tryz.isAgg5
  z5 := Tryz.sizeOf5
  v5 := Tryz.zeroValue5
  t9 := Tryz.underlying9
  a9 := Tryz.isAgg9
  z9 := Tryz.sizeOf9
  v9 := Tryz.zeroValue9
  t46 := Tryz.underlying140
  a46 := Tryz.isAgg140
  z46 := Tryz.sizeOf140
  v46 := Tryz.zeroValue140
  t51 := Tryz.underlying160
  a51 := Tryz.isAgg160
  z51 := Tryz.sizeOf160
  v51 := Tryz.zeroValue160
  t59 := Tryz.underlying85
  a59 := Tryz.isAgg85
  z59 := Tryz.sizeOf85
  v59 := Tryz.zeroValue85
  t146 := Tryz.underlying161
  a146 := Tryz.isAgg161
  z146 := Tryz.sizeOf161
  v146 := Tryz.zeroValue161
  g1 := by kernel_rfl }
open Go.RowKit Go.Lib in
theorem z_strings_Cut (s sep : ByteArray) (m : Int) (w : World) (hs : s.size < 4294967281) (hm : w.cell? ⟨0, 0, none⟩ = some (.int .i64 m)) :
    Calls Tryz.prog 61 #[.string s, .string sep] w fun e w' => e = .returned (.tuple #[.string ⟨(Lib.cut s.data.toList sep.data.toList).1.toArray⟩, .string ⟨(Lib.cut s.data.toList sep.data.toList).2.1.toArray⟩, .bool (Lib.cut s.data.toList sep.data.toList).2.2]) ∧ ∃ n, w' = w.drewN n := Any.strings_Cut z_lays145 s sep m w hs hm
def z_lays138_ren : Go.Shelf.Ren := ⟨fun | 138 => 41 | 195 => 62 | 218 => 63 | 143 => 64 | 219 => 88 | 217 => 122 | 225 => 123 | 224 => 124 | 267 => 125 | 266 => 148 | 314 => 149 | n => n, fun | 9 => 9 | 3 => 3 | 4 => 4 | 5 => 5 | 0 => 0 | 46 => 140 | 146 => 161 | 51 => 160 | n => n, fun | 1 => 0 | n => n⟩
theorem z_lays138 : Go.Proofs.Lays.n138 Tryz.prog z_lays138_ren := {
  mixed := by kernel_rfl
  f138 := Tryz.func41.trans (congrArg some (by kernel_rfl))
  f143 := Tryz.func64.trans (congrArg some (by kernel_rfl))
  f195 := Tryz.func62.trans (congrArg some (by kernel_rfl))
  f217 := Tryz.func122.trans (congrArg some (by kernel_rfl))
  f218 := Tryz.func63.trans (congrArg some (by kernel_rfl))
  f219 := Tryz.func88.trans (congrArg some (by kernel_rfl))
  f224 := Tryz.func124.trans (congrArg some (by kernel_rfl))
  f225 := Tryz.func123.trans (congrArg some (by kernel_rfl))
  f266 := Tryz.func148.trans (congrArg some (by kernel_rfl))
  f267 := Tryz.func125.trans (congrArg some (by kernel_rfl))
  f314 := Tryz.func149.trans (congrArg some (by kernel_rfl))
  t0 := Tryz.underlying0
  a0 := Tryz.isAgg0
  z0 := Tryz.sizeOf0
  v0 := Tryz.zeroValue0
  t3 := Tryz.underlying3
  a3 := Tryz.isAgg3
  z3 := Tryz.sizeOf3
  v3 := Tryz.zeroValue3
  t4 := Tryz.underlying4
  a4 := Tryz.isAgg4
  z4 := Tryz.sizeOf4
  v4 := Tryz.zeroValue4
  t5 := Tryz.underlying5
  a5 := Tryz.isAgg5
  z5 := Tryz.sizeOf5
  v5 := Tryz.zeroValue5
  t9 := Tryz.underlying9
  a9 := Tryz.isAgg9
  z9 := Tryz.sizeOf9
  v9 := Tryz.zeroValue9
  t46 := Tryz.underlying140
  a46 := Tryz.isAgg140
  z46 := Tryz.sizeOf140
  v46 := Tryz.zeroValue140
  t51 := Tryz.underlying160
  a51 := Tryz.isAgg160
  z51 := Tryz.sizeOf160
  v51 := Tryz.zeroValue160
  t146 := Tryz.underlying161
  a146 := Tryz.isAgg161
  z146 := Tryz.sizeOf161
  v146 := Tryz.zeroValue161
  g1 := by kernel_rfl }
def z_lays101_ren : Go.Shelf.Ren := ⟨fun | 101 => 140 | 208 => 162 | 206 => 177 | n => n, fun | 9 => 9 | 4 => 4 | 3 => 3 | n => n, fun | n => n⟩
theorem z_lays101 : Go.Proofs.Lays.n101 Tryz.prog z_lays101_ren := {
  mixed := by kernel_rfl
  f101 := Tryz.func140.trans (congrArg some (by kernel_rfl))
  f206 := Tryz.func177.trans (congrArg some (by kernel_rfl))
  f208 := Tryz.func162.trans (congrArg some (by kernel_rfl))
  t3 := Tryz.underlying3
  a3 := Tryz.isAgg3
  z3 := Tryz.sizeOf3
  v3 := Tryz.zeroValue3
  t4 := Tryz.underlying4
  a4 := Tryz.isAgg4
  z4 := Tryz.sizeOf4
  v4 := Tryz.zeroValue4
  t9 := Tryz.underlying9
  a9 := Tryz.isAgg9
  z9 := Tryz.sizeOf9
  v9 := Tryz.zeroValue9 }
open Go.RowKit Go.Lib in
theorem z_strings_TrimPrefix (s p : ByteArray) (w : World) :
    Calls Tryz.prog 140 #[.string s, .string p] w fun e w' => e = .returned (.string ⟨(Lib.trimPrefix s.data.toList p.data.toList).toArray⟩) ∧ w' = w := Any.strings_TrimPrefix z_lays101 s p w
open Go.RowKit Go.Lib in
theorem z_strings_Count_any (s sep : ByteArray) (m : Int) (w : World) (hs : s.size < 4294967281) (hm : w.cell? ⟨0, 0, none⟩ = some (.int .i64 m)) (h1 : 1 ≤ sep.size) :
    Calls Tryz.prog 41 #[.string s, .string sep] w fun e w' => e = .returned (.int .i64 (Lib.countB s sep)) ∧ w' = w := Any.strings_Count_any z_lays138 s sep m w hs hm h1
def z_lays146_ren : Go.Shelf.Ren := ⟨fun | 146 => 42 | 221 => 65 | 268 => 89 | 138 => 41 | 143 => 64 | 195 => 62 | 197 => 85 | 218 => 63 | 219 => 88 | 260 => 120 | 217 => 122 | 225 => 123 | 224 => 124 | 267 => 125 | 266 => 148 | 314 => 149 | n => n, fun | 9 => 9 | 31 => 22 | 3 => 3 | 4 => 4 | 0 => 0 | 105 => 97 | 21 => 21 | 5 => 5 | 46 => 140 | 119 => 136 | 139 => 139 | 138 => 138 | 146 => 161 | 51 => 160 | n => n, fun | 1 => 0 | 3 => 1 | 4 => 2 | n => n⟩
theorem z_lays146 : Go.Proofs.Lays.n146 Tryz.prog z_lays146_ren := {
  mixed := by kernel_rfl
  f138 := Tryz.func41.trans (congrArg some (by kernel_rfl))
  f143 := Tryz.func64.trans (congrArg some (by kernel_rfl))
  f146 := Tryz.func42.trans (congrArg some (by kernel_rfl))
  f195 := Tryz.func62.trans (congrArg some (by kernel_rfl))
  f197 := Tryz.func85.trans (congrArg some (by kernel_rfl))
  f217 := Tryz.func122.trans (congrArg some (by kernel_rfl))
  f218 := Tryz.func63.trans (congrArg some (by kernel_rfl))
  f219 := Tryz.func88.trans (congrArg some (by kernel_rfl))
  f221 := Tryz.func65.trans (congrArg some (by kernel_rfl))
  f224 := Tryz.func124.trans (congrArg some (by kernel_rfl))
  f225 := Tryz.func123.trans (congrArg some (by kernel_rfl))
  f260 := Tryz.func120.trans (congrArg some (by kernel_rfl))
  f266 := Tryz.func148.trans (congrArg some (by kernel_rfl))
  f267 := Tryz.func125.trans (congrArg some (by kernel_rfl))
  f268 := Tryz.func89.trans (congrArg some (by kernel_rfl))
  f314 := Tryz.func149.trans (congrArg some (by kernel_rfl))
  t0 := Tryz.underlying0
  a0 := Tryz.isAgg0
  z0 := Tryz.sizeOf0
  v0 := Tryz.zeroValue0
  t3 := Tryz.underlying3
  a3 := Tryz.isAgg3
  z3 := Tryz.sizeOf3
  v3 := Tryz.zeroValue3
  t4 := Tryz.underlying4
  a4 := Tryz.isAgg4
  z4 := Tryz.sizeOf4
  v4 := Tryz.zeroValue4
  t5 := Tryz.underlying5
  a5 := Tryz.isAgg5
  z5 := Tryz.sizeOf5
  v5 := Tryz.zeroValue5
  t9 := Tryz.underlying9
  a9 := Tryz.isAgg9
  z9 := Tryz.sizeOf9
  v9 := Tryz.zeroValue9
  t21 := Tryz.underlying21
  a21 := Tryz.isAgg21
  z21 := Tryz.sizeOf21
  v21 := Tryz.zeroValue21
  t31 := Tryz.underlying22
  a31 := Tryz.isAgg22
  z31 := Tryz.sizeOf22
  v31 := Tryz.zeroValue22
  t46 := Tryz.underlying140
  a46 := Tryz.isAgg140
  z46 := Tryz.sizeOf140
  v46 := Tryz.zeroValue140
  t51 := Tryz.underlying160
  a51 := Tryz.isAgg160
  z51 := Tryz.sizeOf160
  v51 := Tryz.zeroValue160
  t105 := Tryz.underlying97
  a105 := Tryz.isAgg97
  z105 := Tryz.sizeOf97
  v105 := Tryz.zeroValue97
  t119 := Tryz.underlying136
  a119 := Tryz.isAgg136
  z119 := Tryz.sizeOf136
  t138 := Tryz.underlying138
  a138 := Tryz.isAgg138
  z138 := Tryz.sizeOf138
  v138 := Tryz.zeroValue138
  t139 := Tryz.underlying139
  a139 := Tryz.isAgg139
  z139 := Tryz.sizeOf139
  v139 := Tryz.zeroValue139
  t146 := Tryz.underlying161
  a146 := Tryz.isAgg161
  z146 := Tryz.sizeOf161
  v146 := Tryz.zeroValue161
  g1 := by kernel_rfl
  g3 := by kernel_rfl
  g4 := by kernel_rfl }
open Go.RowKit Go.Lib in
theorem z_strings_Split (s sep : ByteArray) (m : Int) (w : World) (hs : s.size < 4294967281) (hm : w.cell? ⟨0, 0, none⟩ = some (.int .i64 m)) (h1 : 1 ≤ sep.size) :
    Calls Tryz.prog 42 #[.string s, .string sep] w fun e w' =>
      e = .returned (.slice (some ⟨w.heap.size, 0, none⟩) (Lib.countB s sep + 1) (Lib.countB s sep + 1)) ∧ w' = w.alloc (.cells ((Lib.splitB sep 0 (Lib.countB s sep) s).map Value.string).toArray 9) := Any.strings_Split z_lays146 (by kernel_rfl) s sep m w hs hm h1
def z_lays155_ren : Go.Shelf.Ren := ⟨fun | 155 => 35 | 154 => 58 | 138 => 41 | 165 => 84 | 143 => 64 | 166 => 34 | 197 => 85 | 169 => 36 | 195 => 62 | 218 => 63 | 240 => 57 | 241 => 119 | 219 => 88 | 260 => 120 | 276 => 83 | 277 => 147 | 217 => 122 | 225 => 123 | 224 => 124 | 267 => 125 | 266 => 148 | 314 => 149 | n => n, fun | 9 => 9 | 3 => 3 | 4 => 4 | 72 => 57 | 0 => 0 | 76 => 61 | 105 => 97 | 21 => 21 | 5 => 5 | 70 => 54 | 20 => 20 | 37 => 55 | 75 => 59 | 127 => 83 | 164 => 104 | 46 => 140 | 119 => 136 | 139 => 139 | 138 => 138 | 146 => 161 | 51 => 160 | 80 => 64 | n => n, fun | 1 => 0 | 3 => 1 | 4 => 2 | n => n⟩
theorem z_lays155 : Go.Proofs.Lays.n155 Tryz.prog z_lays155_ren := {
  mixed := by kernel_rfl
  f138 := Tryz.func41.trans (congrArg some (by kernel_rfl))
  f143 := Tryz.func64.trans (congrArg some (by kernel_rfl))
  f154 := Tryz.func58.trans (congrArg some (by kernel_rfl))
  f155 := Tryz.func35.trans (congrArg some (by kernel_rfl))
  f165 := Tryz.func84.trans (congrArg some (by kernel_rfl))
  f166 := Tryz.func34.trans (congrArg some (by kernel_rfl))
  f169 := Tryz.func36.trans (congrArg some (by kernel_rfl))
  f195 := Tryz.func62.trans (congrArg some (by kernel_rfl))
  f197 := Tryz.func85.trans (congrArg some (by kernel_rfl))
  f217 := Tryz.func122.trans (congrArg some (by kernel_rfl))
  f218 := Tryz.func63.trans (congrArg some (by kernel_rfl))
  f219 := Tryz.func88.trans (congrArg some (by kernel_rfl))
  f224 := Tryz.func124.trans (congrArg some (by kernel_rfl))
  f225 := Tryz.func123.trans (congrArg some (by kernel_rfl))
  f240 := Tryz.func57.trans (congrArg some (by kernel_rfl))
  f241 := Tryz.func119.trans (congrArg some (by kernel_rfl))
  f260 := Tryz.func120.trans (congrArg some (by kernel_rfl))
  f266 := Tryz.func148.trans (congrArg some (by kernel_rfl))
  f267 := Tryz.func125.trans (congrArg some (by kernel_rfl))
  f276 := Tryz.func83.trans (congrArg some (by kernel_rfl))
  f277 := Tryz.func147.trans (congrArg some (by kernel_rfl))
  f314 := Tryz.func149.trans (congrArg some (by kernel_rfl))
  t0 := Tryz.underlying0
  a0 := Tryz.isAgg0
  z0 := Tryz.sizeOf0
  v0 := Tryz.zeroValue0
  t3 := Tryz.underlying3
  a3 := Tryz.isAgg3
  z3 := Tryz.sizeOf3
  v3 := Tryz.zeroValue3
  t4 := Tryz.underlying4
  a4 := Tryz.isAgg4
  z4 := Tryz.sizeOf4
  v4 := Tryz.zeroValue4
  t5 := Tryz.underlying5
  a5 := Tryz.isAgg5
  z5 := Tryz.sizeOf5
  v5 := Tryz.zeroValue5
  t9 := Tryz.underlying9
  a9 := Tryz.isAgg9
  z9 := Tryz.sizeOf9
  v9 := Tryz.zeroValue9
  t20 := Tryz.underlying20
  a20 := Tryz.isAgg20
  z20 := Tryz.sizeOf20
  v20 := Tryz.zeroValue20
  t21 := Tryz.underlying21
  a21 := Tryz.isAgg21
  z21 := Tryz.sizeOf21
  v21 := Tryz.zeroValue21
  t37 := Tryz.underlying55
  a37 := Tryz.isAgg55
  z37 := Tryz.sizeOf55
  v37 := Tryz.zeroValue55
  t46 := Tryz.underlying140
  a46 := Tryz.isAgg140
  z46 := Tryz.sizeOf140
  v46 := Tryz.zeroValue140
  t51 := Tryz.underlying160
  a51 := Tryz.isAgg160
  z51 := Tryz.sizeOf160
  v51 := Tryz.zeroValue160
  t70 := Tryz.underlying54
  a70 := Tryz.isAgg54
  z70 := Tryz.sizeOf54
  v70 := Tryz.zeroValue54
  t72 := Tryz.underlying57
  a72 := Tryz.isAgg57
  z72 := Tryz.sizeOf57
  v72 := Tryz.zeroValue57
  t75 := Tryz.underlying59
  a75 := Tryz.isAgg59
  z75 := Tryz.sizeOf59
  v75 := Tryz.zeroValue59
  t76 := Tryz.underlying61
  a76 := Tryz.isAgg61
  z76 := Tryz.sizeOf61
  v76 := Tryz.zeroValue61
  t105 := Tryz.underlying97
  a105 := Tryz.isAgg97
  z105 := Tryz.sizeOf97
  v105 := Tryz.zeroValue97
  t119 := Tryz.underlying136
  a119 := Tryz.isAgg136
  z119 := Tryz.sizeOf136
  t127 := Tryz.underlying83
  a127 := Tryz.isAgg83
  z127 := Tryz.sizeOf83
  v127 := Tryz.zeroValue83
  t138 := Tryz.underlying138
  a138 := Tryz.isAgg138
  z138 := Tryz.sizeOf138
  v138 := Tryz.zeroValue138
  t139 := Tryz.underlying139
  a139 := Tryz.isAgg139
  z139 := Tryz.sizeOf139
  v139 := Tryz.zeroValue139
  t146 := Tryz.underlying161
  a146 := Tryz.isAgg161
  z146 := Tryz.sizeOf161
  v146 := Tryz.zeroValue161
  t164 := Tryz.underlying104
  a164 := Tryz.isAgg104
  z164 := Tryz.sizeOf104
  v164 := Tryz.zeroValue104
  g1 := by kernel_rfl
  g3 := by kernel_rfl
  g4 := by kernel_rfl }
theorem z_Builder_Extra_155 : Builder.Extra Tryz.prog z_lays155_ren := {
  sizeBuilder := by kernel_rfl
  liesBuilder := by kernel_rfl
  t5 := Tryz.underlying5
  a5 := Tryz.isAgg5
  z5 := Tryz.sizeOf5
  v5 := Tryz.zeroValue5
  infoByte := by kernel_rfl
  cellsByte := by kernel_rfl
  sizeByte := by kernel_rfl
  neB5 := by decide }
open Go.RowKit Go.Lib in
theorem z_strings_ReplaceAll (s old new : ByteArray) (m : Int) (w : World) (hs : s.size < 4294967281) (hm : w.cell? ⟨0, 0, none⟩ = some (.int .i64 m)) (h1 : 1 ≤ old.size) (hlen : s.size + Lib.countB s old * new.size ≤ 140737488355328) :
    Calls Tryz.prog 35 #[.string s, .string old, .string new] w fun e w' =>
      e = .returned (.string ⟨(Lib.replaceAll s.data.toList old.data.toList new.data.toList).toArray⟩) ∧ Below w.heap.size w w' := Any.strings_ReplaceAll z_lays155 z_Builder_Extra_155 s old new m w hs hm h1 hlen
def z_lays197_ren : Go.Shelf.Ren := ⟨fun | 197 => 85 | 260 => 120 | n => n, fun | 9 => 9 | 21 => 21 | 3 => 3 | 4 => 4 | 5 => 5 | 105 => 97 | 119 => 136 | 0 => 0 | 46 => 140 | 139 => 139 | 138 => 138 | n => n, fun | 3 => 1 | 4 => 2 | n => n⟩
theorem z_lays197 : Go.Proofs.Lays.n197 Tryz.prog z_lays197_ren := {
  mixed := by kernel_rfl
  f197 := Tryz.func85.trans (congrArg some (by kernel_rfl))
  f260 := Tryz.func120.trans (congrArg some (by kernel_rfl))
  t0 := Tryz.underlying0
  a0 := Tryz.isAgg0
  z0 := Tryz.sizeOf0
  v0 := Tryz.zeroValue0
  t3 := Tryz.underlying3
  a3 := Tryz.isAgg3
  z3 := Tryz.sizeOf3
  v3 := Tryz.zeroValue3
  t4 := Tryz.underlying4
  a4 := Tryz.isAgg4
  z4 := Tryz.sizeOf4
  v4 := Tryz.zeroValue4
  t5 := Tryz.underlying5
  a5 := Tryz.isAgg5
  z5 := Tryz.sizeOf5
  v5 := Tryz.zeroValue5
  t9 := Tryz.underlying9
  a9 := Tryz.isAgg9
  z9 := Tryz.sizeOf9
  v9 := Tryz.zeroValue9
  t21 := Tryz.underlying21
  a21 := Tryz.isAgg21
  z21 := Tryz.sizeOf21
  v21 := Tryz.zeroValue21
  t46 := Tryz.underlying140
  a46 := Tryz.isAgg140
  z46 := Tryz.sizeOf140
  v46 := Tryz.zeroValue140
  t105 := Tryz.underlying97
  a105 := Tryz.isAgg97
  z105 := Tryz.sizeOf97
  v105 := Tryz.zeroValue97
  t119 := Tryz.underlying136
  a119 := Tryz.isAgg136
  z119 := Tryz.sizeOf136
  t138 := Tryz.underlying138
  a138 := Tryz.isAgg138
  z138 := Tryz.sizeOf138
  v138 := Tryz.zeroValue138
  t139 := Tryz.underlying139
  a139 := Tryz.isAgg139
  z139 := Tryz.sizeOf139
  v139 := Tryz.zeroValue139
  g3 := by kernel_rfl
  g4 := by kernel_rfl }
def z_lays150_ren : Go.Shelf.Ren := ⟨fun | 150 => 52 | 153 => 76 | 152 => 104 | 226 => 105 | 227 => 106 | 228 => 107 | 137 => 132 | 119 => 133 | 224 => 124 | 225 => 123 | 217 => 122 | 266 => 148 | n => n, fun | 9 => 9 | 4 => 4 | 3 => 3 | 5 => 5 | 21 => 21 | 117 => 121 | 116 => 120 | 0 => 0 | 46 => 140 | 124 => 146 | n => n, fun | n => n⟩
theorem z_lays150 : Go.Proofs.Lays.n150 Tryz.prog z_lays150_ren := {
  mixed := by kernel_rfl
  f119 := Tryz.func133.trans (congrArg some (by kernel_rfl))
  f137 := Tryz.func132.trans (congrArg some (by kernel_rfl))
  f150 := Tryz.func52.trans (congrArg some (by kernel_rfl))
  f152 := Tryz.func104.trans (congrArg some (by kernel_rfl))
  f153 := Tryz.func76.trans (congrArg some (by kernel_rfl))
  f217 := Tryz.func122.trans (congrArg some (by kernel_rfl))
  f224 := Tryz.func124.trans (congrArg some (by kernel_rfl))
  f225 := Tryz.func123.trans (congrArg some (by kernel_rfl))
  f226 := Tryz.func105.trans (congrArg some (by kernel_rfl))
  f227 := Tryz.func106.trans (congrArg some (by kernel_rfl))
  f228 := Tryz.func107.trans (congrArg some (by kernel_rfl))
  f266 := Tryz.func148.trans (congrArg some (by kernel_rfl))
  t0 := Tryz.underlying0
  a0 := Tryz.isAgg0
  z0 := Tryz.sizeOf0
  v0 := Tryz.zeroValue0
  t3 := Tryz.underlying3
  a3 := Tryz.isAgg3
  z3 := Tryz.sizeOf3
  v3 := Tryz.zeroValue3
  t4 := Tryz.underlying4
  a4 := Tryz.isAgg4
  z4 := Tryz.sizeOf4
  v4 := Tryz.zeroValue4
  t5 := Tryz.underlying5
  a5 := Tryz.isAgg5
  z5 := Tryz.sizeOf5
  v5 := Tryz.zeroValue5
  t9 := Tryz.underlying9
  a9 := Tryz.isAgg9
  z9 := Tryz.sizeOf9
  v9 := Tryz.zeroValue9
  t21 := Tryz.underlying21
  a21 := Tryz.isAgg21
  z21 := Tryz.sizeOf21
  v21 := Tryz.zeroValue21
  t46 := Tryz.underlying140
  a46 := Tryz.isAgg140
  z46 := Tryz.sizeOf140
  v46 := Tryz.zeroValue140
  t116 := Tryz.underlying120
  a116 := Tryz.isAgg120
  z116 := Tryz.sizeOf120
  t117 := Tryz.underlying121
  a117 := Tryz.isAgg121
  z117 := Tryz.sizeOf121
  v117 := Tryz.zeroValue121
  t124 := Tryz.underlying146
  a124 := Tryz.isAgg146
  z124 := Tryz.sizeOf146
  v124 := Tryz.zeroValue146 }
open Go.RowKit Go.Lib in
theorem z_strings_ContainsAny_laid (s chars : ByteArray) (w : World) (hs : s.size < 4294967281) (hcs : chars.size < 4294967281) (has : ∀ (j : Nat) b, s.data.toList[j]? = some b → b.toNat < 128) (hac : ∀ (j : Nat) b, chars.data.toList[j]? = some b → b.toNat < 128) :
    Calls Tryz.prog 52 #[.string s, .string chars] w fun e w' => e = .returned (.bool (Lib.containsAny s.data.toList chars.data.toList)) ∧ Below w.heap.size w w' := Any.strings_ContainsAny_laid z_lays150 (by kernel_rfl) s chars w hs hcs has hac
def z_lays105_ren : Go.Shelf.Ren := ⟨fun | 105 => 150 | 212 => 165 | 99 => 166 | 165 => 84 | 166 => 34 | 170 => 167 | 169 => 36 | 263 => 179 | 264 => 180 | 206 => 177 | 240 => 57 | 241 => 119 | 276 => 83 | 277 => 147 | n => n, fun | 9 => 9 | 3 => 3 | 4 => 4 | 20 => 20 | 0 => 0 | 46 => 140 | 109 => 174 | 5 => 5 | 72 => 57 | 76 => 61 | 51 => 160 | 146 => 161 | 53 => 147 | 148 => 184 | 70 => 54 | 37 => 55 | 75 => 59 | 127 => 83 | 164 => 104 | 80 => 64 | n => n, fun | n => n⟩
theorem z_lays105 : Go.Proofs.Lays.n105 Tryz.prog z_lays105_ren := {
  mixed := by kernel_rfl
  f99 := Tryz.func166.trans (congrArg some (by kernel_rfl))
  f105 := Tryz.func150.trans (congrArg some (by kernel_rfl))
  f165 := Tryz.func84.trans (congrArg some (by kernel_rfl))
  f166 := Tryz.func34.trans (congrArg some (by kernel_rfl))
  f169 := Tryz.func36.trans (congrArg some (by kernel_rfl))
  f170 := Tryz.func167.trans (congrArg some (by kernel_rfl))
  f206 := Tryz.func177.trans (congrArg some (by kernel_rfl))
  f212 := Tryz.func165.trans (congrArg some (by kernel_rfl))
  f240 := Tryz.func57.trans (congrArg some (by kernel_rfl))
  f241 := Tryz.func119.trans (congrArg some (by kernel_rfl))
  f263 := Tryz.func179.trans (congrArg some (by kernel_rfl))
  f264 := Tryz.func180.trans (congrArg some (by kernel_rfl))
  f276 := Tryz.func83.trans (congrArg some (by kernel_rfl))
  f277 := Tryz.func147.trans (congrArg some (by kernel_rfl))
  t0 := Tryz.underlying0
  a0 := Tryz.isAgg0
  z0 := Tryz.sizeOf0
  v0 := Tryz.zeroValue0
  t3 := Tryz.underlying3
  a3 := Tryz.isAgg3
  z3 := Tryz.sizeOf3
  v3 := Tryz.zeroValue3
  t4 := Tryz.underlying4
  a4 := Tryz.isAgg4
  z4 := Tryz.sizeOf4
  v4 := Tryz.zeroValue4
  t5 := Tryz.underlying5
  a5 := Tryz.isAgg5
  z5 := Tryz.sizeOf5
  v5 := Tryz.zeroValue5
  t9 := Tryz.underlying9
  a9 := Tryz.isAgg9
  z9 := Tryz.sizeOf9
  v9 := Tryz.zeroValue9
  t20 := Tryz.underlying20
  a20 := Tryz.isAgg20
  z20 := Tryz.sizeOf20
  v20 := Tryz.zeroValue20
  t37 := Tryz.underlying55
  a37 := Tryz.isAgg55
  z37 := Tryz.sizeOf55
  v37 := Tryz.zeroValue55
  t46 := Tryz.underlying140
  a46 := Tryz.isAgg140
  z46 := Tryz.sizeOf140
  v46 := Tryz.zeroValue140
  t51 := Tryz.underlying160
  a51 := Tryz.isAgg160
  z51 := Tryz.sizeOf160
  v51 := Tryz.zeroValue160
  t53 := Tryz.underlying147
  a53 := Tryz.isAgg147
  z53 := Tryz.sizeOf147
  v53 := Tryz.zeroValue147
  t70 := Tryz.underlying54
  a70 := Tryz.isAgg54
  z70 := Tryz.sizeOf54
  v70 := Tryz.zeroValue54
  t72 := Tryz.underlying57
  a72 := Tryz.isAgg57
  z72 := Tryz.sizeOf57
  v72 := Tryz.zeroValue57
  t75 := Tryz.underlying59
  a75 := Tryz.isAgg59
  z75 := Tryz.sizeOf59
  v75 := Tryz.zeroValue59
  t76 := Tryz.underlying61
  a76 := Tryz.isAgg61
  z76 := Tryz.sizeOf61
  v76 := Tryz.zeroValue61
  t109 := Tryz.underlying174
  a109 := Tryz.isAgg174
  z109 := Tryz.sizeOf174
  v109 := Tryz.zeroValue174
  t127 := Tryz.underlying83
  a127 := Tryz.isAgg83
  z127 := Tryz.sizeOf83
  v127 := Tryz.zeroValue83
  t146 := Tryz.underlying161
  a146 := Tryz.isAgg161
  z146 := Tryz.sizeOf161
  v146 := Tryz.zeroValue161
  t148 := Tryz.underlying184
  a148 := Tryz.isAgg184
  z148 := Tryz.sizeOf184
  v148 := Tryz.zeroValue184
  t164 := Tryz.underlying104
  a164 := Tryz.isAgg104
  z164 := Tryz.sizeOf104
  v164 := Tryz.zeroValue104 }
theorem z_Builder_Extra_105 : Builder.Extra Tryz.prog z_lays105_ren := {
  sizeBuilder := by kernel_rfl
  liesBuilder := by kernel_rfl
  t5 := Tryz.underlying5
  a5 := Tryz.isAgg5
  z5 := Tryz.sizeOf5
  v5 := Tryz.zeroValue5
  infoByte := by kernel_rfl
  cellsByte := by kernel_rfl
  sizeByte := by kernel_rfl
  neB5 := by decide }
open Go.RowKit Go.Lib in
theorem z_strings_Repeat (s : ByteArray) (c : Nat) (w : World) (hc : c ≤ 9223372036854775807) (hlen : s.size * c ≤ 140737488355328) :
    Calls Tryz.prog 150 #[.string s, .int .i64 c] w fun e w' => e = .returned (.string ⟨(Lib.repeatL s.data.toList c).toArray⟩) ∧ Below w.heap.size w w' := Any.strings_Repeat z_lays105 z_Builder_Extra_105 s c w hc hlen
open Go.RowKit Go.Lib in
theorem z_utf8_DecodeRuneInString (s : ByteArray) (w : World) (hT : Lib.Utf8Tabs 1 2 w) :
    Calls Tryz.prog 85 #[.string s] w fun e w' => e = .returned (.tuple #[.int .i32 (Lib.decodeGo s).1, .int .i64 (Lib.decodeGo s).2]) ∧ Below w.heap.size w w' := Any.utf8_DecodeRuneInString z_lays197 s w hT
def z_lays109_ren : Go.Shelf.Ren := ⟨fun | 109 => 128 | n => n, fun | 31 => 22 | 9 => 9 | 3 => 3 | 0 => 0 | 4 => 4 | n => n, fun | n => n⟩
theorem z_lays109 : Go.Proofs.Lays.n109 Tryz.prog z_lays109_ren := {
  mixed := by kernel_rfl
  f109 := Tryz.func128.trans (congrArg some (by kernel_rfl))
  t0 := Tryz.underlying0
  a0 := Tryz.isAgg0
  z0 := Tryz.sizeOf0
  v0 := Tryz.zeroValue0
  t3 := Tryz.underlying3
  a3 := Tryz.isAgg3
  z3 := Tryz.sizeOf3
  v3 := Tryz.zeroValue3
  t4 := Tryz.underlying4
  a4 := Tryz.isAgg4
  z4 := Tryz.sizeOf4
  v4 := Tryz.zeroValue4
  t9 := Tryz.underlying9
  a9 := Tryz.isAgg9
  z9 := Tryz.sizeOf9
  v9 := Tryz.zeroValue9
  t31 := Tryz.underlying22
  a31 := Tryz.isAgg22
  z31 := Tryz.sizeOf22
  v31 := Tryz.zeroValue22 }
open Go.Lib in
theorem z_slices_Index_string (b off n c : Nat) (zs : List ByteArray) (x : ByteArray) (w : World) (hz : n ≤ zs.length) (hbig : n ≤ 9223372036854775807) (hc : ∀ j, j < zs.length → w.cell? ⟨b, off + j, none⟩ = some (.string (zs.getD j ByteArray.empty))) :
    Calls Tryz.prog 128 #[.slice (some ⟨b, off, none⟩) n c, .string x] w fun e w' => e = .returned (.int .i64 (Lib.idxOfS (zs.take n) x)) ∧ w' = w := Any.slices_Index_string z_lays109 b off n c zs x w hz hbig hc
open Go.Lib in
theorem z_slices_Index_string_empty (a : Option Addr) (c : Nat) (x : ByteArray) (w : World) :
    Calls Tryz.prog 128 #[.slice a 0 c, .string x] w fun e w' => e = .returned (.int .i64 (Lib.idxOfS [] x)) ∧ w' = w := Any.slices_Index_string_empty z_lays109 a c x w
end Go.Proofs.YtaoceiiakcpbaaaGreatDoor
end
section
namespace Go.Proofs.YtaoceiiakcpbaaaGreatDoor
open Go Go.X Go.Proofs Go.RowKit
set_option linter.unusedVariables false
theorem IndexByte_pc {gl : Fr} {s : ByteArray} {c : Int} {R : Int → Prop} (h : R (Lib.indexByte (lb s) c.toNat.toUInt8)) : PC Tryz.prog gl 132 [Arg.mk .str s, Arg.mk (.int .u8) c] [.int .i64] R :=
  PC.of_same rfl (fun _ => ret_int _ _) h fun w _ => z_strings_IndexByte s c w
theorem CutPrefix_pc {gl : Fr} {s p : ByteArray} {R : ByteArray × Bool → Prop} (h : R (bl (Lib.trimPrefix (lb s) (lb p)), Lib.hasPrefix (lb s) (lb p))) : PC Tryz.prog gl 138 [Arg.mk .str s, Arg.mk .str p] [.str, .bool] R :=
  PC.of_same rfl (fun M => ⟨[_, _], ⟨_, _, rfl, rfl, _, rfl, rfl⟩, rfl⟩) h fun w _ => z_strings_CutPrefix s p w
theorem TrimPrefix_pc {gl : Fr} {s p : ByteArray} {R : ByteArray → Prop} (h : R (bl (Lib.trimPrefix (lb s) (lb p)))) : PC Tryz.prog gl 140 [Arg.mk .str s, Arg.mk .str p] [.str] R :=
  PC.of_same rfl (fun _ => ret_str _) h fun w _ => z_strings_TrimPrefix s p w
theorem TrimLeft_pc {gl : Fr} {s : ByteArray} {c : UInt8} (hc : c.toNat < 128) {R : ByteArray → Prop} (h : R (bl (Lib.trimLeftB (lb s) c))) : PC Tryz.prog gl 117 [Arg.mk .str s, Arg.mk .str ⟨#[c]⟩] [.str] R :=
  PC.of_same rfl (fun _ => ret_str _) h fun w _ => z_strings_TrimLeft_one s c hc w
theorem TrimRight_pc {gl : Fr} {s : ByteArray} {c : UInt8} (hc : c.toNat < 128) (hs : s.size ≤ 9223372036854775807) {R : ByteArray → Prop} (h : R (bl (Lib.trimRightB (lb s) c))) : PC Tryz.prog gl 118 [Arg.mk .str s, Arg.mk .str ⟨#[c]⟩] [.str] R :=
  PC.of_same rfl (fun _ => ret_str _) h fun w _ => z_strings_TrimRight_one s c hc w hs
def MaxLen (gl : Fr) : Prop := ∃ (cs : Array Value) (m : Int), gl 0 = some cs ∧ cs[0]? = some (.int .i64 m)
theorem drewN_below (w : World) (n : Nat) : Below w.heap.size w (w.drewN n) := ⟨rfl, rfl, rfl, Nat.le_refl _, fun _ _ => rfl⟩
theorem Cut_pc {gl : Fr} (hg : MaxLen gl) {s sep : ByteArray} (hs : s.size < 4294967281) {R : ByteArray × ByteArray × Bool → Prop} (h : R (bl (Lib.cut (lb s) (lb sep)).1, bl (Lib.cut (lb s) (lb sep)).2.1, (Lib.cut (lb s) (lb sep)).2.2)) : PC Tryz.prog gl 61 [Arg.mk .str s, Arg.mk .str sep] [.str, .str, .bool] R := by
  obtain ⟨cs, m, h1, h2⟩ := hg
  exact PC.of_scal rfl (fun M => ⟨[_, _, _], ⟨_, _, rfl, rfl, _, _, rfl, rfl, _, rfl, rfl⟩, rfl⟩) h fun w hw => (z_strings_Cut s sep m w hs (hw.glob h1 h2)).mono fun e w' ⟨he, n, hn⟩ => ⟨he, hn ▸ drewN_below w n⟩
theorem Count_pc {gl : Fr} (hg : MaxLen gl) {s sep : ByteArray} (hs : s.size < 4294967281) (h1' : 1 ≤ sep.size) {R : Int → Prop} (h : R (Lib.countB s sep : Int)) : PC Tryz.prog gl 41 [Arg.mk .str s, Arg.mk .str sep] [.int .i64] R := by
  obtain ⟨cs, m, h1, h2⟩ := hg
  exact PC.of_same rfl (fun _ => ret_int _ _) h fun w hw => z_strings_Count_any s sep m w hs (hw.glob h1 h2) h1'
theorem ReplaceAll_pc {gl : Fr} (hg : MaxLen gl) {s old new : ByteArray} (hs : s.size < 4294967281) (h1' : 1 ≤ old.size) (hlen : s.size + Lib.countB s old * new.size ≤ 140737488355328) {R : ByteArray → Prop} (h : R (bl (Lib.replaceAll (lb s) (lb old) (lb new)))) :
    PC Tryz.prog gl 35 [Arg.mk .str s, Arg.mk .str old, Arg.mk .str new] [.str] R := by
  obtain ⟨cs, m, h1, h2⟩ := hg
  exact PC.of_scal rfl (fun _ => ret_str _) h fun w hw => z_strings_ReplaceAll s old new m w hs (hw.glob h1 h2) h1' hlen
theorem Repeat_pc {gl : Fr} {s : ByteArray} {c : Nat} (hc : c ≤ 9223372036854775807) (hlen : s.size * c ≤ 140737488355328) {R : ByteArray → Prop} (h : R (bl (Lib.repeatL (lb s) c))) : PC Tryz.prog gl 150 [Arg.mk .str s, Arg.mk (.int .i64) (c : Int)] [.str] R :=
  PC.of_scal rfl (fun _ => ret_str _) h fun w hw => z_strings_Repeat s c w hc hlen
theorem Split_pc {gl : Fr} (hg : MaxLen gl) {s sep : ByteArray} (hs : s.size < 4294967281) (h1' : 1 ≤ sep.size) (hc : Lib.countB s sep + 1 ≤ 140737488355328) {R : List ByteArray → Prop} (hl : (Lib.splitB sep 0 (Lib.countB s sep) s).length = Lib.countB s sep + 1) (h : R (Lib.splitB sep 0 (Lib.countB s sep) s)) :
    PC Tryz.prog gl 42 [Arg.mk .str s, Arg.mk .str sep] [.row .str] R := by
  obtain ⟨cs, m, h1, h2⟩ := hg
  exact PC.of_row (t := .str) (cells := ((Lib.splitB sep 0 (Lib.countB s sep) s).map Value.string).toArray) (T := 9) rfl (fun M => by simpa using rowC_strs M _) (by rw [hl]; exact hc) h fun w hw => (z_strings_Split s sep m w hs (hw.glob h1 h2) h1').mono fun e w' ⟨he, hw'⟩ => ⟨by rw [hl]; exact he, hw'⟩
def Tabs (gl : Fr) : Prop := (∃ cs : Array Value, gl 1 = some cs ∧ ∀ c, c < 256 → cs[c]? = some (.int .u8 (Lib.firstT c))) ∧ ∃ cs : Array Value, gl 2 = some cs ∧ ∀ i, i < 16 → cs[2 * i]? = some (.int .u8 (Lib.accLo i)) ∧ cs[2 * i + 1]? = some (.int .u8 (Lib.accHi i))
theorem Tabs.at {gl : Fr} (h : Tabs gl) {w : World} (hw : AgM gl w.heap) : Lib.Utf8Tabs 1 2 w := by
  obtain ⟨⟨c1, a1, b1⟩, c2, a2, b2⟩ := h
  exact ⟨fun c hc => hw.glob a1 (b1 c hc), fun i hi => ⟨hw.glob a2 (b2 i hi).1, hw.glob a2 (b2 i hi).2⟩⟩
theorem Decode_pc {gl : Fr} (hg : Tabs gl) {s : ByteArray} {R : Int × Int → Prop} (h : R ((Lib.decodeGo s).1, (Lib.decodeGo s).2)) : PC Tryz.prog gl 85 [Arg.mk .str s] [.int .i32, .int .i64] R :=
  PC.of_scal rfl (fun M => ⟨[_, _], ⟨_, _, rfl, rfl, _, rfl, rfl⟩, rfl⟩) h fun w hw => z_utf8_DecodeRuneInString s w (hg.at hw)
theorem grow_below (w : World) (k : Nat) (os : Array Obj) : Below w.heap.size w (Go.Sort.grow (w.drewN k) os) := ⟨rfl, rfl, rfl, by simp [Go.Sort.grow, World.drewN], fun i hi => by
  show ((w.drewN k).heap ++ os)[i]? = _
  exact Array.getElem?_append_left hi⟩
def Pow (gl : Fr) : Prop := ∃ b cs, Tryz.prog.globalNamed "internal/strconv.uint64pow10" = some b ∧ gl b = some cs ∧ cs = (Lib.pow10Tab.map fun z => Value.int .u64 z).toArray
theorem Itoa_pc {gl : Fr} (hg : Pow gl) {n : Int} (h0 : -9223372036854775808 ≤ n) (h1 : n ≤ 9223372036854775807) {R : ByteArray → Prop} (h : R (bl (Lib.itoa n))) : PC Tryz.prog gl 81 [Arg.mk (.int .i64) n] [.str] R := by
  obtain ⟨b, cs, e1, e2, e3⟩ := hg
  refine PC.of_scal rfl (fun _ => ret_str _) h fun w hw => (z_strconv_Itoa n h0 h1 w ?_).mono fun e w' ⟨he, k, os, hw'⟩ => ⟨he, hw' ▸ grow_below w k os⟩
  obtain ⟨T, m, e4⟩ := hw b cs e2
  unfold Lib.TabIs World.var?
  rw [e1]
  simp only [Option.bind_some, e4, e3]
def atoiR (l : List UInt8) : Int × Bool := match Lib.atoiAll l with
  | .ok v => (v, true)
  | .range => (Lib.atoiSat l, false)
  | _ => (0, false)
def ErrVars (gl : Fr) : Prop := (∃ (cs : Array Value) (e : Value), gl 3 = some cs ∧ cs[0]? = some e ∧ (e = .nilIface ∨ ∃ te pe, e = .iface te pe)) ∧ ∃ (cs : Array Value) (e : Value), gl 4 = some cs ∧ cs[0]? = some e ∧ (e = .nilIface ∨ ∃ te pe, e = .iface te pe)
theorem ret_err {M : Fr} (k : IntKind) (i : Int) (t : TypeId) (u : Value) : RetV M [.int k, .err] (i, false) (.tuple #[.int k i, .iface t u]) := ⟨[_, _], ⟨_, _, rfl, rfl, .iface t u, rfl, ⟨_, rfl, .inr ⟨rfl, _, _, rfl⟩⟩⟩, rfl⟩
theorem ret_noerr {M : Fr} (k : IntKind) (i : Int) : RetV M [.int k, .err] (i, true) (.tuple #[.int k i, .nilIface]) := ⟨[_, _], ⟨_, _, rfl, rfl, .nilIface, rfl, ⟨_, rfl, .inl ⟨rfl, rfl⟩⟩⟩, rfl⟩
theorem Atoi_pc {gl : Fr} (hg : ErrVars gl) {s : ByteArray} (hs : s.size ≤ 281474976710656) {R : Int × Bool → Prop} (h : R (atoiR (lb s))) : PC Tryz.prog gl 53 [Arg.mk .str s] [.int .i64, .err] R := by
  unfold atoiR at h
  cases hx : Lib.atoiAll (lb s) with
  | ok v =>
    rw [hx] at h
    refine PC.of_ex rfl fun w hw => (z_strconv_Atoi_ok s (by omega) v hx w).mono fun e w' ⟨he, hw'⟩ => ⟨_, (v, true), he, fun M => ret_noerr _ _, h, ?_⟩
    rcases hw' with rfl | ⟨t, rfl⟩
    · exact Below.refl _ _
    · exact Lib.bytesWorld_below _ _ _
  | range =>
    rw [hx] at h
    obtain ⟨_, ⟨cs, ev, e1, e2, e3⟩⟩ := hg
    exact PC.of_ex rfl fun w hw => (z_strconv_Atoi_range s hs hx ev w (hw.glob e1 e2) e3).mono fun e w' ⟨N, he, _, _, bel⟩ => ⟨_, (Lib.atoiSat (lb s), false), he, fun M => ret_err _ _ _ _, h, bel⟩
  | _ =>
    rw [hx] at h
    obtain ⟨⟨cs, ev, e1, e2, e3⟩, _⟩ := hg
    exact PC.of_ex rfl fun w hw => (z_strconv_Atoi_syntax s hs hx ev w (hw.glob e1 e2) e3).mono fun e w' ⟨N, he, _, _, bel⟩ => ⟨_, (0, false), he, fun M => ret_err _ _ _ _, h, bel⟩
def parseIntR (l : List UInt8) : Int × Bool := match Lib.parseIntB 64 l with
  | .ok v => (v, true)
  | .range => (Lib.intSat 64 l, false)
  | _ => (0, false)
theorem ParseInt_pc {gl : Fr} (hg : ErrVars gl) {s : ByteArray} (hs : s.size ≤ 281474976710656) {R : Int × Bool → Prop} (h : R (parseIntR (lb s))) : PC Tryz.prog gl 151 [Arg.mk .str s, Arg.mk (.int .i64) 10, Arg.mk (.int .i64) 64] [.int .i64, .err] R := by
  unfold parseIntR at h
  cases hx : Lib.parseIntB 64 (lb s) with
  | ok v =>
    rw [hx] at h
    refine PC.of_ex rfl fun w hw => (z_strconv_ParseInt_10_at64_ok s (by omega) v hx w).mono fun e w' ⟨he, hw'⟩ => ⟨_, (v, true), he, fun M => ret_noerr _ _, h, ?_⟩
    rcases hw' with rfl | ⟨t, rfl⟩
    · exact Below.refl _ _
    · exact Lib.bytesWorld_below _ _ _
  | range =>
    rw [hx] at h
    obtain ⟨_, ⟨cs, ev, e1, e2, e3⟩⟩ := hg
    exact PC.of_ex rfl fun w hw => (z_strconv_ParseInt_10_at64_range s hs hx ev w (hw.glob e1 e2) e3).mono fun e w' ⟨N, he, _, _, bel⟩ => ⟨_, (Lib.intSat 64 (lb s), false), he, fun M => ret_err _ _ _ _, h, bel⟩
  | _ =>
    rw [hx] at h
    obtain ⟨⟨cs, ev, e1, e2, e3⟩, _⟩ := hg
    exact PC.of_ex rfl fun w hw => (z_strconv_ParseInt_10_at64_syntax s hs hx ev w (hw.glob e1 e2) e3).mono fun e w' ⟨N, he, _, _, bel⟩ => ⟨_, (0, false), he, fun M => ret_err _ _ _ _, h, bel⟩
theorem ContainsAny_pc {gl : Fr} {s c : ByteArray} (hs : s.size < 4294967281) (hc : c.size < 4294967281) (has : ∀ (j : Nat) b, (lb s)[j]? = some b → b.toNat < 128) (hac : ∀ (j : Nat) b, (lb c)[j]? = some b → b.toNat < 128) {R : Bool → Prop} (h : R (Lib.containsAny (lb s) (lb c))) :
    PC Tryz.prog gl 52 [Arg.mk .str s, Arg.mk .str c] [.bool] R :=
  PC.of_scal rfl (fun _ => ret_bool _) h fun w hw => z_strings_ContainsAny_laid s c w hs hc has hac
theorem SlicesIndex_pc {gl : Fr} {xs : List ByteArray} {x : ByteArray} {R : Int → Prop} (h : R (Lib.idxOfS xs x)) : PC Tryz.prog gl 128 [Arg.mk (.row .str) xs, Arg.mk .str x] [.int .i64] R := by
  intro hp M vs hM ag ha
  match vs, ha with
  | [u, v], ⟨h1, h2, _⟩ =>
    have h1' : Rd M (.row .str) xs [u] := by simpa [RdV, aggT] using h1
    have h2' : v = .string x := by simpa [RdV, aggT, Rd] using h2
    subst h2'
    obtain ⟨s, rfl, hl, hn, cells, hc, ha⟩ := Rd.rowC ag h1'
    have := rowC_strs_eq hc
    subst this
    have key : ∀ w : World, w.heap = hp → Calls Tryz.prog 128 #[slV s, .string x] w fun e w' => e = .returned (.int .i64 (Lib.idxOfS xs x)) ∧ w' = w := by
      intro w hw
      rcases ha with h0 | ⟨b, o, e1, e2, e3⟩
      · have hx : xs = [] := by simpa using h0
        subst hx
        have := z_slices_Index_string_empty s.a s.cap x w
        simp only [slV, hl]; exact this
      · have := z_slices_Index_string b o s.len s.cap xs x w (by omega) (by omega) (fun j hj => by
          have := e3 j (.string (xs.getD j ByteArray.empty)) (by rw [List.getElem?_map, List.getElem?_eq_getElem hj, List.getD_eq_getElem?_getD, List.getElem?_eq_getElem hj]; rfl)
          rw [← hw] at this
          exact this)
        rw [hl, List.take_length] at this
        simp only [slV, e1, hl]; exact this
    refine XC.of_calls fun B d => (key (mk B d hp) rfl).mono ?_
    rintro e w' ⟨rfl, rfl⟩
    exact ⟨_, rfl, rfl, rfl, rfl, Keep.refl _ _, M, _, Fr.le.refl _, fun _ _ => rfl, ag, ret_int _ _, h⟩
end Go.Proofs.YtaoceiiakcpbaaaGreatDoor
end
section
namespace Go.X
open Go Go.Lib
set_option linter.unusedVariables false
theorem bl_size (l : Bs) : (bl l).size = l.length := by rw [← lb_len, lb_bl]
theorem bl_extract (l : Bs) (a b : Nat) : (bl l).extract a b = bl ((l.drop a).take (b - a)) := by rw [← lb_inj, lb_extract, lb_bl, lb_bl]
theorem bl_append (a b : Bs) : bl a ++ bl b = bl (a ++ b) := by rw [← lb_inj, lb_append, lb_bl, lb_bl, lb_bl]
theorem bl_byteAt (l : Bs) (i : Nat) : byteAt (bl l) i = ((l[i]?.getD 0).toNat : Int) := by rw [byteAt_lb, lb_bl]
theorem toList_lb (s : ByteArray) : s.toList = lb s := by
  cases s with
  | mk d => exact Go.Lib.toList_data ⟨d⟩
theorem bl_eq (a b : Bs) : ((bl a).toList == (bl b).toList) = decide (a = b) := by
  rw [toList_lb, toList_lb, lb_bl, lb_bl]
  rw [Bool.eq_iff_iff]; simp
theorem nxB_bl (l : Bs) (p : Nat) : nxB (bl l) p = decide (p < l.length) := by
  rw [Bool.eq_iff_iff]; simp [nxB, bl_size]
theorem nxR_bl (l : Bs) (p : Nat) : nxR (bl l) p = ((dec (l.drop p)).1 : Int) := by rw [nxR, dec_at, lb_bl]
theorem nxP_bl (l : Bs) (p : Nat) (h : p < l.length) : nxP (bl l) p = p + (dec (l.drop p)).2 := by
  rw [nxP, dec_at, lb_bl]
  have : Nat.blt p (bl l).size = true := by simp [bl_size, h]
  rw [this]; rfl
theorem getDlt {l : Bs} {i : Nat} (h : i < l.length) : l[i]?.getD 0 = l[i] := by rw [List.getElem?_eq_getElem h]; rfl
theorem u8lt (c : UInt8) : (c.toNat : Int) < 256 := by have := c.toNat_lt; omega
def isDig (c : UInt8) : Bool := decide (48 ≤ c.toNat) && decide (c.toNat ≤ 57)
def digs (l : Bs) : Bool := l.all isDig && !l.isEmpty
abbrev Nm := Bool × Bs × Int
abbrev nmB (n : Nm) : Bool × ByteArray × Int := (n.1, (bl n.2.1, n.2.2))
def nought (n : Nm) : Bool := !n.1 && (n.2.1.isEmpty && n.2.2 == 0)
def nmRight (n : Nm) : Bool := nought n || (digs n.2.1 && decide (n.2.1.length ≤ 1000) && n.2.1.head? != some 48 && n.2.1.getLast? != some 48 && decide (-1000000 ≤ n.2.2) && decide (n.2.2 ≤ 1000000))
def nmText (n : Nm) : Bs := if nmRight n then (if n.2.1 = [] then [48] else (if n.1 then [45] else []) ++ n.2.1 ++ (if n.2.2 = 0 then [] else 101 :: Go.Lib.itoa n.2.2)) else []
theorem nmRight_nil {n : Nm} (h : nmRight n = true) (e : n.2.1 = []) : nought n = true := by
  unfold nmRight at h
  rcases Bool.or_eq_true _ _ ▸ h with h | h
  · exact h
  · simp [digs, e] at h
theorem nmRight_len {n : Nm} (h : nmRight n = true) : n.2.1.length ≤ 1000 ∧ -1000000 ≤ n.2.2 ∧ n.2.2 ≤ 1000000 := by
  unfold nmRight nought at h
  obtain ⟨a, d, e⟩ := n
  simp at h
  rcases h with ⟨_, h, h'⟩ | h
  · subst h; subst h'; simp
  · simp only; omega
def cutAt (p : UInt8 → Bool) : Bs → Bs × Bs × Bool
  | [] => ([], [], false)
  | c :: l => if p c then ([], l, true) else (c :: (cutAt p l).1, (cutAt p l).2)
theorem cutAt_none {p : UInt8 → Bool} : ∀ {l}, (∀ c ∈ l, p c = false) → cutAt p l = (l, [], false)
  | [], _ => rfl
  | c :: l, h => by
    unfold cutAt
    rw [if_neg (by simp [h c (by simp)]), cutAt_none fun c hc => h c (by simp [hc])]
theorem cutAt_at {p : UInt8 → Bool} : ∀ {l : Bs} {k : Nat} (hk : k < l.length), (∀ i (hi : i < k), p (l[i]'(by omega)) = false) → p l[k] = true → cutAt p l = (l.take k, l.drop (k + 1), true)
  | c :: l, 0, _, _, h => by
    unfold cutAt
    rw [if_pos (by simpa using h)]; simp
  | c :: l, k + 1, hk, h0, h => by
    unfold cutAt
    have h1 : p c = false := h0 0 (by omega)
    rw [if_neg (by simp [h1]), cutAt_at (k := k) (by simpa using hk) (fun i hi => by simpa using h0 (i + 1) (by omega)) (by simpa using h)]
    simp
structure Lit where
  neg : Bool
  whole : Bs
  rest : Bs
  low : Bool
  exp : Bs
def litS (s : Bs) : Bs := if s.head? == some 45 then s.tail else s
def isE (c : UInt8) : Bool := c == 101 || c == 69
def isDot (c : UInt8) : Bool := c == 46
def litM (s : Bs) : Bs × Bs × Bool := cutAt isE (litS s)
def litLow (s : Bs) : Bool := (litM s).2.2 && (litM s).2.1.head? == some 45
def litE (s : Bs) : Bs := if litLow s then (litM s).2.1.tail else if (litM s).2.1.head? == some 43 then (litM s).2.1.tail else (litM s).2.1
def litW (s : Bs) : Bs × Bs × Bool := cutAt isDot (litM s).1
def litOk (s : Bs) : Bool := (!(litM s).2.2 || digs (litE s)) && digs (litW s).1 && (!(litW s).2.2 || digs (litW s).2.1) && ((litW s).1 == [48] || (litW s).1.head? != some 48)
def litOf (s : Bs) : Lit := ⟨s.head? == some 45, (litW s).1, (litW s).2.1, litLow s, if (litM s).2.2 then litE s else []⟩
def numLit (s : Bs) : Option Lit := if litOk s then some (litOf s) else none
theorem numLit_some {s : Bs} {x : Lit} (h : numLit s = some x) : litOk s = true ∧ x = litOf s := by
  unfold numLit at h
  split at h
  · rename_i e; exact ⟨e, (Option.some.inj h).symm⟩
  · exact absurd h (by simp)
theorem cutAt_miss {p : UInt8 → Bool} : ∀ {l : Bs}, (cutAt p l).2.2 = false → (cutAt p l).1 = l ∧ (cutAt p l).2.1 = []
  | [], _ => ⟨rfl, rfl⟩
  | c :: l, h => by
    unfold cutAt at h ⊢
    split
    · rename_i e; rw [if_pos e] at h; exact absurd h (by simp)
    · rename_i e
      rw [if_neg e] at h
      have := cutAt_miss h
      exact ⟨by simp [this.1], this.2⟩
def shortOf (l : Bs) : Bs := ((l.dropWhile (· == 48)).reverse.dropWhile (· == 48)).reverse
def decVal (l : Bs) : Nat := l.foldl (fun n c => 10 * n + (c.toNat - 48)) 0
def numParse (s : Bs) : Nm × Int := match numLit s with
  | none => ((false, [], 0), 2)
  | some x =>
    if x.whole.length + x.rest.length > 1000 then ((false, [], 0), 3)
    else if (x.exp.dropWhile (· == 48)).length > 9 then ((false, [], 0), 4)
    else
      let e : Int := if x.low then - (decVal (x.exp.dropWhile (· == 48)) : Int) else decVal (x.exp.dropWhile (· == 48))
      let d := (x.whole ++ x.rest).dropWhile (· == 48)
      let short := shortOf (x.whole ++ x.rest)
      if d = [] then ((false, [], 0), 0)
      else if -1000000 ≤ e - x.rest.length + d.length - short.length ∧ e - x.rest.length + d.length - short.length ≤ 1000000 then ((x.neg, short, e - x.rest.length + d.length - short.length), 0)
      else ((false, [], 0), 4)
def nmInt (n : Nm) : Int × Bool :=
  if nmRight n && decide (0 ≤ n.2.2) && decide ((n.2.1.length : Int) + n.2.2 ≤ 19) then
    let v : Int := if n.1 then - ((decVal n.2.1 * 10 ^ n.2.2.toNat : Nat) : Int) else (decVal n.2.1 * 10 ^ n.2.2.toNat : Nat)
    if -9223372036854775808 ≤ v ∧ v ≤ 9223372036854775807 then (v, true) else (0, false)
  else (0, false)
end Go.X
end
section
namespace Go.Proofs.YtaoceiiakcpbaaaGreatDoor
open Go Go.X Go.Proofs
set_option linter.unusedVariables false
theorem wsucc {k n : Nat} (h : k < n) (hn : n ≤ 4611686018427387904) : IntKind.wrap .i64 ((k : Int) + 1) = ((k + 1 : Nat) : Int) := wrap_succ (by omega)
theorem refDigits_pc {gl : Fr} {l : Bs} (hl : l.length ≤ 4611686018427387904) {R : Bool → Prop} (h : R (digs l)) : PC Tryz.prog gl 171 [Arg.mk .str (bl l)] [.bool] R := by
  apply pu_scarfref02_digits
  simp only [bl_size, bl_byteAt]
  refine ⟨fun i => ∃ k : Nat, i = k ∧ k ≤ l.length ∧ digs l = (digs l && (l.drop k).all isDig) ∧ (l.drop k).all isDig = l.all isDig, fun i => l.length - i.toNat, ⟨0, rfl, by omega, by simp [digs]; exact fun h _ => h, by simp⟩, ?_⟩
  rintro i ⟨k, rfl, hk, -, h2⟩
  refine ⟨fun hc => ?_, fun hc => ?_⟩
  · have hc' : k < l.length := by simpa using hc
    simp only [Int.toNat_natCast, getDlt hc']
    rw [List.drop_eq_getElem_cons hc', List.all_cons] at h2
    refine ⟨by omega, fun _ => by omega, fun hx => ?_, fun hx => ?_⟩
    · have hd : isDig l[k] = false := by
        unfold isDig
        rw [Bool.cond_true_left] at hx
        have := l[k].toNat_lt
        rcases Bool.or_eq_true _ _ ▸ hx with hx | hx <;> simp at hx ⊢ <;> omega
      rw [hd] at h2
      simp only [Bool.false_and] at h2
      have : digs l = false := by simp [digs, ← h2]
      rw [this] at h; exact h
    · have hd : isDig l[k] = true := by
        unfold isDig
        rw [Bool.cond_true_left] at hx
        have := Bool.or_eq_false_iff.1 hx
        simp at this ⊢; omega
      rw [hd] at h2
      simp only [Bool.true_and] at h2
      rw [wsucc hc' hl]
      refine ⟨⟨k + 1, rfl, by omega, ?_, h2⟩, by simp; omega⟩
      rw [h2, digs]; cases l.all isDig <;> simp
  · have hc' : k = l.length := by have : ¬ (k < l.length) := by simpa using hc
                                  omega
    subst hc'
    rw [List.drop_length] at h2
    have : digs l = decide ((l.length : Int) > 0) := by
      rw [digs, ← h2]
      cases l <;> simp
    rw [this] at h; exact h
theorem dec_dig {l : Bs} (h : l ≠ []) : (48 ≤ (dec l).1 ∧ (dec l).1 ≤ 57) → (dec l).2 = 1 ∧ ∃ c t, l = c :: t ∧ isDig c = true ∧ (dec l).1 = c.toNat := by
  obtain ⟨c, t, rfl⟩ := List.exists_cons_of_ne_nil h
  intro hh
  by_cases hc : c.toNat < 128
  · rw [dec_ascii hc] at hh ⊢
    exact ⟨rfl, c, t, rfl, by simp [isDig]; simpa using hh, rfl⟩
  · exfalso
    unfold dec at hh
    have b0 : ((c :: t).getD 0 0).toNat = c.toNat := rfl
    rw [b0] at hh
    have := c.toNat_lt
    have b1 := ((c :: t).getD 1 0).toNat_lt; have b2 := ((c :: t).getD 2 0).toNat_lt; have b3 := ((c :: t).getD 3 0).toNat_lt
    generalize ((c :: t).getD 1 0).toNat = x1 at *
    generalize ((c :: t).getD 2 0).toNat = x2 at *
    generalize ((c :: t).getD 3 0).toNat = x3 at *
    generalize c.toNat = x0 at *
    unfold Lib.decodeN at hh
    rw [if_neg hc] at hh
    split at hh
    · split at hh <;> simp only at hh <;> omega
    · split at hh
      · split at hh <;> simp only at hh <;> omega
      · split at hh
        · split at hh <;> simp only at hh <;> omega
        · simp only at hh; omega
theorem digits_pc {gl : Fr} {l : Bs} {R : Bool → Prop} (h : R (digs l)) : PC Tryz.prog gl 114 [Arg.mk .str (bl l)] [.bool] R := by
  apply pu_number_digits
  refine ⟨fun p => p.1 = bl l ∧ p.2 ≤ l.length ∧ (l.drop p.2).all isDig = l.all isDig, fun p => l.length - p.2, ⟨rfl, by omega, by simp⟩, ?_⟩
  rintro ⟨_, p⟩ ⟨rfl, hp, h2⟩
  simp only at hp h2 ⊢
  rw [nxB_bl, nxR_bl]
  refine ⟨fun hc => ⟨hc, fun hx => ?_, fun hx => ?_⟩, fun hc => ?_⟩
  all_goals first
    | have hc' : p < l.length := by simpa using hc
    | have hc' : ¬ p < l.length := by simpa using hc
  · have hne : l.drop p ≠ [] := fun e => by have := congrArg List.length e; simp at this; omega
    have hd : ¬ (48 ≤ (dec (l.drop p)).1 ∧ (dec (l.drop p)).1 ≤ 57) := by
      rw [Bool.cond_true_left] at hx
      rcases Bool.or_eq_true _ _ ▸ hx with hx | hx <;> simp at hx <;> omega
    have hf : l.all isDig = false := by
      rw [← h2]
      obtain ⟨c, t, e⟩ := List.exists_cons_of_ne_nil hne
      rw [e]
      cases hcd : isDig c with
      | false => simp [hcd]
      | true =>
        exfalso; apply hd
        have : c.toNat < 128 := by simp [isDig] at hcd; omega
        rw [e, dec_ascii this]
        simpa [isDig] using hcd
    have : digs l = false := by simp [digs, hf]
    rw [this] at h; exact h
  · have hne : l.drop p ≠ [] := fun e => by have := congrArg List.length e; simp at this; omega
    have hd : 48 ≤ (dec (l.drop p)).1 ∧ (dec (l.drop p)).1 ≤ 57 := by
      rw [Bool.cond_true_left] at hx
      have := Bool.or_eq_false_iff.1 hx
      simp at this; omega
    obtain ⟨h1, c, t, e, hcd, _⟩ := dec_dig hne hd
    rw [nxP_bl l p hc', h1]
    refine ⟨⟨trivial, by omega, ?_⟩, by omega⟩
    have e2 : l.drop (p + 1) = t := by rw [← List.drop_drop, e]; rfl
    rw [e2, ← h2, e]; simp [hcd]
  · have : l.drop p = [] := List.drop_eq_nil_of_le (by omega)
    rw [this] at h2
    have e : digs l = !(decide (l = [])) := by
      rw [digs, ← h2]; cases l <;> simp
    have := bl_eq l []
    rw [show (⟨#[]⟩ : ByteArray) = bl [] from rfl, this, ← e]; exact h
abbrev tN : Ty := .pair .bool (.pair .str (.int .i64))
theorem nought_pc {gl : Fr} {n : Nm} {R : Bool → Prop} (h : R (nought n)) : PC Tryz.prog gl 169 [Arg.mk tN (nmB n)] [.bool] R := by
  apply pu_scarfref02_nought
  simp only [show (⟨#[]⟩ : ByteArray) = bl [] from rfl, bl_eq]
  have e : nought n = ((n.1 == false) && (decide (n.2.1 = []) && ((n.2.2 == 0) && true))) := by
    unfold nought
    rcases n with ⟨_ | _, _ | ⟨_, _⟩, e⟩ <;> simp
  rw [e] at h; exact h
theorem head_idx {l : Bs} (h : 0 < l.length) : (((l[0]?.getD 0).toNat : Int) != 48) = (l.head? != some 48) := by
  cases l with
  | nil => simp at h
  | cons c t =>
    rw [Bool.eq_iff_iff]; simp
    constructor
    · intro h1 h2; exact h1 (by rw [h2]; rfl)
    · intro h1 h2; exact h1 (UInt8.toNat_inj.1 (by have : c.toNat = 48 := by omega
                                                   rw [this]; rfl))
theorem last_idx {l : Bs} (h : 0 < l.length) : (((l[l.length - 1]?.getD 0).toNat : Int) != 48) = (l.getLast? != some 48) := by
  rw [List.getLast?_eq_getElem?]
  rw [List.getElem?_eq_getElem (by omega)]
  rw [Bool.eq_iff_iff]; simp
  constructor
  · intro h1 h2; exact h1 (by rw [h2]; rfl)
  · intro h1 h2; exact h1 (UInt8.toNat_inj.1 (by have : l[l.length - 1].toNat = 48 := by omega
                                                 rw [this]; rfl))
theorem digs_pos {l : Bs} (h : digs l = true) : 0 < l.length := by
  cases l with
  | nil => simp [digs] at h
  | cons => simp
theorem wpred {n : Nat} (h : 0 < n) (hn : n ≤ 4611686018427387904) : IntKind.wrap .i64 ((n : Int) - 1) = ((n - 1 : Nat) : Int) := by
  rw [wrap64 (by omega) (by omega)]; omega
theorem refRight_pc {gl : Fr} {n : Nm} (hn : n.2.1.length ≤ 4611686018427387904) {R : Bool → Prop} (h : R (nmRight n)) : PC Tryz.prog gl 154 [Arg.mk tN (nmB n)] [.bool] R := by
  apply pu_scarfref02_Right
  refine nought_pc (n := n) ⟨fun h1 => ?_, fun h1 => ?_⟩
  · have : nmRight n = true := by simp [nmRight, h1]
    rw [this] at h; exact h
  · refine refDigits_pc hn ⟨fun h2 => ?_, fun h2 => ?_, ?_⟩
    · have h3 : digs n.2.1 = true := by simp at h2; exact h2.1
      have := digs_pos h3
      simp only [bl_size]; omega
    · have h3 : digs n.2.1 = true := by simp at h2; exact h2.1.1
      have := digs_pos h3
      simp only [bl_size]; rw [wpred this hn]; omega
    · have e : nmRight n = (bif (bif (bif (bif (bif digs n.2.1 then (decide (((bl n.2.1).size : Int) ≤ 1000)) else false) then ((byteAt (bl n.2.1) (0 : Int).toNat : Int) != 48) else false) then ((byteAt (bl n.2.1) (IntKind.wrap .i64 (((bl n.2.1).size : Int) - 1) : Int).toNat : Int) != 48) else false) then (decide (n.2.2 ≥ (-1000000))) else false) then (decide (n.2.2 ≤ 1000000)) else false) := by
        unfold nmRight
        rw [h1, Bool.false_or]
        simp only [bl_size, bl_byteAt]
        cases hd : digs n.2.1 with
        | false => simp
        | true =>
          have hp := digs_pos hd
          rw [wpred hp hn]
          simp only [Int.toNat_natCast, Int.toNat_zero, last_idx hp, head_idx hp, Bool.cond_false_right, Bool.true_and, cond_true]
          congr 3
          rw [Bool.eq_iff_iff]; simp; omega
      rw [e] at h; exact h
theorem right_pc {gl : Fr} {n : Nm} (hn : n.2.1.length ≤ 4611686018427387904) {R : Bool → Prop} (h : R (nmRight n)) : PC Tryz.prog gl 80 [Arg.mk tN (nmB n)] [.bool] R := by
  apply pu_number_Right
  simp only [show (⟨#[]⟩ : ByteArray) = bl [] from rfl, bl_eq, bl_size, bl_byteAt]
  have e : ((n.1 == false) && (decide (n.2.1 = []) && ((n.2.2 == 0) && true))) = nought n := by
    unfold nought
    rcases n with ⟨_ | _, _ | ⟨_, _⟩, e⟩ <;> simp
  rw [e]
  refine ⟨fun h1 => ?_, fun h1 => ?_⟩
  · have : nmRight n = true := by simp [nmRight, h1]
    rw [this] at h; exact h
  · unfold nmRight at h
    rw [h1, Bool.false_or] at h
    refine digits_pc ⟨fun h2 => ⟨fun _ => ?_, fun h3 => ?_⟩, fun h2 => ⟨fun h3 => ⟨fun _ => ?_, fun h4 => ?_⟩, fun h3 => ⟨?_, fun h4 => ⟨fun _ => ?_, fun h5 => ?_⟩, fun h4 => ⟨?_, fun h5 => ?_, fun h5 => ?_⟩⟩⟩⟩
    · have : digs n.2.1 = false := by simpa using h2
      rw [this] at h; simpa using h
    · rw [h2] at h3; cases h3
    · have : decide (n.2.1.length ≤ 1000) = false := by simp at h3 ⊢; omega
      rw [this] at h; simpa using h
    · rw [h3] at h4; cases h4
    all_goals
      have hd : digs n.2.1 = true := by simpa using h2
      have hp := digs_pos hd
      have h3' : decide (n.2.1.length ≤ 1000) = true := by simp at h3 ⊢; omega
      have eh := head_idx hp
      have el := last_idx hp
    · omega
    · have : (n.2.1.head? != some 48) = false := by
        rw [← eh]; simp at h4 ⊢; exact h4
      rw [this] at h; simpa using h
    · rw [h4] at h5; cases h5
    · rw [wpred hp hn]; omega
    · have : (n.2.1.getLast? != some 48) = false := by
        rw [← el]; rw [wpred hp hn] at h5; simp at h5 ⊢; exact h5
      rw [this] at h; simpa using h
    · have e1 : (n.2.1.head? != some 48) = true := by
        rw [← eh]; simp at h4 ⊢; exact h4
      have e2 : (n.2.1.getLast? != some 48) = true := by
        rw [← el]; rw [wpred hp hn] at h5; simp at h5 ⊢; exact h5
      rw [hd, h3', e1, e2] at h
      simp only [Bool.true_and] at h
      rw [Bool.cond_false_right]
      exact h
end Go.Proofs.YtaoceiiakcpbaaaGreatDoor
end
section
namespace Go.X
open Go Go.Lib
set_option linter.unusedVariables false
theorem indexByte_mem (c : UInt8) : ∀ l : Bs, -1 ≤ indexByte l c ∧ (0 ≤ indexByte l c ↔ c ∈ l)
  | [] => by simp [indexByte]
  | b :: l => by
    have ih := indexByte_mem c l
    unfold indexByte
    by_cases h : b = c
    · simp [h]
    · have h' : ¬ c = b := fun e => h e.symm
      simp only [beq_iff_eq, h, if_false, List.mem_cons, h', false_or]
      obtain ⟨i1, i2⟩ := ih
      split
      · rename_i e
        rw [e] at i2
        exact ⟨by omega, by rw [← i2]⟩
      · rename_i e
        refine ⟨by omega, ?_⟩
        rw [← i2]; omega
theorem decDigits_len (u : Nat) : (decDigits u).length ≤ u + 1 := by
  rw [decDigits]
  split
  · simp
  · rename_i h
    have := decDigits_len (u / 10)
    simp; omega
theorem itoa_len (n : Int) : (itoa n).length ≤ n.natAbs + 2 := by
  unfold itoa
  split
  · have := decDigits_len n.natAbs; simp; omega
  · have := decDigits_len n.toNat; omega
theorem dig_ext : ∀ k : Nat, k < 10 → (([48, 49, 50, 51, 52, 53, 54, 55, 56, 57] : Bs).drop k).take (k + 1 - k) = [UInt8.ofNat (48 + k)] := by decide
theorem hasPrefix_one (l : Bs) (c : UInt8) : hasPrefix l [c] = (l.head? == some c) := by
  cases l with
  | nil => rfl
  | cons b t => simp [hasPrefix, List.isPrefixOf]; rw [Bool.eq_iff_iff]; simp; exact eq_comm
theorem trimPrefix_one (l : Bs) (c : UInt8) : trimPrefix l [c] = if l.head? == some c then l.tail else l := by
  unfold trimPrefix
  rw [hasPrefix_one]
  split <;> simp
theorem decVal_snoc (l : Bs) (c : UInt8) : decVal (l ++ [c]) = 10 * decVal l + (c.toNat - 48) := by simp [decVal, List.foldl_append]
theorem decVal_take {l : Bs} {k : Nat} (hk : k < l.length) : decVal (l.take (k + 1)) = 10 * decVal (l.take k) + (l[k].toNat - 48) := by
  rw [List.take_succ_eq_append_getElem hk, decVal_snoc]
theorem all_take {l : Bs} {p : UInt8 → Bool} (h : l.all p = true) (k : Nat) : (l.take k).all p = true := by
  rw [List.all_eq_true] at h ⊢
  exact fun x hx => h x (List.mem_of_mem_take hx)
theorem all_drop {l : Bs} {p : UInt8 → Bool} (h : l.all p = true) (k : Nat) : (l.drop k).all p = true := by
  rw [List.all_eq_true] at h ⊢
  exact fun x hx => h x (List.mem_of_mem_drop hx)
theorem dig_at {l : Bs} (h : l.all isDig = true) {k : Nat} (hk : k < l.length) : 48 ≤ l[k].toNat ∧ l[k].toNat ≤ 57 := by
  have := List.all_eq_true.1 h _ (List.getElem_mem hk)
  simpa [isDig] using this
theorem decVal_lt : ∀ (n : Nat) (l : Bs), l.length = n → l.all isDig = true → decVal l < 10 ^ n
  | 0, l, h, _ => by
    have : l = [] := List.eq_nil_of_length_eq_zero h
    subst this; simp [decVal]
  | n + 1, l, h, hd => by
    have hl : l = l.take (n + 1) := by rw [← h, List.take_length]
    rw [hl, decVal_take (by omega)]
    have h1 := decVal_lt n (l.take n) (by simp; omega) (all_take hd n)
    have h2 := dig_at hd (k := n) (by omega)
    rw [Nat.pow_succ]; omega
theorem decVal_le {l : Bs} {n : Nat} (hn : l.length ≤ n) (h : l.all isDig = true) : decVal l < 10 ^ n :=
  Nat.lt_of_lt_of_le (decVal_lt _ l rfl h) (Nat.pow_le_pow_right (by omega) hn)
theorem digs_all {l : Bs} (h : digs l = true) : l.all isDig = true := by
  unfold digs at h; exact (Bool.and_eq_true_iff.1 h).1
theorem dropWhile_all {l : Bs} {p q : UInt8 → Bool} (h : l.all p = true) : (l.dropWhile q).all p = true := by
  rw [List.all_eq_true] at h ⊢
  exact fun x hx => h x ((List.dropWhile_sublist q).mem hx)
theorem dropWhile_len (l : Bs) (q : UInt8 → Bool) : (l.dropWhile q).length ≤ l.length := (List.dropWhile_sublist q).length_le
theorem dropWhile_head {l : Bs} {q : UInt8 → Bool} : ∀ c, (l.dropWhile q).head? = some c → q c = false := by
  induction l with
  | nil => simp
  | cons b t ih =>
    intro c h
    rw [List.dropWhile_cons] at h
    split at h
    · exact ih c h
    · rename_i hq; simp at h; subst h; exact Bool.eq_false_iff.2 hq
theorem shortOf_facts {l : Bs} (h : l.all isDig = true) (hne : l.dropWhile (· == 48) ≠ []) : digs (shortOf l) = true ∧ (shortOf l).length ≤ (l.dropWhile (· == 48)).length ∧ ((shortOf l).head? != some 48) = true ∧ ((shortOf l).getLast? != some 48) = true := by
  unfold shortOf
  obtain ⟨c, t, hd⟩ := List.exists_cons_of_ne_nil hne
  have hc : (c == 48) = false := by
    have := dropWhile_head (l := l) (q := (· == 48)) c (by rw [hd]; rfl)
    simpa using this
  have key : ∀ (t : Bs), ∃ u, ((c :: t).reverse.dropWhile (· == 48)).reverse = c :: u := by
    intro t
    rw [List.reverse_cons]
    have hx : ∀ (r : Bs), ∃ u, (r ++ [c]).dropWhile (· == 48) = u ++ [c] := by
      intro r
      induction r with
      | nil => exact ⟨[], by simp [hc]⟩
      | cons b r ih =>
        rw [List.cons_append, List.dropWhile_cons]
        split
        · exact ih
        · exact ⟨b :: r, rfl⟩
    obtain ⟨u, e⟩ := hx t.reverse
    exact ⟨u.reverse, by rw [e]; simp⟩
  rw [hd]
  obtain ⟨u, e⟩ := key t
  refine ⟨?_, ?_, ?_, ?_⟩
  · rw [digs, Bool.and_eq_true_iff]
    refine ⟨?_, by rw [e]; rfl⟩
    rw [List.all_reverse]
    apply dropWhile_all
    rw [List.all_reverse, ← hd]
    exact dropWhile_all h
  · rw [List.length_reverse]
    refine Nat.le_trans (dropWhile_len _ _) ?_
    simp
  · rw [e]; simp; simpa using hc
  · rw [List.getLast?_reverse]
    cases hh : ((c :: t).reverse.dropWhile (· == 48)).head? with
    | none => rfl
    | some x =>
      have := dropWhile_head (l := (c :: t).reverse) (q := (· == 48)) x hh
      simpa using this
theorem shortRight {l : Bs} (h : l.all isDig = true) (hne : l.dropWhile (· == 48) ≠ []) (hl : l.length ≤ 1000) (neg : Bool) (e : Int) : nmRight (neg, shortOf l, e) = (decide (-1000000 ≤ e) && decide (e ≤ 1000000)) := by
  obtain ⟨h1, h2, h3, h4⟩ := shortOf_facts h hne
  have h5 := dropWhile_len l (· == 48)
  have hp : (shortOf l).isEmpty = false := by
    rw [digs] at h1
    have := (Bool.and_eq_true_iff.1 h1).2
    simpa using this
  unfold nmRight nought
  simp only [h1, h3, h4, hp, Bool.and_false, Bool.false_and, Bool.false_or, Bool.true_and]
  have : decide ((shortOf l).length ≤ 1000) = true := by simp; omega
  rw [this]; simp
theorem numLit_digs {s : Bs} {x : Lit} (h : numLit s = some x) : digs x.whole = true ∧ x.rest.all isDig = true ∧ x.exp.all isDig = true := by
  obtain ⟨hok, rfl⟩ := numLit_some h
  unfold litOk at hok
  simp only [Bool.and_eq_true] at hok
  obtain ⟨⟨⟨h1, h2⟩, h3⟩, h4⟩ := hok
  refine ⟨h2, ?_, ?_⟩
  · show (litW s).2.1.all isDig = true
    cases hp : (litW s).2.2 with
    | true => rw [hp] at h3; exact digs_all (by simpa using h3)
    | false => rw [show (litW s).2.1 = [] from (cutAt_miss hp).2]; rfl
  · show (if (litM s).2.2 then litE s else []).all isDig = true
    cases hm : (litM s).2.2 with
    | true => rw [hm] at h1; simpa using digs_all (by simpa using h1)
    | false => rfl
theorem cutAt_len2 (p : UInt8 → Bool) (l : Bs) : (cutAt p l).1.length + (cutAt p l).2.1.length ≤ l.length := by
  induction l with
  | nil => simp [cutAt]
  | cons c t ih => unfold cutAt; split <;> simp <;> omega
theorem numLit_len {s : Bs} {x : Lit} (h : numLit s = some x) : x.whole.length + x.rest.length + x.exp.length ≤ s.length := by
  obtain ⟨hok, rfl⟩ := numLit_some h
  have h1 : (litS s).length ≤ s.length := by unfold litS; split <;> simp
  have h2 := cutAt_len2 isE (litS s)
  have h3 := cutAt_len2 isDot (litM s).1
  have h4 : (litE s).length ≤ (litM s).2.1.length := by
    unfold litE
    split
    · simp
    · split <;> simp
  have h5 : (if (litM s).2.2 then litE s else []).length ≤ (litM s).2.1.length := by
    split
    · exact h4
    · simp
  show (litW s).1.length + (litW s).2.1.length + (if (litM s).2.2 then litE s else []).length ≤ s.length
  unfold litW
  unfold litM at *
  omega
end Go.X
end
