/- A part of the proof: nothing is stated here for its own sake. -/
import Derived.Test.YtaoceiiakcpbaaaGreatDoorPfC
import Derived.Lib.DecodeNEq
import Derived.Lib.Replace
import Derived.Lib.SplitLaws
import Derived.Lib.IndexMore
import Derived.Shelf.Strings.Builder1
import Derived.Shelf.Strings.Builder2
import Derived.Shelf.Strings.Trim
import Derived.Shelf.Small.Utf8
import Derived.Shelf.Small.Strs
import Derived.Shelf.Small.Wraps
import Derived.Shelf.Strings.BuilderF
import Derived.Shelf.Strings.BuilderK
import Derived.Shelf.Utf8.RuneCount
import Derived.Shelf.Strings.Builder2Cap
import Derived.Shelf.Strconv.Atoi
import Derived.Shelf.Strconv.Itoa0
import Derived.Shelf.Strconv.Itoa1
import Derived.Shelf.LaysM
import Derived.Shelf.Strconv.Itoa2
import Derived.Shelf.Strconv.Itoa3
import Derived.Shelf.Strconv.AtoiErrFast
import Derived.Shelf.Strconv.ParseIntEmpty
import Derived.Shelf.Strconv.AtoiFail
import Derived.Shelf.Strconv.Clone
import Derived.Shelf.Strconv.SyntaxError
import Derived.Shelf.LaysC
import Derived.Shelf.Strconv.ToError
import Derived.Shelf.Strconv.AtoiErr
import Derived.Shelf.Strconv.Lower
import Derived.Shelf.Strconv.ParseUint10
import Derived.Shelf.Strconv.ParseUint10Empty
import Derived.Shelf.Strconv.ParseUint10Any
import Derived.Shelf.Strconv.ParseInt10
import Derived.Shelf.Strconv.AtoiLong
import Derived.Shelf.Strconv.AtoiInnerAll
import Derived.Shelf.Strconv.RangeError
import Derived.Shelf.Strconv.ToErrorRange
import Derived.Shelf.Strconv.AtoiAll
import Derived.Shelf.Strconv.ErrVarAll
import Derived.Shelf.Strconv.ParseUintEmpty
import Derived.Shelf.Strconv.ParseUint10b64
import Derived.Shelf.Strconv.ParseUint10b32
import Derived.Shelf.Strconv.ParseUint10b16
import Derived.Shelf.Strconv.ParseUint10b8
import Derived.Shelf.Strconv.ParseUint10At
import Derived.Shelf.Strconv.ParseInt10At64
import Derived.Shelf.Strconv.ParseInt10At32
import Derived.Shelf.Strconv.ParseInt10At16
import Derived.Shelf.Strconv.ParseInt10At8
import Derived.Shelf.Strconv.ParseInt10All
import Derived.Shelf.Strconv.ParseIntPublic10
import Derived.Shelf.Strconv.ErrVarParseInt
import Derived.Shelf.Strings.Search1
import Derived.Shelf.Strings.Search2
import Derived.Shelf.Strings.Search3
import Derived.Shelf.Strings.Cut
import Derived.Shelf.Strings.Count
import Derived.Shelf.Strings.Shaped
import Derived.Shelf.Strings.Prefix
import Derived.Shelf.Strings.Split
import Derived.Shelf.Strings.Replace
import Derived.Shelf.Strings.SplitShaped
import Derived.Shelf.Unicode.Decode
import Derived.Shelf.Strings.Runes
import Derived.Shelf.Strings.RuneCount
import Derived.Shelf.Strings.IndexAny
import Derived.Shelf.Strings.AsciiSet
import Derived.Shelf.Strings.IndexAnyAll
import Derived.Shelf.Strings.Explode
import Derived.Shelf.Bits.Mul64
import Derived.Shelf.Strings.Repeat
import Derived.Shelf.Unicode.DecodeSlow
import Derived.Shelf.Unicode.DecodeAny
import Derived.Shelf.Unicode.DecodeLast
import Derived.Shelf.Strings.BuilderCap
import Derived.Shelf.Slices.Turned
import Derived.Ground.Names2Prog
import Derived.Shelf.Slices.Clone
import Derived.Ground.SlgnProg
import Derived.Shelf.SlicesE.Clone
import Derived.Test.YtaoceiiakcpbaaaGreatDoorProg
import Derived.Lib.ItoaNum
import Derived.Lib.ParseIntB
import Derived.Lib.Repeat
import Derived.Test.YtaoceiiakcpbaaaGreatDoorRows
import Derived.Test.YtaoceiiakcpbaaaGreatDoorTie
import Derived.Test.YtaoceiiakcpbaaaGreatDoorCards
import Derived.PinnedBridge
import Derived.Lay
import Derived.HandedShaped
import Derived.Shelf.Vars
import Derived.ChangeVars
import Derived.JoinedOf
import Derived.RowKitTokens
import Derived.LaidLaws
import Derived.MakeChecks
import Derived.SevenTiedAt
import Derived.Stop.Joined
section
namespace Go.Proofs.YtaoceiiakcpbaaaGreatDoor
open Go Go.X Go.Proofs
set_option linter.unusedVariables false
set_option maxRecDepth 100000
theorem pu_scarflaw07_small (gl : Fr)  (R : Bool → Prop)
    (H : PC Tryz.prog gl 11 [Arg.mk (.row .str) ([(⟨#[97, 47, 98]⟩ : ByteArray), (⟨#[126]⟩ : ByteArray), (⟨#[]⟩ : ByteArray)] : List ByteArray)] [.str, .int .i64] (fun r_1 : ByteArray × Int => PC Tryz.prog gl 13 [Arg.mk .str (⟨#[97]⟩ : ByteArray)] [.row .str, .int .i64] (fun r_2 : (List ByteArray) × Int => PC Tryz.prog gl 13 [Arg.mk .str (⟨#[47, 126, 50]⟩ : ByteArray)] [.row .str, .int .i64] (fun r_3 : (List ByteArray) × Int => PC Tryz.prog gl 13 [Arg.mk .str (⟨#[]⟩ : ByteArray)] [.row .str, .int .i64] (fun r_4 : (List ByteArray) × Int => PC Tryz.prog gl 32 [Arg.mk (.int .i64) 1] [.tree] (fun r_5 : Tr => PC Tryz.prog gl 32 [Arg.mk (.int .i64) 2] [.tree] (fun r_6 : Tr => PC Tryz.prog gl 31 [Arg.mk (.row .tree) ([Tr.mk r_5.kind r_5.text r_5.keys r_5.items, Tr.mk r_6.kind r_6.text r_6.keys r_6.items] : List Tr)] [.tree] (fun r_7 : Tr => PC Tryz.prog gl 30 [Arg.mk (.row .str) ([(⟨#[97]⟩ : ByteArray)] : List ByteArray), Arg.mk (.row .tree) ([Tr.mk r_7.kind r_7.text r_7.keys r_7.items] : List Tr)] [.tree] (fun r_8 : Tr => PC Tryz.prog gl 16 [Arg.mk .tree (Tr.mk r_8.kind r_8.text r_8.keys r_8.items), Arg.mk (.row .str) ([(⟨#[97]⟩ : ByteArray), (⟨#[49]⟩ : ByteArray)] : List ByteArray)] [.tree, .bool] (fun r_9 : Tr × Bool => PC Tryz.prog gl 16 [Arg.mk .tree (Tr.mk r_8.kind r_8.text r_8.keys r_8.items), Arg.mk (.row .str) ([(⟨#[97]⟩ : ByteArray), (⟨#[48, 49]⟩ : ByteArray)] : List ByteArray)] [.tree, .bool] (fun r_10 : Tr × Bool => R (bif (bif (bif (bif (bif (bif (bif (bif ((r_1.2 : Int) == 0) then ((r_1.1 : ByteArray).toList == ((⟨#[47, 97, 126, 49, 98, 47, 126, 48, 47]⟩ : ByteArray) : ByteArray).toList) else false) then ((r_2.2 : Int) == 2) else false) then ((r_3.2 : Int) == 2) else false) then ((r_4.2 : Int) == 0) else false) then ((((List.length r_4.1 : Nat) : Int) : Int) == 0) else false) then r_9.2 else false) then ((r_9.1.text : ByteArray).toList == ((⟨#[50]⟩ : ByteArray) : ByteArray).toList) else false) then (!r_10.2) else false)))))))))))) :
    PC Tryz.prog gl 9 [] [.bool] R :=
  PC_of_form Tryz.mixed gl 34 ⟨[], [], [], []⟩ [] (rs := [.tmp 0]) (n := 85) Tryz.func9 (by kernel_rfl) (by kernel_rfl) (by kernel_rfl) (by kernel_rfl) H (by kernel_rfl)
theorem pu_scarflaw07_Short (gl : Fr) (l0 : List ByteArray) (R : Bool → Prop)
    (H : ∃ (I_2 : Int → Prop) (μ_3 : Int → Nat), I_2 0 ∧ ∀ i3_1 : Int, I_2 i3_1 → (((bif (decide ((i3_1 : Int) < ((List.length l0 : Nat) : Int))) then (decide ((i3_1 : Int) < 300)) else false) = true → ∃ y_5 : ByteArray, (0 ≤ (i3_1 : Int) ∧ l0[(i3_1 : Int).toNat]? = some y_5) ∧ ((decide ((((y_5).size : Int) : Int) > 1024)) = true → R false) ∧ ((decide ((((y_5).size : Int) : Int) > 1024)) = false → (I_2 (IntKind.wrap .i64 (i3_1 + 1)) ∧ μ_3 (IntKind.wrap .i64 (i3_1 + 1)) < μ_3 i3_1))) ∧ ((bif (decide ((i3_1 : Int) < ((List.length l0 : Nat) : Int))) then (decide ((i3_1 : Int) < 300)) else false) = false → R (decide ((((List.length l0 : Nat) : Int) : Int) ≤ 200))))) :
    PC Tryz.prog gl 10 [Arg.mk (.row .str) l0] [.bool] R :=
  PC_of_form Tryz.mixed gl 34 ⟨[], [], [(2, ⟨[(3, .one (.dat (.int .i64)))], [], [], [100192]⟩)], []⟩ [Arg.mk (.row .str) l0] (rs := [.tmp 2]) (n := 23) Tryz.func10 (by kernel_rfl) (by kernel_rfl) (by kernel_rfl) (by kernel_rfl) H (by kernel_rfl)
theorem pu_pointer_Parse (gl : Fr) (s0 : ByteArray) (R : ((List ByteArray) × Int) → Prop)
    (H : ∀ K_2 : Bool → Prop, (∀ x7_1 : Bool, ((x7_1 = true → R (([] : List ByteArray), 2)) ∧ (x7_1 = false → PC Tryz.prog gl 41 [Arg.mk .str s0, Arg.mk .str (⟨#[47]⟩ : ByteArray)] [.int .i64] (fun r_5 : Int => ((decide ((r_5 : Int) > 64)) = true → R (([] : List ByteArray), 3)) ∧ ((decide ((r_5 : Int) > 64)) = false → (((s0 : ByteArray).toList == ((⟨#[]⟩ : ByteArray) : ByteArray).toList) = true → R (([] : List ByteArray), 0)) ∧ (((s0 : ByteArray).toList == ((⟨#[]⟩ : ByteArray) : ByteArray).toList) = false → (0 ≤ (1 : Int) ∧ (1 : Int) ≤ ((s0).size : Int) ∧ (((s0).size : Int) : Int) ≤ ((s0).size : Int)) ∧ PC Tryz.prog gl 42 [Arg.mk .str ((s0).extract (1 : Int).toNat (((s0).size : Int) : Int).toNat), Arg.mk .str (⟨#[47]⟩ : ByteArray)] [.row .str] (fun r_6 : List ByteArray => ∃ (I_9 : (List ByteArray) → Int → Prop) (μ_10 : (List ByteArray) → Int → Nat), I_9 ([] : List ByteArray) 0 ∧ ∀ out4_7 : List ByteArray, ∀ x32_8 : Int, I_9 out4_7 x32_8 → (((decide ((x32_8 : Int) < ((List.length r_6 : Nat) : Int))) = true → ∃ y_14 : ByteArray, (0 ≤ (x32_8 : Int) ∧ r_6[(x32_8 : Int).toNat]? = some y_14) ∧ PC Tryz.prog gl 35 [Arg.mk .str y_14, Arg.mk .str (⟨#[126, 49]⟩ : ByteArray), Arg.mk .str (⟨#[47]⟩ : ByteArray)] [.str] (fun r_15 : ByteArray => PC Tryz.prog gl 35 [Arg.mk .str r_15, Arg.mk .str (⟨#[126, 48]⟩ : ByteArray), Arg.mk .str (⟨#[126]⟩ : ByteArray)] [.str] (fun r_16 : ByteArray => ((List.length out4_7 + List.length ([r_16] : List ByteArray)) * 16 ≤ 140737488355328 ∧ (I_9 (out4_7 ++ ([r_16] : List ByteArray)) (IntKind.wrap .i64 (x32_8 + 1)) ∧ μ_10 (out4_7 ++ ([r_16] : List ByteArray)) (IntKind.wrap .i64 (x32_8 + 1)) < μ_10 out4_7 x32_8))))) ∧ ((decide ((x32_8 : Int) < ((List.length r_6 : Nat) : Int))) = false → R (out4_7, 0))))))))) → K_2 x7_1) → PC Tryz.prog gl 39 [Arg.mk .str s0] [.bool] (fun r_3 : Bool => ((!r_3) = true → K_2 (!r_3)) ∧ ((!r_3) = false → ((!((s0 : ByteArray).toList == ((⟨#[]⟩ : ByteArray) : ByteArray).toList)) = true → (0 ≤ (0 : Int) ∧ (0 : Int) < ((s0).size : Int))) ∧ ((bif (!((s0 : ByteArray).toList == ((⟨#[]⟩ : ByteArray) : ByteArray).toList)) then ((byteAt s0 (0 : Int).toNat : Int) != 47) else false) = true → K_2 (bif (!((s0 : ByteArray).toList == ((⟨#[]⟩ : ByteArray) : ByteArray).toList)) then ((byteAt s0 (0 : Int).toNat : Int) != 47) else false)) ∧ ((bif (!((s0 : ByteArray).toList == ((⟨#[]⟩ : ByteArray) : ByteArray).toList)) then ((byteAt s0 (0 : Int).toNat : Int) != 47) else false) = false → PC Tryz.prog gl 40 [Arg.mk .str s0] [.bool] (fun r_4 : Bool => K_2 (!r_4)))))) :
    PC Tryz.prog gl 13 [Arg.mk .str s0] [.row .str, .int .i64] R :=
  PC_of_form Tryz.mixed gl 34 ⟨[], [], [(11, ⟨[(4, .one (.own 9 .str)), (32, .one (.dat (.int .i64)))], [], [], [100256, 102048]⟩)], [(4, ⟨[(7, .one (.dat .bool))], [], [], [100448]⟩)]⟩ [Arg.mk .str s0] (rs := [.tmp 2, .tmp 3]) (n := 44) Tryz.func13 (by kernel_rfl) (by kernel_rfl) (by kernel_rfl) (by kernel_rfl) H (by kernel_rfl)
theorem pu_scarflaw06_Few (gl : Fr) (v0 : Tr) (most1 : Int) (R : Bool → Prop)
    (H : PC Tryz.prog gl 43 [Arg.mk .tree (Tr.mk v0.kind v0.text v0.keys v0.items), Arg.mk (.int .i64) most1, Arg.mk (.int .i64) 0] [.int .i64] (fun r_1 : Int => ∃ J_2 : Bool → Prop, ((decide ((r_1 : Int) ≥ 0)) = true → PC Tryz.prog gl 44 [Arg.mk .tree (Tr.mk v0.kind v0.text v0.keys v0.items)] [.bool] J_2) ∧ ∀ r_3 : Bool, ((decide ((r_1 : Int) ≥ 0)) = true → J_2 r_3) → R (bif (decide ((r_1 : Int) ≥ 0)) then r_3 else false))) :
    PC Tryz.prog gl 15 [Arg.mk .tree v0, Arg.mk (.int .i64) most1] [.bool] R :=
  PC_of_form Tryz.mixed gl 34 ⟨[], [], [], []⟩ [Arg.mk .tree v0, Arg.mk (.int .i64) most1] (rs := [.tmp 4]) (n := 15) Tryz.func15 (by kernel_rfl) (by kernel_rfl) (by kernel_rfl) (by kernel_rfl) H (by kernel_rfl)
theorem pu_pointer_Find (gl : Fr) (v0 : Tr) (path1 : List ByteArray) (R : (Tr × Bool) → Prop)
    (H : PC Tryz.prog gl 45 [Arg.mk .tree (Tr.mk v0.kind v0.text v0.keys v0.items)] [.bool] (fun r_1 : Bool => ∃ J_2 : Bool → Prop, ((!(!r_1)) = true → PC Tryz.prog gl 12 [Arg.mk (.row .str) path1] [.bool] J_2) ∧ ∀ r_3 : Bool, ((!(!r_1)) = true → J_2 r_3) → ((bif (!r_1) then true else (!r_3)) = true → R (Tr.mk 0 (⟨#[]⟩ : ByteArray) ([] : List ByteArray) ([] : List Tr), false)) ∧ ((bif (!r_1) then true else (!r_3)) = false → PC Tryz.prog gl 46 [Arg.mk .tree (Tr.mk v0.kind v0.text v0.keys v0.items), Arg.mk (.row .str) path1] [.row (.int .i64), .tree, .bool] (fun r_4 : (List Int) × Tr × Bool => ((!r_4.2.2) = true → R (Tr.mk 0 (⟨#[]⟩ : ByteArray) ([] : List ByteArray) ([] : List Tr), false)) ∧ ((!r_4.2.2) = false → PC Tryz.prog gl 47 [Arg.mk .tree (Tr.mk r_4.2.1.kind r_4.2.1.text r_4.2.1.keys r_4.2.1.items)] [.tree] (fun r_5 : Tr => R (Tr.mk r_5.kind r_5.text r_5.keys r_5.items, true))))))) :
    PC Tryz.prog gl 16 [Arg.mk .tree v0, Arg.mk (.row .str) path1] [.tree, .bool] R :=
  PC_of_form Tryz.mixed gl 34 ⟨[], [], [], []⟩ [Arg.mk .tree v0, Arg.mk (.row .str) path1] (rs := [.cell 4 34, .tmp 5]) (n := 30) Tryz.func16 (by kernel_rfl) (by kernel_rfl) (by kernel_rfl) (by kernel_rfl) H (by kernel_rfl)
theorem pu_scarfref06_Equal (gl : Fr) (a0 : Tr) (b1 : Tr) (R : Bool → Prop)
    (H : ((bif (bif (bif ((a0.kind : Int) != b1.kind) then true else (!((a0.text : ByteArray).toList == (b1.text : ByteArray).toList))) then true else ((((List.length a0.keys : Nat) : Int) : Int) != ((List.length b1.keys : Nat) : Int))) then true else ((((List.length a0.items : Nat) : Int) : Int) != ((List.length b1.items : Nat) : Int))) = true → R false) ∧ ((bif (bif (bif ((a0.kind : Int) != b1.kind) then true else (!((a0.text : ByteArray).toList == (b1.text : ByteArray).toList))) then true else ((((List.length a0.keys : Nat) : Int) : Int) != ((List.length b1.keys : Nat) : Int))) then true else ((((List.length a0.items : Nat) : Int) : Int) != ((List.length b1.items : Nat) : Int))) = false → ∃ (I_2 : Int → Prop) (μ_3 : Int → Nat), I_2 0 ∧ ∀ i5_1 : Int, I_2 i5_1 → (((decide ((i5_1 : Int) < ((List.length a0.keys : Nat) : Int))) = true → ∃ y_15 : ByteArray, (0 ≤ (i5_1 : Int) ∧ a0.keys[(i5_1 : Int).toNat]? = some y_15) ∧ ∃ y_16 : ByteArray, (0 ≤ (i5_1 : Int) ∧ b1.keys[(i5_1 : Int).toNat]? = some y_16) ∧ ((!((y_15 : ByteArray).toList == (y_16 : ByteArray).toList)) = true → R false) ∧ ((!((y_15 : ByteArray).toList == (y_16 : ByteArray).toList)) = false → (I_2 (IntKind.wrap .i64 (i5_1 + 1)) ∧ μ_3 (IntKind.wrap .i64 (i5_1 + 1)) < μ_3 i5_1))) ∧ ((decide ((i5_1 : Int) < ((List.length a0.keys : Nat) : Int))) = false → ∃ (I_18 : Int → Prop) (μ_19 : Int → Nat), I_18 0 ∧ ∀ i6_17 : Int, I_18 i6_17 → (((decide ((i6_17 : Int) < ((List.length a0.items : Nat) : Int))) = true → ∃ y_23 : Tr, (0 ≤ (i6_17 : Int) ∧ a0.items[(i6_17 : Int).toNat]? = some y_23) ∧ ∃ y_24 : Tr, (0 ≤ (i6_17 : Int) ∧ b1.items[(i6_17 : Int).toNat]? = some y_24) ∧ PC Tryz.prog gl 17 [Arg.mk .tree (Tr.mk y_23.kind y_23.text y_23.keys y_23.items), Arg.mk .tree (Tr.mk y_24.kind y_24.text y_24.keys y_24.items)] [.bool] (fun r_25 : Bool => ((!r_25) = true → R false) ∧ ((!r_25) = false → (I_18 (IntKind.wrap .i64 (i6_17 + 1)) ∧ μ_19 (IntKind.wrap .i64 (i6_17 + 1)) < μ_19 i6_17)))) ∧ ((decide ((i6_17 : Int) < ((List.length a0.items : Nat) : Int))) = false → R true)))))) :
    PC Tryz.prog gl 17 [Arg.mk .tree a0, Arg.mk .tree b1] [.bool] R :=
  PC_of_form Tryz.mixed gl 34 ⟨[(11, 10)], [], [(4, ⟨[(5, .one (.dat (.int .i64)))], [], [2, 3], [100320]⟩), (9, ⟨[(6, .one (.dat (.int .i64)))], [], [2, 3], [100384]⟩)], []⟩ [Arg.mk .tree a0, Arg.mk .tree b1] (rs := [.tmp 4]) (n := 76) Tryz.func17 (by kernel_rfl) (by kernel_rfl) (by kernel_rfl) (by kernel_rfl) H (by kernel_rfl)
theorem pu_pointer_Index (gl : Fr) (step0 : ByteArray) (R : (Int × Bool) → Prop)
    (H : (((!(bif ((step0 : ByteArray).toList == ((⟨#[]⟩ : ByteArray) : ByteArray).toList) then true else (decide ((((step0).size : Int) : Int) > 9)))) && (!((step0 : ByteArray).toList == ((⟨#[48]⟩ : ByteArray) : ByteArray).toList))) = true → (0 ≤ (0 : Int) ∧ (0 : Int) < ((step0).size : Int))) ∧ ∃ J_1 : Bool → Prop, ((!(bif (bif ((step0 : ByteArray).toList == ((⟨#[]⟩ : ByteArray) : ByteArray).toList) then true else (decide ((((step0).size : Int) : Int) > 9))) then true else (bif (!((step0 : ByteArray).toList == ((⟨#[48]⟩ : ByteArray) : ByteArray).toList)) then ((byteAt step0 (0 : Int).toNat : Int) == 48) else false))) = true → PC Tryz.prog gl 52 [Arg.mk .str step0, Arg.mk .str (⟨#[43, 45, 95]⟩ : ByteArray)] [.bool] J_1) ∧ ∀ r_2 : Bool, ((!(bif (bif ((step0 : ByteArray).toList == ((⟨#[]⟩ : ByteArray) : ByteArray).toList) then true else (decide ((((step0).size : Int) : Int) > 9))) then true else (bif (!((step0 : ByteArray).toList == ((⟨#[48]⟩ : ByteArray) : ByteArray).toList)) then ((byteAt step0 (0 : Int).toNat : Int) == 48) else false))) = true → J_1 r_2) → ((bif (bif (bif ((step0 : ByteArray).toList == ((⟨#[]⟩ : ByteArray) : ByteArray).toList) then true else (decide ((((step0).size : Int) : Int) > 9))) then true else (bif (!((step0 : ByteArray).toList == ((⟨#[48]⟩ : ByteArray) : ByteArray).toList)) then ((byteAt step0 (0 : Int).toNat : Int) == 48) else false)) then true else r_2) = true → R (0, false)) ∧ ((bif (bif (bif ((step0 : ByteArray).toList == ((⟨#[]⟩ : ByteArray) : ByteArray).toList) then true else (decide ((((step0).size : Int) : Int) > 9))) then true else (bif (!((step0 : ByteArray).toList == ((⟨#[48]⟩ : ByteArray) : ByteArray).toList)) then ((byteAt step0 (0 : Int).toNat : Int) == 48) else false)) then true else r_2) = false → PC Tryz.prog gl 53 [Arg.mk .str step0] [.int .i64, .err] (fun r_3 : Int × Bool => ((!r_3.2) = true → R (0, false)) ∧ ((!r_3.2) = false → R (r_3.1, true))))) :
    PC Tryz.prog gl 25 [Arg.mk .str step0] [.int .i64, .bool] R :=
  PC_of_form Tryz.mixed gl 34 ⟨[], [], [], []⟩ [Arg.mk .str step0] (rs := [.tmp 2, .tmp 3]) (n := 34) Tryz.func25 (by kernel_rfl) (by kernel_rfl) (by kernel_rfl) (by kernel_rfl) H (by kernel_rfl)
theorem pu_scarflaw06_Map (gl : Fr) (keys0 : List ByteArray) (l1 : List Tr) (R : Tr → Prop)
    (H : R (Tr.mk 6 (⟨#[]⟩ : ByteArray) keys0 l1)) :
    PC Tryz.prog gl 30 [Arg.mk (.row .str) keys0, Arg.mk (.row .tree) l1] [.tree] R :=
  PC_of_form Tryz.mixed gl 34 ⟨[], [], [], []⟩ [Arg.mk (.row .str) keys0, Arg.mk (.row .tree) l1] (rs := [.cell 4 34]) (n := 8) Tryz.func30 (by kernel_rfl) (by kernel_rfl) (by kernel_rfl) (by kernel_rfl) H (by kernel_rfl)
theorem pu_scarflaw06_Row (gl : Fr) (l0 : List Tr) (R : Tr → Prop)
    (H : R (Tr.mk 5 (⟨#[]⟩ : ByteArray) ([] : List ByteArray) l0)) :
    PC Tryz.prog gl 31 [Arg.mk (.row .tree) l0] [.tree] R :=
  PC_of_form Tryz.mixed gl 34 ⟨[], [], [], []⟩ [Arg.mk (.row .tree) l0] (rs := [.cell 2 34]) (n := 5) Tryz.func31 (by kernel_rfl) (by kernel_rfl) (by kernel_rfl) (by kernel_rfl) H (by kernel_rfl)
theorem pu_value_Num (gl : Fr) (n0 : Int) (R : Tr → Prop)
    (H : PC Tryz.prog gl 56 [Arg.mk (.int .i64) n0] [.pair .bool (.pair .str (.int .i64))] (fun r_1 : Bool × ByteArray × Int => PC Tryz.prog gl 55 [Arg.mk (.pair .bool (.pair .str (.int .i64))) (r_1.1, (r_1.2.1, r_1.2.2))] [.str] (fun r_2 : ByteArray => R (Tr.mk 3 r_2 ([] : List ByteArray) ([] : List Tr))))) :
    PC Tryz.prog gl 32 [Arg.mk (.int .i64) n0] [.tree] R :=
  PC_of_form Tryz.mixed gl 34 ⟨[], [], [], []⟩ [Arg.mk (.int .i64) n0] (rs := [.cell 2 34]) (n := 7) Tryz.func32 (by kernel_rfl) (by kernel_rfl) (by kernel_rfl) (by kernel_rfl) H (by kernel_rfl)
theorem pu_pointer_plain (gl : Fr) (s0 : ByteArray) (R : Bool → Prop)
    (H : PC Tryz.prog gl 60 [Arg.mk .str s0] [.int .i64, .bool] (fun r_1 : Int × Bool => R r_1.2)) :
    PC Tryz.prog gl 39 [Arg.mk .str s0] [.bool] R :=
  PC_of_form Tryz.mixed gl 34 ⟨[], [], [], []⟩ [Arg.mk .str s0] (rs := [.tmp 2]) (n := 11) Tryz.func39 (by kernel_rfl) (by kernel_rfl) (by kernel_rfl) (by kernel_rfl) H (by kernel_rfl)
theorem pu_pointer_whole (gl : Fr) (s0 : ByteArray) (R : Bool → Prop)
    (H : ∃ (I_2 : ByteArray → Prop) (μ_3 : ByteArray → Nat), I_2 s0 ∧ ∀ s0_1 : ByteArray, I_2 s0_1 → (PC Tryz.prog gl 61 [Arg.mk .str s0_1, Arg.mk .str (⟨#[126]⟩ : ByteArray)] [.str, .str, .bool] (fun r_5 : ByteArray × ByteArray × Bool => ((!r_5.2.2) = true → R true) ∧ ((!r_5.2.2) = false → ((!((r_5.2.1 : ByteArray).toList == ((⟨#[]⟩ : ByteArray) : ByteArray).toList)) = true → (0 ≤ (0 : Int) ∧ (0 : Int) < ((r_5.2.1).size : Int))) ∧ (((!((r_5.2.1 : ByteArray).toList == ((⟨#[]⟩ : ByteArray) : ByteArray).toList)) && ((byteAt r_5.2.1 (0 : Int).toNat : Int) != 48)) = true → (0 ≤ (0 : Int) ∧ (0 : Int) < ((r_5.2.1).size : Int))) ∧ ((bif ((r_5.2.1 : ByteArray).toList == ((⟨#[]⟩ : ByteArray) : ByteArray).toList) then true else (bif ((byteAt r_5.2.1 (0 : Int).toNat : Int) != 48) then ((byteAt r_5.2.1 (0 : Int).toNat : Int) != 49) else false)) = true → R false) ∧ ((bif ((r_5.2.1 : ByteArray).toList == ((⟨#[]⟩ : ByteArray) : ByteArray).toList) then true else (bif ((byteAt r_5.2.1 (0 : Int).toNat : Int) != 48) then ((byteAt r_5.2.1 (0 : Int).toNat : Int) != 49) else false)) = false → (I_2 r_5.2.1 ∧ μ_3 r_5.2.1 < μ_3 s0_1)))))) :
    PC Tryz.prog gl 40 [Arg.mk .str s0] [.bool] R :=
  PC_of_form Tryz.mixed gl 34 ⟨[], [], [(1, ⟨[(0, .one (.dat .str))], [], [], [100000]⟩)], []⟩ [Arg.mk .str s0] (rs := [.tmp 2]) (n := 27) Tryz.func40 (by kernel_rfl) (by kernel_rfl) (by kernel_rfl) (by kernel_rfl) H (by kernel_rfl)
theorem pu_scarflaw06_few (gl : Fr) (v0 : Tr) (left1 : Int) (deep2 : Int) (R : Int → Prop)
    (H : ((decide ((deep2 : Int) > 60)) = true → R (-1)) ∧ ((decide ((deep2 : Int) > 60)) = false → ∃ (I_3 : Int → Int → Prop) (μ_4 : Int → Int → Nat), I_3 (IntKind.wrap .i64 ((IntKind.wrap .i64 (left1 - 1)) - ((List.length v0.keys : Nat) : Int))) 0 ∧ ∀ left1_1 : Int, ∀ i7_2 : Int, I_3 left1_1 i7_2 → (((bif (decide ((i7_2 : Int) < ((List.length v0.items : Nat) : Int))) then (decide ((left1_1 : Int) ≥ 0)) else false) = true → ∃ y_7 : Tr, (0 ≤ (i7_2 : Int) ∧ v0.items[(i7_2 : Int).toNat]? = some y_7) ∧ PC Tryz.prog gl 43 [Arg.mk .tree (Tr.mk y_7.kind y_7.text y_7.keys y_7.items), Arg.mk (.int .i64) left1_1, Arg.mk (.int .i64) (IntKind.wrap .i64 (deep2 + 1))] [.int .i64] (fun r_8 : Int => (I_3 r_8 (IntKind.wrap .i64 (i7_2 + 1)) ∧ μ_4 r_8 (IntKind.wrap .i64 (i7_2 + 1)) < μ_4 left1_1 i7_2))) ∧ ((bif (decide ((i7_2 : Int) < ((List.length v0.items : Nat) : Int))) then (decide ((left1_1 : Int) ≥ 0)) else false) = false → R left1_1)))) :
    PC Tryz.prog gl 43 [Arg.mk .tree v0, Arg.mk (.int .i64) left1, Arg.mk (.int .i64) deep2] [.int .i64] R :=
  PC_of_form Tryz.mixed gl 34 ⟨[], [], [(5, ⟨[(1, .one (.dat (.int .i64))), (7, .one (.dat (.int .i64)))], [], [3], [100064, 100448]⟩)], []⟩ [Arg.mk .tree v0, Arg.mk (.int .i64) left1, Arg.mk (.int .i64) deep2] (rs := [.tmp 6]) (n := 37) Tryz.func43 (by kernel_rfl) (by kernel_rfl) (by kernel_rfl) (by kernel_rfl) H (by kernel_rfl)
theorem pu_scarflaw06_short (gl : Fr) (v0 : Tr) (R : Bool → Prop)
    (H : ((decide ((((v0.text).size : Int) : Int) > 2048)) = true → R false) ∧ ((decide ((((v0.text).size : Int) : Int) > 2048)) = false → ∃ (I_2 : Int → Prop) (μ_3 : Int → Nat), I_2 0 ∧ ∀ i3_1 : Int, I_2 i3_1 → (((decide ((i3_1 : Int) < ((List.length v0.keys : Nat) : Int))) = true → ∃ y_12 : ByteArray, (0 ≤ (i3_1 : Int) ∧ v0.keys[(i3_1 : Int).toNat]? = some y_12) ∧ ((decide ((((y_12).size : Int) : Int) > 1024)) = true → R false) ∧ ((decide ((((y_12).size : Int) : Int) > 1024)) = false → (I_2 (IntKind.wrap .i64 (i3_1 + 1)) ∧ μ_3 (IntKind.wrap .i64 (i3_1 + 1)) < μ_3 i3_1))) ∧ ((decide ((i3_1 : Int) < ((List.length v0.keys : Nat) : Int))) = false → ∃ (I_14 : Int → Prop) (μ_15 : Int → Nat), I_14 0 ∧ ∀ i4_13 : Int, I_14 i4_13 → (((decide ((i4_13 : Int) < ((List.length v0.items : Nat) : Int))) = true → ∃ y_18 : Tr, (0 ≤ (i4_13 : Int) ∧ v0.items[(i4_13 : Int).toNat]? = some y_18) ∧ PC Tryz.prog gl 44 [Arg.mk .tree (Tr.mk y_18.kind y_18.text y_18.keys y_18.items)] [.bool] (fun r_19 : Bool => ((!r_19) = true → R false) ∧ ((!r_19) = false → (I_14 (IntKind.wrap .i64 (i4_13 + 1)) ∧ μ_15 (IntKind.wrap .i64 (i4_13 + 1)) < μ_15 i4_13)))) ∧ ((decide ((i4_13 : Int) < ((List.length v0.items : Nat) : Int))) = false → R true)))))) :
    PC Tryz.prog gl 44 [Arg.mk .tree v0] [.bool] R :=
  PC_of_form Tryz.mixed gl 34 ⟨[], [], [(4, ⟨[(3, .one (.dat (.int .i64)))], [], [1], [100192]⟩), (9, ⟨[(4, .one (.dat (.int .i64)))], [], [1], [100256]⟩)], []⟩ [Arg.mk .tree v0] (rs := [.tmp 2]) (n := 39) Tryz.func44 (by kernel_rfl) (by kernel_rfl) (by kernel_rfl) (by kernel_rfl) H (by kernel_rfl)
theorem pu_number_Text (gl : Fr) (n0 : Bool × ByteArray × Int) (R : ByteArray → Prop)
    (H : PC Tryz.prog gl 80 [Arg.mk (.pair .bool (.pair .str (.int .i64))) (n0.1, (n0.2.1, n0.2.2))] [.bool] (fun r_1 : Bool => ((!r_1) = true → R (⟨#[]⟩ : ByteArray)) ∧ ((!r_1) = false → (((n0.2.1 : ByteArray).toList == ((⟨#[]⟩ : ByteArray) : ByteArray).toList) = true → R (⟨#[48]⟩ : ByteArray)) ∧ (((n0.2.1 : ByteArray).toList == ((⟨#[]⟩ : ByteArray) : ByteArray).toList) = false → ∀ K_3 : ByteArray → Prop, (∀ s3_2 : ByteArray, ((((n0.2.2 : Int) != 0) = true → PC Tryz.prog gl 81 [Arg.mk (.int .i64) n0.2.2] [.str] (fun r_4 : ByteArray => fits63 (((⟨#[101]⟩ : ByteArray)).size + (r_4).size) ∧ fits63 ((s3_2).size + ((⟨#[101]⟩ : ByteArray) ++ r_4).size) ∧ R (s3_2 ++ ((⟨#[101]⟩ : ByteArray) ++ r_4)))) ∧ (((n0.2.2 : Int) != 0) = false → R s3_2)) → K_3 s3_2) → (n0.1 = true → fits63 (((⟨#[45]⟩ : ByteArray)).size + (n0.2.1).size) ∧ K_3 ((⟨#[45]⟩ : ByteArray) ++ n0.2.1)) ∧ (n0.1 = false → K_3 n0.2.1))))) :
    PC Tryz.prog gl 55 [Arg.mk (.pair .bool (.pair .str (.int .i64))) n0] [.str] R :=
  PC_of_form Tryz.mixed gl 34 ⟨[], [], [], [(8, ⟨[(3, .one (.dat .str))], [], [1], [100192]⟩)]⟩ [Arg.mk (.pair .bool (.pair .str (.int .i64))) n0] (rs := [.tmp 2]) (n := 26) Tryz.func55 (by kernel_rfl) (by kernel_rfl) (by kernel_rfl) (by kernel_rfl) H (by kernel_rfl)
theorem pu_number_Of (gl : Fr) (n0 : Int) (R : (Bool × ByteArray × Int) → Prop)
    (H : PC Tryz.prog gl 81 [Arg.mk (.int .i64) n0] [.str] (fun r_1 : ByteArray => PC Tryz.prog gl 82 [Arg.mk .str r_1] [.pair .bool (.pair .str (.int .i64)), .int .i64] (fun r_2 : (Bool × ByteArray × Int) × Int => R (r_2.1.1, (r_2.1.2.1, r_2.1.2.2))))) :
    PC Tryz.prog gl 56 [Arg.mk (.int .i64) n0] [.pair .bool (.pair .str (.int .i64))] R :=
  PC_of_form Tryz.mixed gl 34 ⟨[], [], [], []⟩ [Arg.mk (.int .i64) n0] (rs := [.cell 2 80]) (n := 12) Tryz.func56 (by kernel_rfl) (by kernel_rfl) (by kernel_rfl) (by kernel_rfl) H (by kernel_rfl)
theorem pu_runes_Valid (gl : Fr) (s0 : ByteArray) (R : (Int × Bool) → Prop)
    (H : PC Tryz.prog gl 86 [Arg.mk .str s0] [.bool] (fun r_1 : Bool => (r_1 = true → R (((s0).size : Int), true)) ∧ (r_1 = false → ∃ (I_3 : (ByteArray × Nat) → Prop) (μ_4 : (ByteArray × Nat) → Nat), I_3 (s0, 0) ∧ ∀ b13_0_2 : ByteArray × Nat, I_3 b13_0_2 → (((nxB b13_0_2.1 b13_0_2.2) = true → (nxB b13_0_2.1 b13_0_2.2) = true ∧ (nxB b13_0_2.1 b13_0_2.2) = true ∧ (((nxR b13_0_2.1 b13_0_2.2 : Int) != 65533) = true → (I_3 (b13_0_2.1, nxP b13_0_2.1 b13_0_2.2) ∧ μ_4 (b13_0_2.1, nxP b13_0_2.1 b13_0_2.2) < μ_4 b13_0_2)) ∧ (((nxR b13_0_2.1 b13_0_2.2 : Int) != 65533) = false → (0 ≤ (((b13_0_2.2 : Nat) : Int) : Int) ∧ (((b13_0_2.2 : Nat) : Int) : Int) ≤ ((s0).size : Int) ∧ (((s0).size : Int) : Int) ≤ ((s0).size : Int)) ∧ PC Tryz.prog gl 85 [Arg.mk .str ((s0).extract (((b13_0_2.2 : Nat) : Int) : Int).toNat (((s0).size : Int) : Int).toNat)] [.int .i32, .int .i64] (fun r_6 : Int × Int => (((r_6.2 : Int) == 1) = true → R (((b13_0_2.2 : Nat) : Int), false)) ∧ (((r_6.2 : Int) == 1) = false → (I_3 (b13_0_2.1, nxP b13_0_2.1 b13_0_2.2) ∧ μ_4 (b13_0_2.1, nxP b13_0_2.1 b13_0_2.2) < μ_4 b13_0_2))))) ∧ ((nxB b13_0_2.1 b13_0_2.2) = false → R (((s0).size : Int), true)))))) :
    PC Tryz.prog gl 60 [Arg.mk .str s0] [.int .i64, .bool] R :=
  PC_of_form Tryz.mixed gl 34 ⟨[], [], [(4, ⟨[], [(13, [.dat .iter])], [], [1000832]⟩)], []⟩ [Arg.mk .str s0] (rs := [.tmp 2, .tmp 3]) (n := 32) Tryz.func60 (by kernel_rfl) (by kernel_rfl) (by kernel_rfl) (by kernel_rfl) H (by kernel_rfl)
theorem pu_value_sized (gl : Fr) (v0 : Tr) (R : Bool → Prop)
    (H : PC Tryz.prog gl 90 [Arg.mk .tree (Tr.mk v0.kind v0.text v0.keys v0.items)] [.int .i64] (fun r_1 : Int => ∃ J_2 : Int → Prop, ((decide ((r_1 : Int) ≤ 4096)) = true → PC Tryz.prog gl 91 [Arg.mk .tree (Tr.mk v0.kind v0.text v0.keys v0.items)] [.int .i64] J_2) ∧ ∀ r_3 : Int, ((decide ((r_1 : Int) ≤ 4096)) = true → J_2 r_3) → R (bif (decide ((r_1 : Int) ≤ 4096)) then (decide ((r_3 : Int) ≤ 32)) else false))) :
    PC Tryz.prog gl 66 [Arg.mk .tree v0] [.bool] R :=
  PC_of_form Tryz.mixed gl 34 ⟨[], [], [], []⟩ [Arg.mk .tree v0] (rs := [.tmp 2]) (n := 11) Tryz.func66 (by kernel_rfl) (by kernel_rfl) (by kernel_rfl) (by kernel_rfl) H (by kernel_rfl)
theorem pu_value_node (gl : Fr) (v0 : Tr) (R : Bool → Prop)
    (H : (((v0.kind : Int) == 5) = true → R (bif (!(decide ((((List.length v0.keys : Nat) : Int) : Int) > 0))) then ((v0.text : ByteArray).toList == ((⟨#[]⟩ : ByteArray) : ByteArray).toList) else false)) ∧ (((v0.kind : Int) == 5) = false → (((v0.kind : Int) == 6) = true → PC Tryz.prog gl 94 [Arg.mk (.row .str) v0.keys, Arg.mk (.int .i64) ((List.length v0.items : Nat) : Int)] [.bool] (fun r_1 : Bool => R (bif r_1 then ((v0.text : ByteArray).toList == ((⟨#[]⟩ : ByteArray) : ByteArray).toList) else false))) ∧ (((v0.kind : Int) == 6) = false → ((bif (decide ((((List.length v0.keys : Nat) : Int) : Int) > 0)) then true else (decide ((((List.length v0.items : Nat) : Int) : Int) > 0))) = true → R false) ∧ ((bif (decide ((((List.length v0.keys : Nat) : Int) : Int) > 0)) then true else (decide ((((List.length v0.items : Nat) : Int) : Int) > 0))) = false → (((v0.kind : Int) == 1) = true → R ((v0.text : ByteArray).toList == ((⟨#[]⟩ : ByteArray) : ByteArray).toList)) ∧ (((v0.kind : Int) == 1) = false → (((v0.kind : Int) == 2) = true → R (bif ((v0.text : ByteArray).toList == ((⟨#[116, 114, 117, 101]⟩ : ByteArray) : ByteArray).toList) then true else ((v0.text : ByteArray).toList == ((⟨#[102, 97, 108, 115, 101]⟩ : ByteArray) : ByteArray).toList))) ∧ (((v0.kind : Int) == 2) = false → (((v0.kind : Int) == 3) = true → PC Tryz.prog gl 95 [Arg.mk .str v0.text] [.pair .bool (.pair .str (.int .i64)), .bool] (fun r_2 : (Bool × ByteArray × Int) × Bool => R r_2.2)) ∧ (((v0.kind : Int) == 3) = false → (((v0.kind : Int) == 4) = true → PC Tryz.prog gl 96 [Arg.mk .str v0.text] [.bool] (fun r_3 : Bool => R r_3)) ∧ (((v0.kind : Int) == 4) = false → (((v0.kind : Int) == 7) = true → PC Tryz.prog gl 97 [Arg.mk .str v0.text] [.bool] (fun r_4 : Bool => R r_4)) ∧ (((v0.kind : Int) == 7) = false → R false))))))))) :
    PC Tryz.prog gl 68 [Arg.mk .tree v0] [.bool] R :=
  PC_of_form Tryz.mixed gl 34 ⟨[], [], [], []⟩ [Arg.mk .tree v0] (rs := [.tmp 2]) (n := 79) Tryz.func68 (by kernel_rfl) (by kernel_rfl) (by kernel_rfl) (by kernel_rfl) H (by kernel_rfl)
theorem pu_number_Right (gl : Fr) (n0 : Bool × ByteArray × Int) (R : Bool → Prop)
    (H : (((n0.1 == false) && (((n0.2.1 : ByteArray).toList == ((⟨#[]⟩ : ByteArray) : ByteArray).toList) && (((n0.2.2 : Int) == 0) && true))) = true → R true) ∧ (((n0.1 == false) && (((n0.2.1 : ByteArray).toList == ((⟨#[]⟩ : ByteArray) : ByteArray).toList) && (((n0.2.2 : Int) == 0) && true))) = false → PC Tryz.prog gl 114 [Arg.mk .str n0.2.1] [.bool] (fun r_1 : Bool => ((!r_1) = true → ((!r_1) = true → R false) ∧ ((!r_1) = false → R (bif (decide ((n0.2.2 : Int) ≥ (-1000000))) then (decide ((n0.2.2 : Int) ≤ 1000000)) else false))) ∧ ((!r_1) = false → ((decide ((((n0.2.1).size : Int) : Int) > 1000)) = true → ((decide ((((n0.2.1).size : Int) : Int) > 1000)) = true → R false) ∧ ((decide ((((n0.2.1).size : Int) : Int) > 1000)) = false → R (bif (decide ((n0.2.2 : Int) ≥ (-1000000))) then (decide ((n0.2.2 : Int) ≤ 1000000)) else false))) ∧ ((decide ((((n0.2.1).size : Int) : Int) > 1000)) = false → (0 ≤ (0 : Int) ∧ (0 : Int) < ((n0.2.1).size : Int)) ∧ (((byteAt n0.2.1 (0 : Int).toNat : Int) == 48) = true → (((byteAt n0.2.1 (0 : Int).toNat : Int) == 48) = true → R false) ∧ (((byteAt n0.2.1 (0 : Int).toNat : Int) == 48) = false → R (bif (decide ((n0.2.2 : Int) ≥ (-1000000))) then (decide ((n0.2.2 : Int) ≤ 1000000)) else false))) ∧ (((byteAt n0.2.1 (0 : Int).toNat : Int) == 48) = false → (0 ≤ (IntKind.wrap .i64 (((n0.2.1).size : Int) - 1) : Int) ∧ (IntKind.wrap .i64 (((n0.2.1).size : Int) - 1) : Int) < ((n0.2.1).size : Int)) ∧ (((byteAt n0.2.1 (IntKind.wrap .i64 (((n0.2.1).size : Int) - 1) : Int).toNat : Int) == 48) = true → R false) ∧ (((byteAt n0.2.1 (IntKind.wrap .i64 (((n0.2.1).size : Int) - 1) : Int).toNat : Int) == 48) = false → R (bif (decide ((n0.2.2 : Int) ≥ (-1000000))) then (decide ((n0.2.2 : Int) ≤ 1000000)) else false)))))))) :
    PC Tryz.prog gl 80 [Arg.mk (.pair .bool (.pair .str (.int .i64))) n0] [.bool] R :=
  PC_of_form Tryz.mixed gl 34 ⟨[], [], [], []⟩ [Arg.mk (.pair .bool (.pair .str (.int .i64))) n0] (rs := [.tmp 2]) (n := 34) Tryz.func80 (by kernel_rfl) (by kernel_rfl) (by kernel_rfl) (by kernel_rfl) H (by kernel_rfl)
theorem pu_number_Parse (gl : Fr) (s0 : ByteArray) (R : ((Bool × ByteArray × Int) × Int) → Prop)
    (H : PC Tryz.prog gl 116 [Arg.mk .str s0] [.pair .bool (.pair .bool (.pair .str (.pair .str .str))), .bool] (fun r_1 : (Bool × Bool × ByteArray × ByteArray × ByteArray) × Bool => PC Tryz.prog gl 117 [Arg.mk .str r_1.1.2.2.2.2, Arg.mk .str (⟨#[48]⟩ : ByteArray)] [.str] (fun r_2 : ByteArray => ((!r_1.2) = true → R ((false, ((⟨#[]⟩ : ByteArray), 0)), 2)) ∧ ((!r_1.2) = false → ((decide ((IntKind.wrap .i64 (((r_1.1.2.2.1).size : Int) + ((r_1.1.2.2.2.1).size : Int)) : Int) > 1000)) = true → R ((false, ((⟨#[]⟩ : ByteArray), 0)), 3)) ∧ ((decide ((IntKind.wrap .i64 (((r_1.1.2.2.1).size : Int) + ((r_1.1.2.2.2.1).size : Int)) : Int) > 1000)) = false → ((decide ((((r_2).size : Int) : Int) > 9)) = true → R ((false, ((⟨#[]⟩ : ByteArray), 0)), 4)) ∧ ((decide ((((r_2).size : Int) : Int) > 9)) = false → ∃ (I_8 : Int → Bool → ByteArray → Int → (ByteArray × Nat) → Prop) (μ_9 : Int → Bool → ByteArray → Int → (ByteArray × Nat) → Nat), I_8 0 false (⟨#[]⟩ : ByteArray) 0 (r_2, 0) ∧ ∀ e7_3 : Int, ∀ b2_0_4 : Bool, ∀ b2_1_5 : ByteArray, ∀ b2_2_6 : Int, ∀ b41_0_7 : ByteArray × Nat, I_8 e7_3 b2_0_4 b2_1_5 b2_2_6 b41_0_7 → (((nxB b41_0_7.1 b41_0_7.2) = true → (nxB b41_0_7.1 b41_0_7.2) = true ∧ (I_8 (IntKind.wrap .i64 ((IntKind.wrap .i64 (10 * e7_3)) + (IntKind.wrap .i64 (IntKind.wrap .i32 ((nxR b41_0_7.1 b41_0_7.2) - 48))))) b2_0_4 b2_1_5 b2_2_6 (b41_0_7.1, nxP b41_0_7.1 b41_0_7.2) ∧ μ_9 (IntKind.wrap .i64 ((IntKind.wrap .i64 (10 * e7_3)) + (IntKind.wrap .i64 (IntKind.wrap .i32 ((nxR b41_0_7.1 b41_0_7.2) - 48))))) b2_0_4 b2_1_5 b2_2_6 (b41_0_7.1, nxP b41_0_7.1 b41_0_7.2) < μ_9 e7_3 b2_0_4 b2_1_5 b2_2_6 b41_0_7)) ∧ ((nxB b41_0_7.1 b41_0_7.2) = false → ∀ K_22 : Int → Bool → ByteArray → Int → Prop, (∀ e7_18 : Int, ∀ b2_0_19 : Bool, ∀ b2_1_20 : ByteArray, ∀ b2_2_21 : Int, (fits63 ((r_1.1.2.2.1).size + (r_1.1.2.2.2.1).size) ∧ PC Tryz.prog gl 117 [Arg.mk .str (r_1.1.2.2.1 ++ r_1.1.2.2.2.1), Arg.mk .str (⟨#[48]⟩ : ByteArray)] [.str] (fun r_23 : ByteArray => (((r_23 : ByteArray).toList == ((⟨#[]⟩ : ByteArray) : ByteArray).toList) = true → R ((false, ((⟨#[]⟩ : ByteArray), 0)), 0)) ∧ (((r_23 : ByteArray).toList == ((⟨#[]⟩ : ByteArray) : ByteArray).toList) = false → PC Tryz.prog gl 118 [Arg.mk .str r_23, Arg.mk .str (⟨#[48]⟩ : ByteArray)] [.str] (fun r_24 : ByteArray => PC Tryz.prog gl 80 [Arg.mk (.pair .bool (.pair .str (.int .i64))) (r_1.1.1, (r_24, IntKind.wrap .i64 ((IntKind.wrap .i64 ((IntKind.wrap .i64 (e7_18 - ((r_1.1.2.2.2.1).size : Int))) + ((r_23).size : Int))) - ((r_24).size : Int))))] [.bool] (fun r_25 : Bool => ((!r_25) = true → R ((false, ((⟨#[]⟩ : ByteArray), 0)), 4)) ∧ ((!r_25) = false → R ((r_1.1.1, (r_24, IntKind.wrap .i64 ((IntKind.wrap .i64 ((IntKind.wrap .i64 (e7_18 - ((r_1.1.2.2.2.1).size : Int))) + ((r_23).size : Int))) - ((r_24).size : Int)))), 0))))))) → K_22 e7_18 b2_0_19 b2_1_20 b2_2_21) → (r_1.1.2.1 = true → K_22 (IntKind.wrap .i64 (0 - e7_3)) b2_0_4 b2_1_5 b2_2_6) ∧ (r_1.1.2.1 = false → K_22 e7_3 b2_0_4 b2_1_5 b2_2_6))))))))) :
    PC Tryz.prog gl 82 [Arg.mk .str s0] [.pair .bool (.pair .str (.int .i64)), .int .i64] R :=
  PC_of_form Tryz.mixed gl 34 ⟨[], [], [(11, ⟨[(7, .one (.dat (.int .i64)))], [(2, [.dat .bool, .dat .str, .dat (.int .i64)]), (41, [.dat .iter])], [4], [100448, 1000128, 1000129, 1000130, 1002624]⟩)], [(16, ⟨[(7, .one (.dat (.int .i64)))], [(2, [.dat .bool, .dat .str, .dat (.int .i64)])], [4], [100448, 1000128, 1000129, 1000130]⟩)]⟩ [Arg.mk .str s0] (rs := [.cell 2 80, .tmp 3]) (n := 86) Tryz.func82 (by kernel_rfl) (by kernel_rfl) (by kernel_rfl) (by kernel_rfl) H (by kernel_rfl)
theorem pu_unicode_utf8_ValidString (gl : Fr) (s0 : ByteArray) (R : Bool → Prop)
    (H : ∃ (I_2 : ByteArray → Prop) (μ_3 : ByteArray → Nat), I_2 s0 ∧ ∀ s0_1 : ByteArray, I_2 s0_1 → (((decide ((((s0_1).size : Int) : Int) > 0)) = true → (0 ≤ (0 : Int) ∧ (0 : Int) < ((s0_1).size : Int)) ∧ ((decide ((byteAt s0_1 (0 : Int).toNat : Int) < 128)) = true → (0 ≤ (1 : Int) ∧ (1 : Int) ≤ ((s0_1).size : Int) ∧ (((s0_1).size : Int) : Int) ≤ ((s0_1).size : Int)) ∧ ∃ J_32 : Int → Prop, ((decide (((((s0_1).extract (1 : Int).toNat (((s0_1).size : Int) : Int).toNat).size : Int) : Int) > 8)) = true → PC Tryz.prog gl 121 [Arg.mk .str ((s0_1).extract (1 : Int).toNat (((s0_1).size : Int) : Int).toNat)] [.int .u64] J_32) ∧ ∀ r_33 : Int, ((decide (((((s0_1).extract (1 : Int).toNat (((s0_1).size : Int) : Int).toNat).size : Int) : Int) > 8)) = true → J_32 r_33) → ((bif (decide (((((s0_1).extract (1 : Int).toNat (((s0_1).size : Int) : Int).toNat).size : Int) : Int) > 8)) then ((IntKind.wrap .u64 (((BitVec.ofInt (IntKind.bits .u64) r_33) &&& (BitVec.ofInt (IntKind.bits .u64) 9259542123273814144)).toNat : Int) : Int) == 0) else false) = true → (0 ≤ (8 : Int) ∧ (8 : Int) ≤ (((s0_1).extract (1 : Int).toNat (((s0_1).size : Int) : Int).toNat).size : Int) ∧ ((((s0_1).extract (1 : Int).toNat (((s0_1).size : Int) : Int).toNat).size : Int) : Int) ≤ (((s0_1).extract (1 : Int).toNat (((s0_1).size : Int) : Int).toNat).size : Int)) ∧ ((decide ((((((s0_1).extract (1 : Int).toNat (((s0_1).size : Int) : Int).toNat).extract (8 : Int).toNat ((((s0_1).extract (1 : Int).toNat (((s0_1).size : Int) : Int).toNat).size : Int) : Int).toNat).size : Int) : Int) > 16)) = true → (0 ≤ (8 : Int) ∧ (8 : Int) ≤ ((((s0_1).extract (1 : Int).toNat (((s0_1).size : Int) : Int).toNat).extract (8 : Int).toNat ((((s0_1).extract (1 : Int).toNat (((s0_1).size : Int) : Int).toNat).size : Int) : Int).toNat).size : Int) ∧ (((((s0_1).extract (1 : Int).toNat (((s0_1).size : Int) : Int).toNat).extract (8 : Int).toNat ((((s0_1).extract (1 : Int).toNat (((s0_1).size : Int) : Int).toNat).size : Int) : Int).toNat).size : Int) : Int) ≤ ((((s0_1).extract (1 : Int).toNat (((s0_1).size : Int) : Int).toNat).extract (8 : Int).toNat ((((s0_1).extract (1 : Int).toNat (((s0_1).size : Int) : Int).toNat).size : Int) : Int).toNat).size : Int))) ∧ ∃ J_34 : Int → Prop, ((decide ((((((s0_1).extract (1 : Int).toNat (((s0_1).size : Int) : Int).toNat).extract (8 : Int).toNat ((((s0_1).extract (1 : Int).toNat (((s0_1).size : Int) : Int).toNat).size : Int) : Int).toNat).size : Int) : Int) > 16)) = true → PC Tryz.prog gl 121 [Arg.mk .str (((s0_1).extract (1 : Int).toNat (((s0_1).size : Int) : Int).toNat).extract (8 : Int).toNat ((((s0_1).extract (1 : Int).toNat (((s0_1).size : Int) : Int).toNat).size : Int) : Int).toNat)] [.int .u64] J_34) ∧ ∀ r_35 : Int, ((decide ((((((s0_1).extract (1 : Int).toNat (((s0_1).size : Int) : Int).toNat).extract (8 : Int).toNat ((((s0_1).extract (1 : Int).toNat (((s0_1).size : Int) : Int).toNat).size : Int) : Int).toNat).size : Int) : Int) > 16)) = true → J_34 r_35) → ∃ J_36 : Int → Prop, ((decide ((((((s0_1).extract (1 : Int).toNat (((s0_1).size : Int) : Int).toNat).extract (8 : Int).toNat ((((s0_1).extract (1 : Int).toNat (((s0_1).size : Int) : Int).toNat).size : Int) : Int).toNat).size : Int) : Int) > 16)) = true → PC Tryz.prog gl 121 [Arg.mk .str ((((s0_1).extract (1 : Int).toNat (((s0_1).size : Int) : Int).toNat).extract (8 : Int).toNat ((((s0_1).extract (1 : Int).toNat (((s0_1).size : Int) : Int).toNat).size : Int) : Int).toNat).extract (8 : Int).toNat (((((s0_1).extract (1 : Int).toNat (((s0_1).size : Int) : Int).toNat).extract (8 : Int).toNat ((((s0_1).extract (1 : Int).toNat (((s0_1).size : Int) : Int).toNat).size : Int) : Int).toNat).size : Int) : Int).toNat)] [.int .u64] J_36) ∧ ∀ r_37 : Int, ((decide ((((((s0_1).extract (1 : Int).toNat (((s0_1).size : Int) : Int).toNat).extract (8 : Int).toNat ((((s0_1).extract (1 : Int).toNat (((s0_1).size : Int) : Int).toNat).size : Int) : Int).toNat).size : Int) : Int) > 16)) = true → J_36 r_37) → ((bif (decide ((((((s0_1).extract (1 : Int).toNat (((s0_1).size : Int) : Int).toNat).extract (8 : Int).toNat ((((s0_1).extract (1 : Int).toNat (((s0_1).size : Int) : Int).toNat).size : Int) : Int).toNat).size : Int) : Int) > 16)) then ((IntKind.wrap .u64 (((BitVec.ofInt (IntKind.bits .u64) (IntKind.wrap .u64 (((BitVec.ofInt (IntKind.bits .u64) r_35) ||| (BitVec.ofInt (IntKind.bits .u64) r_37)).toNat : Int))) &&& (BitVec.ofInt (IntKind.bits .u64) 9259542123273814144)).toNat : Int) : Int) == 0) else false) = true → (0 ≤ (16 : Int) ∧ (16 : Int) ≤ ((((s0_1).extract (1 : Int).toNat (((s0_1).size : Int) : Int).toNat).extract (8 : Int).toNat ((((s0_1).extract (1 : Int).toNat (((s0_1).size : Int) : Int).toNat).size : Int) : Int).toNat).size : Int) ∧ (((((s0_1).extract (1 : Int).toNat (((s0_1).size : Int) : Int).toNat).extract (8 : Int).toNat ((((s0_1).extract (1 : Int).toNat (((s0_1).size : Int) : Int).toNat).size : Int) : Int).toNat).size : Int) : Int) ≤ ((((s0_1).extract (1 : Int).toNat (((s0_1).size : Int) : Int).toNat).extract (8 : Int).toNat ((((s0_1).extract (1 : Int).toNat (((s0_1).size : Int) : Int).toNat).size : Int) : Int).toNat).size : Int)) ∧ ∃ (I_39 : ByteArray → Prop) (μ_40 : ByteArray → Nat), I_39 ((((s0_1).extract (1 : Int).toNat (((s0_1).size : Int) : Int).toNat).extract (8 : Int).toNat ((((s0_1).extract (1 : Int).toNat (((s0_1).size : Int) : Int).toNat).size : Int) : Int).toNat).extract (16 : Int).toNat (((((s0_1).extract (1 : Int).toNat (((s0_1).size : Int) : Int).toNat).extract (8 : Int).toNat ((((s0_1).extract (1 : Int).toNat (((s0_1).size : Int) : Int).toNat).size : Int) : Int).toNat).size : Int) : Int).toNat) ∧ ∀ s0_38 : ByteArray, I_39 s0_38 → (((decide ((((s0_38).size : Int) : Int) > 32)) = true → (0 ≤ (8 : Int) ∧ (8 : Int) ≤ ((s0_38).size : Int) ∧ (((s0_38).size : Int) : Int) ≤ ((s0_38).size : Int))) ∧ ((decide ((((s0_38).size : Int) : Int) > 32)) = true → (0 ≤ (16 : Int) ∧ (16 : Int) ≤ ((s0_38).size : Int) ∧ (((s0_38).size : Int) : Int) ≤ ((s0_38).size : Int))) ∧ ((decide ((((s0_38).size : Int) : Int) > 32)) = true → (0 ≤ (24 : Int) ∧ (24 : Int) ≤ ((s0_38).size : Int) ∧ (((s0_38).size : Int) : Int) ≤ ((s0_38).size : Int))) ∧ ∃ J_49 : Int → Prop, ((decide ((((s0_38).size : Int) : Int) > 32)) = true → PC Tryz.prog gl 121 [Arg.mk .str s0_38] [.int .u64] J_49) ∧ ∀ r_50 : Int, ((decide ((((s0_38).size : Int) : Int) > 32)) = true → J_49 r_50) → ∃ J_51 : Int → Prop, ((decide ((((s0_38).size : Int) : Int) > 32)) = true → PC Tryz.prog gl 121 [Arg.mk .str ((s0_38).extract (8 : Int).toNat (((s0_38).size : Int) : Int).toNat)] [.int .u64] J_51) ∧ ∀ r_52 : Int, ((decide ((((s0_38).size : Int) : Int) > 32)) = true → J_51 r_52) → ∃ J_53 : Int → Prop, ((decide ((((s0_38).size : Int) : Int) > 32)) = true → PC Tryz.prog gl 121 [Arg.mk .str ((s0_38).extract (16 : Int).toNat (((s0_38).size : Int) : Int).toNat)] [.int .u64] J_53) ∧ ∀ r_54 : Int, ((decide ((((s0_38).size : Int) : Int) > 32)) = true → J_53 r_54) → ∃ J_55 : Int → Prop, ((decide ((((s0_38).size : Int) : Int) > 32)) = true → PC Tryz.prog gl 121 [Arg.mk .str ((s0_38).extract (24 : Int).toNat (((s0_38).size : Int) : Int).toNat)] [.int .u64] J_55) ∧ ∀ r_56 : Int, ((decide ((((s0_38).size : Int) : Int) > 32)) = true → J_55 r_56) → ((bif (decide ((((s0_38).size : Int) : Int) > 32)) then ((IntKind.wrap .u64 (((BitVec.ofInt (IntKind.bits .u64) (IntKind.wrap .u64 (((BitVec.ofInt (IntKind.bits .u64) (IntKind.wrap .u64 (((BitVec.ofInt (IntKind.bits .u64) r_50) ||| (BitVec.ofInt (IntKind.bits .u64) r_52)).toNat : Int))) ||| (BitVec.ofInt (IntKind.bits .u64) (IntKind.wrap .u64 (((BitVec.ofInt (IntKind.bits .u64) r_54) ||| (BitVec.ofInt (IntKind.bits .u64) r_56)).toNat : Int)))).toNat : Int))) &&& (BitVec.ofInt (IntKind.bits .u64) 9259542123273814144)).toNat : Int) : Int) == 0) else false) = true → (0 ≤ (32 : Int) ∧ (32 : Int) ≤ ((s0_38).size : Int) ∧ (((s0_38).size : Int) : Int) ≤ ((s0_38).size : Int)) ∧ (I_39 ((s0_38).extract (32 : Int).toNat (((s0_38).size : Int) : Int).toNat) ∧ μ_40 ((s0_38).extract (32 : Int).toNat (((s0_38).size : Int) : Int).toNat) < μ_40 s0_38)) ∧ ((bif (decide ((((s0_38).size : Int) : Int) > 32)) then ((IntKind.wrap .u64 (((BitVec.ofInt (IntKind.bits .u64) (IntKind.wrap .u64 (((BitVec.ofInt (IntKind.bits .u64) (IntKind.wrap .u64 (((BitVec.ofInt (IntKind.bits .u64) r_50) ||| (BitVec.ofInt (IntKind.bits .u64) r_52)).toNat : Int))) ||| (BitVec.ofInt (IntKind.bits .u64) (IntKind.wrap .u64 (((BitVec.ofInt (IntKind.bits .u64) r_54) ||| (BitVec.ofInt (IntKind.bits .u64) r_56)).toNat : Int)))).toNat : Int))) &&& (BitVec.ofInt (IntKind.bits .u64) 9259542123273814144)).toNat : Int) : Int) == 0) else false) = false → (I_2 s0_38 ∧ μ_3 s0_38 < μ_3 s0_1)))) ∧ ((bif (decide ((((((s0_1).extract (1 : Int).toNat (((s0_1).size : Int) : Int).toNat).extract (8 : Int).toNat ((((s0_1).extract (1 : Int).toNat (((s0_1).size : Int) : Int).toNat).size : Int) : Int).toNat).size : Int) : Int) > 16)) then ((IntKind.wrap .u64 (((BitVec.ofInt (IntKind.bits .u64) (IntKind.wrap .u64 (((BitVec.ofInt (IntKind.bits .u64) r_35) ||| (BitVec.ofInt (IntKind.bits .u64) r_37)).toNat : Int))) &&& (BitVec.ofInt (IntKind.bits .u64) 9259542123273814144)).toNat : Int) : Int) == 0) else false) = false → (I_2 (((s0_1).extract (1 : Int).toNat (((s0_1).size : Int) : Int).toNat).extract (8 : Int).toNat ((((s0_1).extract (1 : Int).toNat (((s0_1).size : Int) : Int).toNat).size : Int) : Int).toNat) ∧ μ_3 (((s0_1).extract (1 : Int).toNat (((s0_1).size : Int) : Int).toNat).extract (8 : Int).toNat ((((s0_1).extract (1 : Int).toNat (((s0_1).size : Int) : Int).toNat).size : Int) : Int).toNat) < μ_3 s0_1))) ∧ ((bif (decide (((((s0_1).extract (1 : Int).toNat (((s0_1).size : Int) : Int).toNat).size : Int) : Int) > 8)) then ((IntKind.wrap .u64 (((BitVec.ofInt (IntKind.bits .u64) r_33) &&& (BitVec.ofInt (IntKind.bits .u64) 9259542123273814144)).toNat : Int) : Int) == 0) else false) = false → (I_2 ((s0_1).extract (1 : Int).toNat (((s0_1).size : Int) : Int).toNat) ∧ μ_3 ((s0_1).extract (1 : Int).toNat (((s0_1).size : Int) : Int).toNat) < μ_3 s0_1))) ∧ ((decide ((byteAt s0_1 (0 : Int).toNat : Int) < 128)) = false → (0 ≤ (byteAt s0_1 (0 : Int).toNat : Int) ∧ (byteAt s0_1 (0 : Int).toNat : Int) < ((256 : Nat) : Int)) ∧ ∃ x_57 : Int, cellG gl 1 (0 + (byteAt s0_1 (0 : Int).toNat : Int).toNat * 1) (.int .u8 x_57) ∧ (0 ≤ ((x_57 : Int).fdiv (2 ^ 4) : Int) ∧ ((x_57 : Int).fdiv (2 ^ 4) : Int) < ((16 : Nat) : Int)) ∧ ∃ x_58 : Int, cellG gl 2 (0 + ((x_57 : Int).fdiv (2 ^ 4) : Int).toNat * 2) (.int .u8 x_58) ∧ ∃ x_59 : Int, cellG gl 2 (0 + ((x_57 : Int).fdiv (2 ^ 4) : Int).toNat * 2 + 1) (.int .u8 x_59) ∧ (((IntKind.wrap .i64 (IntKind.wrap .u8 (((BitVec.ofInt (IntKind.bits .u8) x_57) &&& (BitVec.ofInt (IntKind.bits .u8) 7)).toNat : Int)) : Int) == 2) = true → ((!(decide ((((s0_1).size : Int) : Int) < 2))) = true → (0 ≤ (1 : Int) ∧ (1 : Int) < ((s0_1).size : Int))) ∧ ((!(bif (decide ((((s0_1).size : Int) : Int) < 2)) then true else (decide ((byteAt s0_1 (1 : Int).toNat : Int) < x_58)))) = true → (0 ≤ (1 : Int) ∧ (1 : Int) < ((s0_1).size : Int))) ∧ ((bif (bif (decide ((((s0_1).size : Int) : Int) < 2)) then true else (decide ((byteAt s0_1 (1 : Int).toNat : Int) < x_58))) then true else (decide ((x_59 : Int) < (byteAt s0_1 (1 : Int).toNat)))) = true → R false) ∧ ((bif (bif (decide ((((s0_1).size : Int) : Int) < 2)) then true else (decide ((byteAt s0_1 (1 : Int).toNat : Int) < x_58))) then true else (decide ((x_59 : Int) < (byteAt s0_1 (1 : Int).toNat)))) = false → (0 ≤ (2 : Int) ∧ (2 : Int) ≤ ((s0_1).size : Int) ∧ (((s0_1).size : Int) : Int) ≤ ((s0_1).size : Int)) ∧ (I_2 ((s0_1).extract (2 : Int).toNat (((s0_1).size : Int) : Int).toNat) ∧ μ_3 ((s0_1).extract (2 : Int).toNat (((s0_1).size : Int) : Int).toNat) < μ_3 s0_1))) ∧ (((IntKind.wrap .i64 (IntKind.wrap .u8 (((BitVec.ofInt (IntKind.bits .u8) x_57) &&& (BitVec.ofInt (IntKind.bits .u8) 7)).toNat : Int)) : Int) == 2) = false → (((IntKind.wrap .i64 (IntKind.wrap .u8 (((BitVec.ofInt (IntKind.bits .u8) x_57) &&& (BitVec.ofInt (IntKind.bits .u8) 7)).toNat : Int)) : Int) == 3) = true → ((!(decide ((((s0_1).size : Int) : Int) < 3))) = true → (0 ≤ (1 : Int) ∧ (1 : Int) < ((s0_1).size : Int))) ∧ ((!(bif (decide ((((s0_1).size : Int) : Int) < 3)) then true else (decide ((byteAt s0_1 (1 : Int).toNat : Int) < x_58)))) = true → (0 ≤ (1 : Int) ∧ (1 : Int) < ((s0_1).size : Int))) ∧ ((!(bif (bif (decide ((((s0_1).size : Int) : Int) < 3)) then true else (decide ((byteAt s0_1 (1 : Int).toNat : Int) < x_58))) then true else (decide ((x_59 : Int) < (byteAt s0_1 (1 : Int).toNat))))) = true → (0 ≤ (2 : Int) ∧ (2 : Int) < ((s0_1).size : Int))) ∧ ((!(bif (bif (bif (decide ((((s0_1).size : Int) : Int) < 3)) then true else (decide ((byteAt s0_1 (1 : Int).toNat : Int) < x_58))) then true else (decide ((x_59 : Int) < (byteAt s0_1 (1 : Int).toNat)))) then true else (decide ((byteAt s0_1 (2 : Int).toNat : Int) < 128)))) = true → (0 ≤ (2 : Int) ∧ (2 : Int) < ((s0_1).size : Int))) ∧ ((bif (bif (bif (bif (decide ((((s0_1).size : Int) : Int) < 3)) then true else (decide ((byteAt s0_1 (1 : Int).toNat : Int) < x_58))) then true else (decide ((x_59 : Int) < (byteAt s0_1 (1 : Int).toNat)))) then true else (decide ((byteAt s0_1 (2 : Int).toNat : Int) < 128))) then true else (decide ((191 : Int) < (byteAt s0_1 (2 : Int).toNat)))) = true → R false) ∧ ((bif (bif (bif (bif (decide ((((s0_1).size : Int) : Int) < 3)) then true else (decide ((byteAt s0_1 (1 : Int).toNat : Int) < x_58))) then true else (decide ((x_59 : Int) < (byteAt s0_1 (1 : Int).toNat)))) then true else (decide ((byteAt s0_1 (2 : Int).toNat : Int) < 128))) then true else (decide ((191 : Int) < (byteAt s0_1 (2 : Int).toNat)))) = false → (0 ≤ (3 : Int) ∧ (3 : Int) ≤ ((s0_1).size : Int) ∧ (((s0_1).size : Int) : Int) ≤ ((s0_1).size : Int)) ∧ (I_2 ((s0_1).extract (3 : Int).toNat (((s0_1).size : Int) : Int).toNat) ∧ μ_3 ((s0_1).extract (3 : Int).toNat (((s0_1).size : Int) : Int).toNat) < μ_3 s0_1))) ∧ (((IntKind.wrap .i64 (IntKind.wrap .u8 (((BitVec.ofInt (IntKind.bits .u8) x_57) &&& (BitVec.ofInt (IntKind.bits .u8) 7)).toNat : Int)) : Int) == 3) = false → (((IntKind.wrap .i64 (IntKind.wrap .u8 (((BitVec.ofInt (IntKind.bits .u8) x_57) &&& (BitVec.ofInt (IntKind.bits .u8) 7)).toNat : Int)) : Int) == 4) = true → ((!(decide ((((s0_1).size : Int) : Int) < 4))) = true → (0 ≤ (1 : Int) ∧ (1 : Int) < ((s0_1).size : Int))) ∧ ((!(bif (decide ((((s0_1).size : Int) : Int) < 4)) then true else (decide ((byteAt s0_1 (1 : Int).toNat : Int) < x_58)))) = true → (0 ≤ (1 : Int) ∧ (1 : Int) < ((s0_1).size : Int))) ∧ ((!(bif (bif (decide ((((s0_1).size : Int) : Int) < 4)) then true else (decide ((byteAt s0_1 (1 : Int).toNat : Int) < x_58))) then true else (decide ((x_59 : Int) < (byteAt s0_1 (1 : Int).toNat))))) = true → (0 ≤ (2 : Int) ∧ (2 : Int) < ((s0_1).size : Int))) ∧ ((!(bif (bif (bif (decide ((((s0_1).size : Int) : Int) < 4)) then true else (decide ((byteAt s0_1 (1 : Int).toNat : Int) < x_58))) then true else (decide ((x_59 : Int) < (byteAt s0_1 (1 : Int).toNat)))) then true else (decide ((byteAt s0_1 (2 : Int).toNat : Int) < 128)))) = true → (0 ≤ (2 : Int) ∧ (2 : Int) < ((s0_1).size : Int))) ∧ ((!(bif (bif (bif (bif (decide ((((s0_1).size : Int) : Int) < 4)) then true else (decide ((byteAt s0_1 (1 : Int).toNat : Int) < x_58))) then true else (decide ((x_59 : Int) < (byteAt s0_1 (1 : Int).toNat)))) then true else (decide ((byteAt s0_1 (2 : Int).toNat : Int) < 128))) then true else (decide ((191 : Int) < (byteAt s0_1 (2 : Int).toNat))))) = true → (0 ≤ (3 : Int) ∧ (3 : Int) < ((s0_1).size : Int))) ∧ ((!(bif (bif (bif (bif (bif (decide ((((s0_1).size : Int) : Int) < 4)) then true else (decide ((byteAt s0_1 (1 : Int).toNat : Int) < x_58))) then true else (decide ((x_59 : Int) < (byteAt s0_1 (1 : Int).toNat)))) then true else (decide ((byteAt s0_1 (2 : Int).toNat : Int) < 128))) then true else (decide ((191 : Int) < (byteAt s0_1 (2 : Int).toNat)))) then true else (decide ((byteAt s0_1 (3 : Int).toNat : Int) < 128)))) = true → (0 ≤ (3 : Int) ∧ (3 : Int) < ((s0_1).size : Int))) ∧ ((bif (bif (bif (bif (bif (bif (decide ((((s0_1).size : Int) : Int) < 4)) then true else (decide ((byteAt s0_1 (1 : Int).toNat : Int) < x_58))) then true else (decide ((x_59 : Int) < (byteAt s0_1 (1 : Int).toNat)))) then true else (decide ((byteAt s0_1 (2 : Int).toNat : Int) < 128))) then true else (decide ((191 : Int) < (byteAt s0_1 (2 : Int).toNat)))) then true else (decide ((byteAt s0_1 (3 : Int).toNat : Int) < 128))) then true else (decide ((191 : Int) < (byteAt s0_1 (3 : Int).toNat)))) = true → R false) ∧ ((bif (bif (bif (bif (bif (bif (decide ((((s0_1).size : Int) : Int) < 4)) then true else (decide ((byteAt s0_1 (1 : Int).toNat : Int) < x_58))) then true else (decide ((x_59 : Int) < (byteAt s0_1 (1 : Int).toNat)))) then true else (decide ((byteAt s0_1 (2 : Int).toNat : Int) < 128))) then true else (decide ((191 : Int) < (byteAt s0_1 (2 : Int).toNat)))) then true else (decide ((byteAt s0_1 (3 : Int).toNat : Int) < 128))) then true else (decide ((191 : Int) < (byteAt s0_1 (3 : Int).toNat)))) = false → (0 ≤ (4 : Int) ∧ (4 : Int) ≤ ((s0_1).size : Int) ∧ (((s0_1).size : Int) : Int) ≤ ((s0_1).size : Int)) ∧ (I_2 ((s0_1).extract (4 : Int).toNat (((s0_1).size : Int) : Int).toNat) ∧ μ_3 ((s0_1).extract (4 : Int).toNat (((s0_1).size : Int) : Int).toNat) < μ_3 s0_1))) ∧ (((IntKind.wrap .i64 (IntKind.wrap .u8 (((BitVec.ofInt (IntKind.bits .u8) x_57) &&& (BitVec.ofInt (IntKind.bits .u8) 7)).toNat : Int)) : Int) == 4) = false → R false))))) ∧ ((decide ((((s0_1).size : Int) : Int) > 0)) = false → R true))) :
    PC Tryz.prog gl 86 [Arg.mk .str s0] [.bool] R :=
  PC_of_form Tryz.mixed gl 34 ⟨[], [(7, 8, [], [0, 1, 2, 3, 4, 6, 7, 5], []), (9, 15, [], [0, 1, 2, 3, 4, 6, 7, 10, 11, 13, 14, 5, 8, 9, 12], [9])], [(1, ⟨[(0, .one (.dat .str))], [], [], [100000]⟩), (9, ⟨[(0, .one (.dat .str))], [], [], [100000]⟩)], []⟩ [Arg.mk .str s0] (rs := [.tmp 2]) (n := 169) Tryz.func86 (by kernel_rfl) (by kernel_rfl) (by kernel_rfl) (by kernel_rfl) H (by kernel_rfl)
theorem pu_value_Size (gl : Fr) (v0 : Tr) (R : Int → Prop)
    (H : ∃ (I_3 : Int → Int → Prop) (μ_4 : Int → Int → Nat), I_3 1 0 ∧ ∀ n3_1 : Int, ∀ x9_2 : Int, I_3 n3_1 x9_2 → (((decide ((x9_2 : Int) < ((List.length v0.items : Nat) : Int))) = true → ∃ y_7 : Tr, (0 ≤ (x9_2 : Int) ∧ v0.items[(x9_2 : Int).toNat]? = some y_7) ∧ PC Tryz.prog gl 90 [Arg.mk .tree (Tr.mk y_7.kind y_7.text y_7.keys y_7.items)] [.int .i64] (fun r_8 : Int => (I_3 (IntKind.wrap .i64 (n3_1 + r_8)) (IntKind.wrap .i64 (x9_2 + 1)) ∧ μ_4 (IntKind.wrap .i64 (n3_1 + r_8)) (IntKind.wrap .i64 (x9_2 + 1)) < μ_4 n3_1 x9_2))) ∧ ((decide ((x9_2 : Int) < ((List.length v0.items : Nat) : Int))) = false → R n3_1))) :
    PC Tryz.prog gl 90 [Arg.mk .tree v0] [.int .i64] R :=
  PC_of_form Tryz.mixed gl 34 ⟨[], [], [(3, ⟨[(3, .one (.dat (.int .i64))), (9, .one (.dat (.int .i64)))], [], [], [100192, 100576]⟩)], []⟩ [Arg.mk .tree v0] (rs := [.tmp 2]) (n := 19) Tryz.func90 (by kernel_rfl) (by kernel_rfl) (by kernel_rfl) (by kernel_rfl) H (by kernel_rfl)
theorem pu_value_Depth (gl : Fr) (v0 : Tr) (R : Int → Prop)
    (H : ∃ (I_3 : Int → Int → Prop) (μ_4 : Int → Int → Nat), I_3 0 0 ∧ ∀ n3_1 : Int, ∀ x9_2 : Int, I_3 n3_1 x9_2 → (((decide ((x9_2 : Int) < ((List.length v0.items : Nat) : Int))) = true → ∃ y_7 : Tr, (0 ≤ (x9_2 : Int) ∧ v0.items[(x9_2 : Int).toNat]? = some y_7) ∧ PC Tryz.prog gl 91 [Arg.mk .tree (Tr.mk y_7.kind y_7.text y_7.keys y_7.items)] [.int .i64] (fun r_8 : Int => (I_3 (if (n3_1 : Int) < r_8 then r_8 else n3_1) (IntKind.wrap .i64 (x9_2 + 1)) ∧ μ_4 (if (n3_1 : Int) < r_8 then r_8 else n3_1) (IntKind.wrap .i64 (x9_2 + 1)) < μ_4 n3_1 x9_2))) ∧ ((decide ((x9_2 : Int) < ((List.length v0.items : Nat) : Int))) = false → R (IntKind.wrap .i64 (n3_1 + 1))))) :
    PC Tryz.prog gl 91 [Arg.mk .tree v0] [.int .i64] R :=
  PC_of_form Tryz.mixed gl 34 ⟨[], [], [(3, ⟨[(3, .one (.dat (.int .i64))), (9, .one (.dat (.int .i64)))], [], [], [100192, 100576]⟩)], []⟩ [Arg.mk .tree v0] (rs := [.tmp 2]) (n := 20) Tryz.func91 (by kernel_rfl) (by kernel_rfl) (by kernel_rfl) (by kernel_rfl) H (by kernel_rfl)
theorem pu_value_decimal (gl : Fr) (s0 : ByteArray) (R : ((Bool × ByteArray × Int) × Bool) → Prop)
    (H : PC Tryz.prog gl 82 [Arg.mk .str s0] [.pair .bool (.pair .str (.int .i64)), .int .i64] (fun r_1 : (Bool × ByteArray × Int) × Int => ∃ J_2 : ByteArray → Prop, (((r_1.2 : Int) == 0) = true → PC Tryz.prog gl 55 [Arg.mk (.pair .bool (.pair .str (.int .i64))) (r_1.1.1, (r_1.1.2.1, r_1.1.2.2))] [.str] J_2) ∧ ∀ r_3 : ByteArray, (((r_1.2 : Int) == 0) = true → J_2 r_3) → R ((r_1.1.1, (r_1.1.2.1, r_1.1.2.2)), bif ((r_1.2 : Int) == 0) then ((r_3 : ByteArray).toList == (s0 : ByteArray).toList) else false))) :
    PC Tryz.prog gl 95 [Arg.mk .str s0] [.pair .bool (.pair .str (.int .i64)), .bool] R :=
  PC_of_form Tryz.mixed gl 34 ⟨[], [(2, 9, [], [0, 1, 2, 3, 4, 6, 5, 7, 8], [6, 7, 8])], [], []⟩ [Arg.mk .str s0] (rs := [.cell 2 80, .tmp 3]) (n := 20) Tryz.func95 (by kernel_rfl) (by kernel_rfl) (by kernel_rfl) (by kernel_rfl) H (by kernel_rfl)
theorem pu_value_plain (gl : Fr) (s0 : ByteArray) (R : Bool → Prop)
    (H : PC Tryz.prog gl 60 [Arg.mk .str s0] [.int .i64, .bool] (fun r_1 : Int × Bool => R r_1.2)) :
    PC Tryz.prog gl 96 [Arg.mk .str s0] [.bool] R :=
  PC_of_form Tryz.mixed gl 34 ⟨[], [], [], []⟩ [Arg.mk .str s0] (rs := [.tmp 2]) (n := 11) Tryz.func96 (by kernel_rfl) (by kernel_rfl) (by kernel_rfl) (by kernel_rfl) H (by kernel_rfl)
theorem pu_value_hole (gl : Fr) (s0 : ByteArray) (R : Bool → Prop)
    (H : PC Tryz.prog gl 95 [Arg.mk .str s0] [.pair .bool (.pair .str (.int .i64)), .bool] (fun r_1 : (Bool × ByteArray × Int) × Bool => PC Tryz.prog gl 127 [Arg.mk (.pair .bool (.pair .str (.int .i64))) (r_1.1.1, (r_1.1.2.1, r_1.1.2.2))] [.int .i64, .bool] (fun r_2 : Int × Bool => R (bif (bif r_1.2 then r_2.2 else false) then (decide ((r_2.1 : Int) ≥ 0)) else false)))) :
    PC Tryz.prog gl 97 [Arg.mk .str s0] [.bool] R :=
  PC_of_form Tryz.mixed gl 34 ⟨[], [], [], []⟩ [Arg.mk .str s0] (rs := [.tmp 2]) (n := 25) Tryz.func97 (by kernel_rfl) (by kernel_rfl) (by kernel_rfl) (by kernel_rfl) H (by kernel_rfl)
theorem pu_pointer_item (gl : Fr) (v0 : Tr) (step1 : ByteArray) (R : Int → Prop)
    (H : (((v0.kind : Int) == 6) = true → PC Tryz.prog gl 128 [Arg.mk (.row .str) v0.keys, Arg.mk .str step1] [.int .i64] (fun r_1 : Int => R r_1)) ∧ (((v0.kind : Int) == 6) = false → (((v0.kind : Int) == 5) = true → PC Tryz.prog gl 25 [Arg.mk .str step1] [.int .i64, .bool] (fun r_2 : Int × Bool => ((bif r_2.2 then (decide ((r_2.1 : Int) < ((List.length v0.items : Nat) : Int))) else false) = true → R r_2.1) ∧ ((bif r_2.2 then (decide ((r_2.1 : Int) < ((List.length v0.items : Nat) : Int))) else false) = false → R (-1)))) ∧ (((v0.kind : Int) == 5) = false → R (-1)))) :
    PC Tryz.prog gl 99 [Arg.mk .tree v0, Arg.mk .str step1] [.int .i64] R :=
  PC_of_form Tryz.mixed gl 34 ⟨[], [], [], []⟩ [Arg.mk .tree v0, Arg.mk .str step1] (rs := [.tmp 4]) (n := 31) Tryz.func99 (by kernel_rfl) (by kernel_rfl) (by kernel_rfl) (by kernel_rfl) H (by kernel_rfl)
theorem pu_number_digits (gl : Fr) (s0 : ByteArray) (R : Bool → Prop)
    (H : ∃ (I_2 : (ByteArray × Nat) → Prop) (μ_3 : (ByteArray × Nat) → Nat), I_2 (s0, 0) ∧ ∀ b6_0_1 : ByteArray × Nat, I_2 b6_0_1 → (((nxB b6_0_1.1 b6_0_1.2) = true → (nxB b6_0_1.1 b6_0_1.2) = true ∧ ((bif (decide ((nxR b6_0_1.1 b6_0_1.2 : Int) < 48)) then true else (decide ((nxR b6_0_1.1 b6_0_1.2 : Int) > 57))) = true → R false) ∧ ((bif (decide ((nxR b6_0_1.1 b6_0_1.2 : Int) < 48)) then true else (decide ((nxR b6_0_1.1 b6_0_1.2 : Int) > 57))) = false → (I_2 (b6_0_1.1, nxP b6_0_1.1 b6_0_1.2) ∧ μ_3 (b6_0_1.1, nxP b6_0_1.1 b6_0_1.2) < μ_3 b6_0_1))) ∧ ((nxB b6_0_1.1 b6_0_1.2) = false → R (!((s0 : ByteArray).toList == ((⟨#[]⟩ : ByteArray) : ByteArray).toList))))) :
    PC Tryz.prog gl 114 [Arg.mk .str s0] [.bool] R :=
  PC_of_form Tryz.mixed gl 34 ⟨[], [], [(2, ⟨[], [(6, [.dat .iter])], [], [1000384]⟩)], []⟩ [Arg.mk .str s0] (rs := [.tmp 2]) (n := 18) Tryz.func114 (by kernel_rfl) (by kernel_rfl) (by kernel_rfl) (by kernel_rfl) H (by kernel_rfl)
theorem pu_number_read (gl : Fr) (s0 : ByteArray) (R : ((Bool × Bool × ByteArray × ByteArray × ByteArray) × Bool) → Prop)
    (H : PC Tryz.prog gl 138 [Arg.mk .str s0, Arg.mk .str (⟨#[45]⟩ : ByteArray)] [.str, .bool] (fun r_1 : ByteArray × Bool => PC Tryz.prog gl 139 [Arg.mk .str r_1.1, Arg.mk .str (⟨#[101, 69]⟩ : ByteArray)] [.str, .str, .bool] (fun r_2 : ByteArray × ByteArray × Bool => ∀ K_9 : ByteArray → Bool → Bool → ByteArray → ByteArray → ByteArray → Prop, (∀ exp4_3 : ByteArray, ∀ x_0_4 : Bool, ∀ x_1_5 : Bool, ∀ x_2_6 : ByteArray, ∀ x_3_7 : ByteArray, ∀ x_4_8 : ByteArray, (PC Tryz.prog gl 139 [Arg.mk .str r_2.1, Arg.mk .str (⟨#[46]⟩ : ByteArray)] [.str, .str, .bool] (fun r_20 : ByteArray × ByteArray × Bool => PC Tryz.prog gl 114 [Arg.mk .str r_20.1] [.bool] (fun r_21 : Bool => ∃ J_22 : Bool → Prop, (((!(!r_21)) && r_20.2.2) = true → PC Tryz.prog gl 114 [Arg.mk .str r_20.2.1] [.bool] J_22) ∧ ∀ r_23 : Bool, (((!(!r_21)) && r_20.2.2) = true → J_22 r_23) → ((bif (!r_21) then true else (bif r_20.2.2 then (!r_23) else false)) = true → R ((x_0_4, (x_1_5, (r_20.1, (r_20.2.1, exp4_3)))), false)) ∧ ((bif (!r_21) then true else (bif r_20.2.2 then (!r_23) else false)) = false → ((!((r_20.1 : ByteArray).toList == ((⟨#[48]⟩ : ByteArray) : ByteArray).toList)) = true → (0 ≤ (0 : Int) ∧ (0 : Int) < ((r_20.1).size : Int))) ∧ R ((x_0_4, (x_1_5, (r_20.1, (r_20.2.1, exp4_3)))), bif ((r_20.1 : ByteArray).toList == ((⟨#[48]⟩ : ByteArray) : ByteArray).toList) then true else ((byteAt r_20.1 (0 : Int).toNat : Int) != 48)))))) → K_9 exp4_3 x_0_4 x_1_5 x_2_6 x_3_7 x_4_8) → (r_2.2.2 = true → PC Tryz.prog gl 138 [Arg.mk .str r_2.2.1, Arg.mk .str (⟨#[45]⟩ : ByteArray)] [.str, .bool] (fun r_10 : ByteArray × Bool => ∀ K_17 : ByteArray → Bool → Bool → ByteArray → ByteArray → ByteArray → Prop, (∀ exp4_11 : ByteArray, ∀ x_0_12 : Bool, ∀ x_1_13 : Bool, ∀ x_2_14 : ByteArray, ∀ x_3_15 : ByteArray, ∀ x_4_16 : ByteArray, (PC Tryz.prog gl 114 [Arg.mk .str exp4_11] [.bool] (fun r_19 : Bool => ((!r_19) = true → R ((x_0_12, (x_1_13, (x_2_14, (x_3_15, x_4_16)))), false)) ∧ ((!r_19) = false → K_9 exp4_11 x_0_12 x_1_13 x_2_14 x_3_15 x_4_16))) → K_17 exp4_11 x_0_12 x_1_13 x_2_14 x_3_15 x_4_16) → ((!r_10.2) = true → PC Tryz.prog gl 140 [Arg.mk .str r_10.1, Arg.mk .str (⟨#[43]⟩ : ByteArray)] [.str] (fun r_18 : ByteArray => K_17 r_18 r_1.2 r_10.2 (⟨#[]⟩ : ByteArray) (⟨#[]⟩ : ByteArray) (⟨#[]⟩ : ByteArray))) ∧ ((!r_10.2) = false → K_17 r_10.1 r_1.2 r_10.2 (⟨#[]⟩ : ByteArray) (⟨#[]⟩ : ByteArray) (⟨#[]⟩ : ByteArray)))) ∧ (r_2.2.2 = false → K_9 r_2.2.1 r_1.2 false (⟨#[]⟩ : ByteArray) (⟨#[]⟩ : ByteArray) (⟨#[]⟩ : ByteArray))))) :
    PC Tryz.prog gl 116 [Arg.mk .str s0] [.pair .bool (.pair .bool (.pair .str (.pair .str .str))), .bool] R :=
  PC_of_form Tryz.mixed gl 34 ⟨[], [(14, 8, [], [0, 1, 2, 3, 4, 5, 6, 7], [4, 5, 6, 7])], [], [(9, ⟨[(4, .one (.dat .str))], [(2, [.dat .bool, .dat .bool, .dat .str, .dat .str, .dat .str])], [], [100256, 1000128, 1000129, 1000130, 1000131, 1000132]⟩), (7, ⟨[(4, .one (.dat .str))], [(2, [.dat .bool, .dat .bool, .dat .str, .dat .str, .dat .str])], [], [100256, 1000128, 1000129, 1000130, 1000131, 1000132]⟩)]⟩ [Arg.mk .str s0] (rs := [.cell 2 131, .tmp 3]) (n := 69) Tryz.func116 (by kernel_rfl) (by kernel_rfl) (by kernel_rfl) (by kernel_rfl) H (by kernel_rfl)
theorem pu_unicode_utf8_word_string (gl : Fr) (s0 : ByteArray) (R : Int → Prop)
    (H : (false = true → (0 ≤ (0 : Int) ∧ (0 : Int) < ((s0).size : Int)) ∧ (0 ≤ (1 : Int) ∧ (1 : Int) < ((s0).size : Int)) ∧ (0 ≤ (2 : Int) ∧ (2 : Int) < ((s0).size : Int)) ∧ (0 ≤ (3 : Int) ∧ (3 : Int) < ((s0).size : Int)) ∧ R (IntKind.wrap .u64 (((BitVec.ofInt (IntKind.bits .u64) (IntKind.wrap .u64 (((BitVec.ofInt (IntKind.bits .u64) (IntKind.wrap .u64 (((BitVec.ofInt (IntKind.bits .u64) (IntKind.wrap .u64 (byteAt s0 (0 : Int).toNat))) ||| (BitVec.ofInt (IntKind.bits .u64) (IntKind.wrap .u64 ((IntKind.wrap .u64 (byteAt s0 (1 : Int).toNat)) * 2 ^ 8)))).toNat : Int))) ||| (BitVec.ofInt (IntKind.bits .u64) (IntKind.wrap .u64 ((IntKind.wrap .u64 (byteAt s0 (2 : Int).toNat)) * 2 ^ 16)))).toNat : Int))) ||| (BitVec.ofInt (IntKind.bits .u64) (IntKind.wrap .u64 ((IntKind.wrap .u64 (byteAt s0 (3 : Int).toNat)) * 2 ^ 24)))).toNat : Int))) ∧ (false = false → (0 ≤ (0 : Int) ∧ (0 : Int) < ((s0).size : Int)) ∧ (0 ≤ (1 : Int) ∧ (1 : Int) < ((s0).size : Int)) ∧ (0 ≤ (2 : Int) ∧ (2 : Int) < ((s0).size : Int)) ∧ (0 ≤ (3 : Int) ∧ (3 : Int) < ((s0).size : Int)) ∧ (0 ≤ (4 : Int) ∧ (4 : Int) < ((s0).size : Int)) ∧ (0 ≤ (5 : Int) ∧ (5 : Int) < ((s0).size : Int)) ∧ (0 ≤ (6 : Int) ∧ (6 : Int) < ((s0).size : Int)) ∧ (0 ≤ (7 : Int) ∧ (7 : Int) < ((s0).size : Int)) ∧ R (IntKind.wrap .u64 (((BitVec.ofInt (IntKind.bits .u64) (IntKind.wrap .u64 (((BitVec.ofInt (IntKind.bits .u64) (IntKind.wrap .u64 (((BitVec.ofInt (IntKind.bits .u64) (IntKind.wrap .u64 (((BitVec.ofInt (IntKind.bits .u64) (IntKind.wrap .u64 (((BitVec.ofInt (IntKind.bits .u64) (IntKind.wrap .u64 (((BitVec.ofInt (IntKind.bits .u64) (IntKind.wrap .u64 (((BitVec.ofInt (IntKind.bits .u64) (IntKind.wrap .u64 (byteAt s0 (0 : Int).toNat))) ||| (BitVec.ofInt (IntKind.bits .u64) (IntKind.wrap .u64 ((IntKind.wrap .u64 (byteAt s0 (1 : Int).toNat)) * 2 ^ 8)))).toNat : Int))) ||| (BitVec.ofInt (IntKind.bits .u64) (IntKind.wrap .u64 ((IntKind.wrap .u64 (byteAt s0 (2 : Int).toNat)) * 2 ^ 16)))).toNat : Int))) ||| (BitVec.ofInt (IntKind.bits .u64) (IntKind.wrap .u64 ((IntKind.wrap .u64 (byteAt s0 (3 : Int).toNat)) * 2 ^ 24)))).toNat : Int))) ||| (BitVec.ofInt (IntKind.bits .u64) (IntKind.wrap .u64 ((IntKind.wrap .u64 (byteAt s0 (4 : Int).toNat)) * 2 ^ 32)))).toNat : Int))) ||| (BitVec.ofInt (IntKind.bits .u64) (IntKind.wrap .u64 ((IntKind.wrap .u64 (byteAt s0 (5 : Int).toNat)) * 2 ^ 40)))).toNat : Int))) ||| (BitVec.ofInt (IntKind.bits .u64) (IntKind.wrap .u64 ((IntKind.wrap .u64 (byteAt s0 (6 : Int).toNat)) * 2 ^ 48)))).toNat : Int))) ||| (BitVec.ofInt (IntKind.bits .u64) (IntKind.wrap .u64 ((IntKind.wrap .u64 (byteAt s0 (7 : Int).toNat)) * 2 ^ 56)))).toNat : Int)))) :
    PC Tryz.prog gl 121 [Arg.mk .str s0] [.int .u64] R :=
  PC_of_form Tryz.mixed gl 34 ⟨[], [], [], []⟩ [Arg.mk .str s0] (rs := [.tmp 2]) (n := 59) Tryz.func121 (by kernel_rfl) (by kernel_rfl) (by kernel_rfl) (by kernel_rfl) H (by kernel_rfl)
theorem pu_number_Int (gl : Fr) (n0 : Bool × ByteArray × Int) (R : (Int × Bool) → Prop)
    (H : PC Tryz.prog gl 80 [Arg.mk (.pair .bool (.pair .str (.int .i64))) (n0.1, (n0.2.1, n0.2.2))] [.bool] (fun r_1 : Bool => ((bif (bif (!r_1) then true else (decide ((n0.2.2 : Int) < 0))) then true else (decide ((IntKind.wrap .i64 (((n0.2.1).size : Int) + n0.2.2) : Int) > 19))) = true → R (0, false)) ∧ ((bif (bif (!r_1) then true else (decide ((n0.2.2 : Int) < 0))) then true else (decide ((IntKind.wrap .i64 (((n0.2.1).size : Int) + n0.2.2) : Int) > 19))) = false → PC Tryz.prog gl 150 [Arg.mk .str (⟨#[48]⟩ : ByteArray), Arg.mk (.int .i64) n0.2.2] [.str] (fun r_2 : ByteArray => fits63 ((n0.2.1).size + (r_2).size) ∧ ∀ K_4 : ByteArray → Prop, (∀ s4_3 : ByteArray, ((((s4_3 : ByteArray).toList == ((⟨#[]⟩ : ByteArray) : ByteArray).toList) = true → R (0, true)) ∧ (((s4_3 : ByteArray).toList == ((⟨#[]⟩ : ByteArray) : ByteArray).toList) = false → PC Tryz.prog gl 151 [Arg.mk .str s4_3, Arg.mk (.int .i64) 10, Arg.mk (.int .i64) 64] [.int .i64, .err] (fun r_5 : Int × Bool => ((!r_5.2) = true → R (0, false)) ∧ ((!r_5.2) = false → R (r_5.1, true))))) → K_4 s4_3) → (n0.1 = true → fits63 (((⟨#[45]⟩ : ByteArray)).size + (n0.2.1 ++ r_2).size) ∧ K_4 ((⟨#[45]⟩ : ByteArray) ++ (n0.2.1 ++ r_2))) ∧ (n0.1 = false → K_4 (n0.2.1 ++ r_2)))))) :
    PC Tryz.prog gl 127 [Arg.mk (.pair .bool (.pair .str (.int .i64))) n0] [.int .i64, .bool] R :=
  PC_of_form Tryz.mixed gl 34 ⟨[], [(3, 5, [], [0, 1, 2, 3, 4], [])], [], [(6, ⟨[(4, .one (.dat .str))], [], [], [100256]⟩)]⟩ [Arg.mk (.pair .bool (.pair .str (.int .i64))) n0] (rs := [.tmp 2, .tmp 3]) (n := 44) Tryz.func127 (by kernel_rfl) (by kernel_rfl) (by kernel_rfl) (by kernel_rfl) H (by kernel_rfl)
theorem pu_number_cut (gl : Fr) (s0 : ByteArray) (at1 : ByteArray) (R : (ByteArray × ByteArray × Bool) → Prop)
    (H : ∃ (I_2 : Int → Prop) (μ_3 : Int → Nat), I_2 0 ∧ ∀ x10_1 : Int, I_2 x10_1 → (((decide ((x10_1 : Int) < ((s0).size : Int))) = true → (0 ≤ (x10_1 : Int) ∧ (x10_1 : Int) < ((s0).size : Int)) ∧ PC Tryz.prog gl 132 [Arg.mk .str at1, Arg.mk (.int .u8) (byteAt s0 (x10_1 : Int).toNat)] [.int .i64] (fun r_5 : Int => ((decide ((r_5 : Int) ≥ 0)) = true → (0 ≤ (0 : Int) ∧ (0 : Int) ≤ x10_1 ∧ (x10_1 : Int) ≤ ((s0).size : Int)) ∧ (0 ≤ (IntKind.wrap .i64 (x10_1 + 1) : Int) ∧ (IntKind.wrap .i64 (x10_1 + 1) : Int) ≤ ((s0).size : Int) ∧ (((s0).size : Int) : Int) ≤ ((s0).size : Int)) ∧ R ((s0).extract (0 : Int).toNat (x10_1 : Int).toNat, (s0).extract (IntKind.wrap .i64 (x10_1 + 1) : Int).toNat (((s0).size : Int) : Int).toNat, true)) ∧ ((decide ((r_5 : Int) ≥ 0)) = false → (I_2 (IntKind.wrap .i64 (x10_1 + 1)) ∧ μ_3 (IntKind.wrap .i64 (x10_1 + 1)) < μ_3 x10_1)))) ∧ ((decide ((x10_1 : Int) < ((s0).size : Int))) = false → R (s0, (⟨#[]⟩ : ByteArray), false)))) :
    PC Tryz.prog gl 139 [Arg.mk .str s0, Arg.mk .str at1] [.str, .str, .bool] R :=
  PC_of_form Tryz.mixed gl 34 ⟨[], [], [(2, ⟨[(10, .one (.dat (.int .i64)))], [], [], [100640]⟩)], []⟩ [Arg.mk .str s0, Arg.mk .str at1] (rs := [.tmp 4, .tmp 5, .tmp 6]) (n := 28) Tryz.func139 (by kernel_rfl) (by kernel_rfl) (by kernel_rfl) (by kernel_rfl) H (by kernel_rfl)
end Go.Proofs.YtaoceiiakcpbaaaGreatDoor
end
section
namespace Go.X
open Go
set_option linter.unusedVariables false
abbrev bl (l : List UInt8) : ByteArray := ⟨l.toArray⟩
abbrev lb (s : ByteArray) : List UInt8 := s.data.toList
@[simp] theorem lb_bl (l : List UInt8) : lb (bl l) = l := by simp [lb]
@[simp] theorem bl_lb (s : ByteArray) : bl (lb s) = s := by cases s; simp [lb, bl]
theorem lb_inj {s t : ByteArray} : lb s = lb t ↔ s = t := ⟨fun h => by rw [← bl_lb s, h, bl_lb], fun h => by rw [h]⟩
theorem lb_len (s : ByteArray) : (lb s).length = s.size := by cases s; simp [lb, ByteArray.size]
theorem lb_append (s t : ByteArray) : lb (s ++ t) = lb s ++ lb t := by
  cases s; cases t
  simp [lb]
theorem lb_extract (s : ByteArray) (a b : Nat) : lb (s.extract a b) = ((lb s).drop a).take (b - a) := by
  cases s
  simp [lb, ByteArray.data_extract, List.extract_eq_take_drop]
theorem byteAt_lb (s : ByteArray) (i : Nat) : byteAt s i = ((((lb s)[i]?).getD 0).toNat : Int) := by
  cases s; simp [lb, byteAt]
theorem get!_lb (s : ByteArray) (i : Nat) : s.get! i = ((lb s)[i]?).getD 0 := by
  cases s with
  | mk d => simp [lb, ByteArray.get!, Array.getElem!_eq_getD]; rfl
def dec (l : List UInt8) : Nat × Nat := Go.Lib.decodeN l.length (l.getD 0 0).toNat (l.getD 1 0).toNat (l.getD 2 0).toNat (l.getD 3 0).toNat
theorem dec_at (s : ByteArray) (i : Nat) : Utf8.decode s i = dec ((lb s).drop i) := by
  rw [Go.Lib.decode_at, dec]
  simp only [get!_lb, List.getD_eq_getElem?_getD, List.getElem?_drop, List.length_drop, lb_len, Nat.add_zero]
theorem dec_width (l : List UInt8) : 1 ≤ (dec l).2 ∧ (dec l).2 ≤ 4 := by
  unfold dec Go.Lib.decodeN
  repeat' split
  all_goals simp
theorem dec_le {l : List UInt8} (h : l ≠ []) : (dec l).2 ≤ l.length := by
  have : 0 < l.length := List.length_pos_iff.2 h
  unfold dec Go.Lib.decodeN
  repeat' split
  all_goals simp only
  all_goals omega
def badD (d : Nat × Nat) : Bool := d.1 == 65533 && d.2 == 1
def u8ok (l : List UInt8) : Bool := if h : l = [] then true else if badD (dec l) then false else u8ok (l.drop (dec l).2)
termination_by l.length
decreasing_by
  have h1 := dec_width l
  have h2 : 0 < l.length := List.length_pos_iff.2 h
  simp only [List.length_drop]; omega
theorem u8ok_nil : u8ok [] = true := by unfold u8ok; simp
theorem u8ok_step {l : List UInt8} (h : l ≠ []) : u8ok l = if badD (dec l) then false else u8ok (l.drop (dec l).2) := by
  rw [u8ok]; simp [h]
theorem dec_ascii {c : UInt8} {l : List UInt8} (h : c.toNat < 128) : dec (c :: l) = (c.toNat, 1) := by
  simp [dec, Go.Lib.decodeN, h]
theorem badD_ascii {c : UInt8} {l : List UInt8} (h : c.toNat < 128) : badD (dec (c :: l)) = false := by
  rw [dec_ascii h, badD]
  have : (c.toNat == 65533) = false := by simp; omega
  simp [this]
theorem u8ok_ascii {c : UInt8} {l : List UInt8} (h : c.toNat < 128) : u8ok (c :: l) = u8ok l := by
  rw [u8ok_step (by simp), badD_ascii h, dec_ascii h]; simp
end Go.X
end
section
namespace Go.X
open Go Go.Lib
set_option linter.unusedVariables false
abbrev Bs := List UInt8
theorem index_pre {sub : Bs} {b : UInt8} {l : Bs} (h : sub.isPrefixOf (b :: l) = true) : index (b :: l) sub = 0 := by unfold index; rw [if_pos h]
theorem index_no {sub : Bs} {b : UInt8} {l : Bs} (h : sub.isPrefixOf (b :: l) = false) (h' : index l sub = -1) : index (b :: l) sub = -1 := by unfold index; rw [if_neg (by simp [h]), if_pos (by simp [h'])]
theorem index_on {sub : Bs} {b : UInt8} {l : Bs} (h : sub.isPrefixOf (b :: l) = false) {i : Nat} (h' : index l sub = i) : index (b :: l) sub = ((i + 1 : Nat) : Int) := by
  unfold index
  have : ((i : Int) == -1) = false := by rw [beq_eq_false_iff_ne]; omega
  rw [if_neg (by simp [h]), h', if_neg (by simp [this])]; omega
theorem index_or (l sub : Bs) : index l sub = -1 ∨ ∃ i : Nat, index l sub = i := by
  have := index_ge l sub
  by_cases h : index l sub = -1
  · exact .inl h
  · exact .inr ⟨(index l sub).toNat, by omega⟩
theorem index_nil {sub : Bs} (h : sub ≠ []) : index [] sub = -1 := by
  unfold index; cases sub with
  | nil => exact absurd rfl h
  | cons a t => rfl
theorem index_fit {l sub : Bs} {i : Nat} (h : index l sub = i) : i + sub.length ≤ l.length := by
  have := index_room l sub (by omega); omega
def repW (old new : Bs) (s : Bs) : Bs :=
  if h : old = [] ∨ index s old = -1 then s else s.take (index s old).toNat ++ new ++ repW old new (s.drop ((index s old).toNat + old.length))
termination_by s.length
decreasing_by
  have h1 : old ≠ [] := fun e => h (.inl e)
  have h2 : 0 < old.length := List.length_pos_iff.2 h1
  have h3 := index_ge s old
  have h4 : index s old ≠ -1 := fun e => h (.inr e)
  have h5 := index_room s old (by omega)
  simp only [List.length_drop]; omega
theorem repW_miss {old new s : Bs} (h : index s old = -1) : repW old new s = s := by rw [repW, dif_pos (.inr h)]
theorem repW_hit {old new s : Bs} {i : Nat} (ho : old ≠ []) (h : index s old = i) : repW old new s = s.take i ++ new ++ repW old new (s.drop (i + old.length)) := by
  rw [repW, dif_neg (fun e => e.elim ho fun e => by omega), h]; simp
theorem countFrom_fuel {sub : Bs} (ho : sub ≠ []) : ∀ (f : Nat) (s : Bs), s.length < f → ∀ g, s.length < g → countFrom sub f s = countFrom sub g s
  | 0, _, h, _, _ => absurd h (Nat.not_lt_zero _)
  | f + 1, s, hf, 0, hg => absurd hg (Nat.not_lt_zero _)
  | f + 1, s, hf, g + 1, hg => by
    unfold countFrom
    rcases index_or s sub with e | ⟨i, e⟩
    · simp [e]
    · have hb : ((i : Int) == -1) = false := by rw [beq_eq_false_iff_ne]; omega
      rw [e, if_neg (by simp [hb]), if_neg (by simp [hb])]
      have h1 := index_fit e
      have h2 : 0 < sub.length := List.length_pos_iff.2 ho
      rw [countFrom_fuel ho f _ (by simp only [List.length_drop, Int.toNat_natCast]; omega) g (by simp only [List.length_drop, Int.toNat_natCast]; omega)]
theorem count_no {sub s : Bs} (h : index s sub = -1) : count s sub = 0 := by rw [count, countFrom, h]; rfl
theorem count_hit {sub s : Bs} {i : Nat} (ho : sub ≠ []) (e : index s sub = i) : count s sub = 1 + count (s.drop (i + sub.length)) sub := by
  have hb : ((i : Int) == -1) = false := by rw [beq_eq_false_iff_ne]; omega
  have h1 := index_fit e
  have h2 : 0 < sub.length := List.length_pos_iff.2 ho
  rw [count, countFrom, e, if_neg (by simp [hb]), count, Int.toNat_natCast, countFrom_fuel ho s.length _ (by simp only [List.length_drop]; omega) ((s.drop (i + sub.length)).length + 1) (by omega)]
theorem replaceK_full {old new : Bs} (ho : old ≠ []) : ∀ (k : Nat) (s : Bs), count s old ≤ k → replaceK old new k s = repW old new s
  | 0, s, h => by
    rcases index_or s old with e | ⟨i, e⟩
    · rw [repW_miss e]; rfl
    · rw [count_hit ho e] at h; omega
  | k + 1, s, h => by
    rcases index_or s old with e | ⟨i, e⟩
    · rw [repW_miss e, replaceK, if_pos (by simp [e])]
    · rw [repW_hit ho e, replaceK_hit _ _ _ _ _ e, replaceK_full ho k]
      rw [count_hit ho e] at h; omega
theorem replaceAll_W {old new s : Bs} (ho : old ≠ []) (hn : old ≠ new) : replaceAll s old new = repW old new s := by
  unfold replaceAll replace
  rw [if_neg (by simpa using hn), replaceNum, if_pos (.inl (by omega))]
  exact replaceK_full ho _ _ (Nat.le_refl _)
theorem repW_nil {old new : Bs} (ho : old ≠ []) : repW old new [] = [] := repW_miss (index_nil ho)
theorem repW_cons {old new : Bs} (ho : old ≠ []) (b : UInt8) (l : Bs) : repW old new (b :: l) = if old.isPrefixOf (b :: l) then new ++ repW old new ((b :: l).drop old.length) else b :: repW old new l := by
  cases hp : old.isPrefixOf (b :: l) with
  | true => rw [repW_hit (i := 0) ho (index_pre hp)]; simp
  | false =>
    simp only [Bool.false_eq_true, if_false]
    rcases index_or l old with e | ⟨i, e⟩
    · rw [repW_miss (index_no hp e), repW_miss e]
    · rw [repW_hit ho (index_on hp e), repW_hit ho e, show i + 1 + old.length = (i + old.length) + 1 by omega]; simp
theorem count_nil {sub : Bs} (ho : sub ≠ []) : count [] sub = 0 := by
  unfold count countFrom
  simp [index_nil ho]
theorem count_cons {sub : Bs} (ho : sub ≠ []) (b : UInt8) (l : Bs) : count (b :: l) sub = if sub.isPrefixOf (b :: l) then 1 + count ((b :: l).drop sub.length) sub else count l sub := by
  cases hp : sub.isPrefixOf (b :: l) with
  | true =>
    simp only [if_true]
    rw [count_hit (i := 0) ho (index_pre hp), Nat.zero_add]
  | false =>
    simp only [Bool.false_eq_true, if_false]
    rcases index_or l sub with e | ⟨i, e⟩
    · rw [count_no (index_no hp e), count_no e]
    · rw [count_hit ho (index_on hp e), count_hit ho e, show i + 1 + sub.length = (i + sub.length) + 1 by omega, List.drop_succ_cons]
theorem count_one (c : UInt8) : ∀ l : Bs, count l [c] = l.count c
  | [] => by rw [count_nil (by simp)]; rfl
  | b :: l => by
    rw [count_cons (by simp), List.count_cons]
    simp only [List.isPrefixOf, Bool.and_true, beq_iff_eq, List.length_singleton, List.drop_succ_cons, List.drop_zero]
    rw [count_one c l]
    by_cases h : c = b
    · subst h; simp; omega
    · rw [if_neg h, if_neg (fun e => h e.symm)]; omega
theorem repW_one (c : UInt8) (new : Bs) : ∀ l : Bs, repW [c] new l = l.flatMap fun x => if x = c then new else [x]
  | [] => repW_nil (by simp)
  | b :: l => by
    rw [repW_cons (by simp), List.flatMap_cons]
    simp only [List.isPrefixOf, Bool.and_true, beq_iff_eq, List.length_singleton, List.drop_succ_cons, List.drop_zero]
    rw [repW_one c new l]
    by_cases h : c = b
    · subst h; simp
    · rw [if_neg h, if_neg (fun e => h e.symm)]; simp
def splW (sep : Bs) (s : Bs) : List Bs :=
  if h : sep = [] ∨ index s sep = -1 then [s] else s.take (index s sep).toNat :: splW sep (s.drop ((index s sep).toNat + sep.length))
termination_by s.length
decreasing_by
  have h1 : sep ≠ [] := fun e => h (.inl e)
  have h2 : 0 < sep.length := List.length_pos_iff.2 h1
  have h3 := index_ge s sep
  have h4 : index s sep ≠ -1 := fun e => h (.inr e)
  have h5 := index_room s sep (by omega)
  simp only [List.length_drop]; omega
theorem splW_miss {sep s : Bs} (h : index s sep = -1) : splW sep s = [s] := by rw [splW, dif_pos (.inr h)]
theorem splW_hit {sep s : Bs} {i : Nat} (ho : sep ≠ []) (h : index s sep = i) : splW sep s = s.take i :: splW sep (s.drop (i + sep.length)) := by
  rw [splW, dif_neg (fun e => e.elim ho fun e => by omega), h]; simp
theorem splitK_full {sep : Bs} (ho : sep ≠ []) : ∀ (k : Nat) (s : Bs), count s sep ≤ k → splitK sep 0 k s = splW sep s
  | 0, s, h => by
    rcases index_or s sep with e | ⟨i, e⟩
    · rw [splW_miss e]; rfl
    · rw [count_hit ho e] at h; omega
  | k + 1, s, h => by
    rcases index_or s sep with e | ⟨i, e⟩
    · rw [splW_miss e, splitK, if_pos (by simp [e])]
    · have hb : ((i : Int) == -1) = false := by rw [beq_eq_false_iff_ne]; omega
      rw [splW_hit ho e, splitK, e, if_neg (by simp [hb]), Int.toNat_natCast, splitK_full ho k]
      · simp
      · rw [count_hit ho e] at h; omega
def splC (c : UInt8) : Bs → List Bs
  | [] => [[]]
  | b :: l => if b = c then [] :: splC c l else match splC c l with
    | [] => [[b]]
    | x :: r => (b :: x) :: r
theorem splC_ne (c : UInt8) : ∀ l, splC c l ≠ []
  | [] => by simp [splC]
  | b :: l => by
    unfold splC
    split
    · simp
    · split <;> simp
theorem splW_one (c : UInt8) : ∀ l : Bs, splW [c] l = splC c l
  | [] => splW_miss (index_nil (by simp))
  | b :: l => by
    have ih := splW_one c l
    by_cases h : b = c
    · subst h
      rw [splW_hit (i := 0) (by simp) (index_pre (by simp [List.isPrefixOf])), splC, if_pos rfl, ← ih]; simp
    · have hp : [c].isPrefixOf (b :: l) = false := by simp [List.isPrefixOf]; exact fun e => h e.symm
      rw [splC, if_neg h, ← ih]
      rcases index_or l [c] with e | ⟨i, e⟩
      · rw [splW_miss (index_no hp e), splW_miss e]
      · rw [splW_hit (by simp) (index_on hp e), splW_hit (by simp) e, show i + 1 + [c].length = (i + [c].length) + 1 by rfl]; simp
theorem splC_length (c : UInt8) : ∀ l, (splC c l).length = l.count c + 1
  | [] => rfl
  | b :: l => by
    have ih := splC_length c l
    unfold splC
    rw [List.count_cons]
    by_cases h : b = c
    · subst h; simp [ih]
    · rw [if_neg h]
      simp only [beq_iff_eq, h, if_false, Nat.add_zero]
      split
      · rename_i e; exact absurd e (splC_ne c l)
      · rename_i x r e; rw [e] at ih; simpa using ih
end Go.X
end
section
namespace Go.Proofs.YtaoceiiakcpbaaaGreatDoor
open Go Go.X Go.Proofs
set_option linter.unusedVariables false
theorem wrap32' {n : Int} (h1 : -2147483648 ≤ n) (h2 : n ≤ 2147483647) : IntKind.wrap .i32 n = n := by
  unfold IntKind.wrap
  have e : (2 : Int) ^ IntKind.bits .i32 = 4294967296 := by decide
  have e' : (2 : Int) ^ (IntKind.bits .i32 - 1) = 2147483648 := by decide
  simp only [e, e']
  have hs : IntKind.signed .i32 = true := rfl
  simp only [hs, Bool.true_and, decide_eq_true_eq]
  split <;> omega
theorem dec0 {n b0 b1 b2 b3 : Nat} (h : 128 ≤ b0 ∧ b0 < 194 ∨ 245 ≤ b0 ∧ b0 < 256) : Lib.decodeN n b0 b1 b2 b3 = (65533, 1) := by
  refine Lib.bad_eq _ _ _ _ _ (by omega) ?_
  unfold Lib.firstT
  repeat' split
  all_goals first | rfl | (exfalso; omega)
theorem dec2 {n b0 b1 b2 b3 : Nat} (h : 194 ≤ b0 ∧ b0 < 224) (h1 : b1 < 256) : Lib.decodeN n b0 b1 b2 b3 = if 2 ≤ n ∧ 128 ≤ b1 ∧ b1 ≤ 191 then ((b0 - 192) * 64 + (b1 - 128), 2) else (65533, 1) := by
  unfold Lib.decodeN
  rw [if_neg (by omega)]
  by_cases hc : 2 ≤ n ∧ 128 ≤ b1 ∧ b1 ≤ 191
  · have e : b0 % 32 * 64 + b1 % 64 = (b0 - 192) * 64 + (b1 - 128) := by omega
    rw [if_pos (by omega), if_pos (by omega), if_pos hc, e]
  · rw [if_neg (by omega), if_neg (by omega), if_neg (by omega), if_neg hc]
theorem dec3 {n b0 b1 b2 b3 : Nat} (h : 224 ≤ b0 ∧ b0 < 240) (h1 : b1 < 256) (h2 : b2 < 256) : Lib.decodeN n b0 b1 b2 b3 =
    if 3 ≤ n ∧ (128 ≤ b1 ∧ b1 ≤ 191) ∧ (128 ≤ b2 ∧ b2 ≤ 191) ∧ 2048 ≤ ((b0 - 224) * 64 + (b1 - 128)) * 64 + (b2 - 128) ∧ (((b0 - 224) * 64 + (b1 - 128)) * 64 + (b2 - 128) < 55296 ∨ 57344 ≤ ((b0 - 224) * 64 + (b1 - 128)) * 64 + (b2 - 128))
    then (((b0 - 224) * 64 + (b1 - 128)) * 64 + (b2 - 128), 3) else (65533, 1) := by
  unfold Lib.decodeN
  rw [if_neg (by omega), if_neg (by omega)]
  by_cases hc : 3 ≤ n ∧ (128 ≤ b1 ∧ b1 ≤ 191) ∧ (128 ≤ b2 ∧ b2 ≤ 191)
  · rw [if_pos (by omega)]
    have e : b0 % 16 * 4096 + b1 % 64 * 64 + b2 % 64 = ((b0 - 224) * 64 + (b1 - 128)) * 64 + (b2 - 128) := by omega
    rw [e]
    split <;> rename_i hx
    · rw [if_pos (by omega)]
    · rw [if_neg (by omega)]
  · rw [if_neg (by omega), if_neg (by omega), if_neg (by omega)]
theorem dec4 {n b0 b1 b2 b3 : Nat} (h : 240 ≤ b0 ∧ b0 < 245) (h1 : b1 < 256) (h2 : b2 < 256) (h3 : b3 < 256) : Lib.decodeN n b0 b1 b2 b3 =
    if 4 ≤ n ∧ (128 ≤ b1 ∧ b1 ≤ 191) ∧ (128 ≤ b2 ∧ b2 ≤ 191) ∧ (128 ≤ b3 ∧ b3 ≤ 191) ∧ 65536 ≤ (((b0 - 240) * 64 + (b1 - 128)) * 64 + (b2 - 128)) * 64 + (b3 - 128) ∧ (((b0 - 240) * 64 + (b1 - 128)) * 64 + (b2 - 128)) * 64 + (b3 - 128) ≤ 1114111
    then ((((b0 - 240) * 64 + (b1 - 128)) * 64 + (b2 - 128)) * 64 + (b3 - 128), 4) else (65533, 1) := by
  unfold Lib.decodeN
  rw [if_neg (by omega), if_neg (by omega), if_neg (by omega)]
  by_cases hc : 4 ≤ n ∧ (128 ≤ b1 ∧ b1 ≤ 191) ∧ (128 ≤ b2 ∧ b2 ≤ 191) ∧ (128 ≤ b3 ∧ b3 ≤ 191)
  · rw [if_pos (by omega)]
    have e : b0 % 8 * 262144 + b1 % 64 * 4096 + b2 % 64 * 64 + b3 % 64 = (((b0 - 240) * 64 + (b1 - 128)) * 64 + (b2 - 128)) * 64 + (b3 - 128) := by omega
    rw [e]
    split <;> rename_i hx
    · rw [if_pos (by omega)]
    · rw [if_neg (by omega)]
  · rw [if_neg (by omega), if_neg (by omega)]
end Go.Proofs.YtaoceiiakcpbaaaGreatDoor
end
section
namespace Go.Proofs.YtaoceiiakcpbaaaGreatDoor
open Go Go.Proofs Go.Shelf Go.RowKit
set_option linter.unusedVariables false
def z_lays161_ren : Go.Shelf.Ren := ⟨fun | 161 => 117 | 231 => 141 | 227 => 106 | 233 => 142 | 235 => 143 | 228 => 107 | 197 => 85 | 151 => 163 | 260 => 120 | 152 => 104 | 137 => 132 | 119 => 133 | 224 => 124 | 225 => 123 | 217 => 122 | 266 => 148 | n => n, fun | 9 => 9 | 4 => 4 | 3 => 3 | 5 => 5 | 117 => 121 | 116 => 120 | 0 => 0 | 124 => 146 | 105 => 97 | 21 => 21 | 119 => 136 | 46 => 140 | 139 => 139 | 138 => 138 | n => n, fun | 3 => 1 | 4 => 2 | n => n⟩
theorem z_lays161 : Go.Proofs.Lays.n161 Tryz.prog z_lays161_ren := {
  mixed := by kernel_rfl
  f119 := Tryz.func133.trans (congrArg some (by kernel_rfl))
  f137 := Tryz.func132.trans (congrArg some (by kernel_rfl))
  f151 := Tryz.func163.trans (congrArg some (by kernel_rfl))
  f152 := Tryz.func104.trans (congrArg some (by kernel_rfl))
  f161 := Tryz.func117.trans (congrArg some (by kernel_rfl))
  f197 := Tryz.func85.trans (congrArg some (by kernel_rfl))
  f217 := Tryz.func122.trans (congrArg some (by kernel_rfl))
  f224 := Tryz.func124.trans (congrArg some (by kernel_rfl))
  f225 := Tryz.func123.trans (congrArg some (by kernel_rfl))
  f227 := Tryz.func106.trans (congrArg some (by kernel_rfl))
  f228 := Tryz.func107.trans (congrArg some (by kernel_rfl))
  f231 := Tryz.func141.trans (congrArg some (by kernel_rfl))
  f233 := Tryz.func142.trans (congrArg some (by kernel_rfl))
  f235 := Tryz.func143.trans (congrArg some (by kernel_rfl))
  f260 := Tryz.func120.trans (congrArg some (by kernel_rfl))
  f266 := Tryz.func148.trans (congrArg some (by kernel_rfl))
  t0 := Tryz.underlying0
  a0 := Tryz.isAgg0
  z0 := Tryz.sizeOf0
  v0 := Tryz.zeroValue0
  t3 := Tryz.underlying3
  a3 := Tryz.isAgg3
  z3 := Tryz.sizeOf3
  v3 := Tryz.zeroValue3
  t4 := Tryz.underlying4
  a4 := Tryz.isAgg4
  z4 := Tryz.sizeOf4
  v4 := Tryz.zeroValue4
  t5 := Tryz.underlying5
  a5 := Tryz.isAgg5
  z5 := Tryz.sizeOf5
  v5 := Tryz.zeroValue5
  t9 := Tryz.underlying9
  a9 := Tryz.isAgg9
  z9 := Tryz.sizeOf9
  v9 := Tryz.zeroValue9
  t21 := Tryz.underlying21
  a21 := Tryz.isAgg21
  z21 := Tryz.sizeOf21
  v21 := Tryz.zeroValue21
  t46 := Tryz.underlying140
  a46 := Tryz.isAgg140
  z46 := Tryz.sizeOf140
  v46 := Tryz.zeroValue140
  t105 := Tryz.underlying97
  a105 := Tryz.isAgg97
  z105 := Tryz.sizeOf97
  v105 := Tryz.zeroValue97
  t116 := Tryz.underlying120
  a116 := Tryz.isAgg120
  z116 := Tryz.sizeOf120
  t117 := Tryz.underlying121
  a117 := Tryz.isAgg121
  z117 := Tryz.sizeOf121
  v117 := Tryz.zeroValue121
  t119 := Tryz.underlying136
  a119 := Tryz.isAgg136
  z119 := Tryz.sizeOf136
  t124 := Tryz.underlying146
  a124 := Tryz.isAgg146
  z124 := Tryz.sizeOf146
  v124 := Tryz.zeroValue146
  t138 := Tryz.underlying138
  a138 := Tryz.isAgg138
  z138 := Tryz.sizeOf138
  v138 := Tryz.zeroValue138
  t139 := Tryz.underlying139
  a139 := Tryz.isAgg139
  z139 := Tryz.sizeOf139
  v139 := Tryz.zeroValue139
  g3 := by kernel_rfl
  g4 := by kernel_rfl }
theorem z_strings_TrimLeft_one (s : ByteArray) (c : UInt8) (hc : c.toNat < 128) (w : World) :
    Calls Tryz.prog 117 #[.string s, .string ⟨#[c]⟩] w fun e w' => e = .returned (.string ⟨(Lib.trimLeftB s.data.toList c).toArray⟩) ∧ w' = w := Any.strings_TrimLeft_one z_lays161 s c hc w
def z_lays162_ren : Go.Shelf.Ren := ⟨fun | 162 => 118 | 232 => 144 | 227 => 106 | 234 => 145 | 236 => 146 | 228 => 107 | 271 => 164 | 151 => 163 | 120 => 178 | 197 => 85 | 152 => 104 | 260 => 120 | 137 => 132 | 119 => 133 | 224 => 124 | 225 => 123 | 217 => 122 | 266 => 148 | n => n, fun | 9 => 9 | 4 => 4 | 3 => 3 | 5 => 5 | 117 => 121 | 116 => 120 | 0 => 0 | 124 => 146 | 21 => 21 | 105 => 97 | 46 => 140 | 119 => 136 | 139 => 139 | 138 => 138 | n => n, fun | 3 => 1 | 4 => 2 | n => n⟩
theorem z_lays162 : Go.Proofs.Lays.n162 Tryz.prog z_lays162_ren := {
  mixed := by kernel_rfl
  f119 := Tryz.func133.trans (congrArg some (by kernel_rfl))
  f120 := Tryz.func178.trans (congrArg some (by kernel_rfl))
  f137 := Tryz.func132.trans (congrArg some (by kernel_rfl))
  f151 := Tryz.func163.trans (congrArg some (by kernel_rfl))
  f152 := Tryz.func104.trans (congrArg some (by kernel_rfl))
  f162 := Tryz.func118.trans (congrArg some (by kernel_rfl))
  f197 := Tryz.func85.trans (congrArg some (by kernel_rfl))
  f217 := Tryz.func122.trans (congrArg some (by kernel_rfl))
  f224 := Tryz.func124.trans (congrArg some (by kernel_rfl))
  f225 := Tryz.func123.trans (congrArg some (by kernel_rfl))
  f227 := Tryz.func106.trans (congrArg some (by kernel_rfl))
  f228 := Tryz.func107.trans (congrArg some (by kernel_rfl))
  f232 := Tryz.func144.trans (congrArg some (by kernel_rfl))
  f234 := Tryz.func145.trans (congrArg some (by kernel_rfl))
  f236 := Tryz.func146.trans (congrArg some (by kernel_rfl))
  f260 := Tryz.func120.trans (congrArg some (by kernel_rfl))
  f266 := Tryz.func148.trans (congrArg some (by kernel_rfl))
  f271 := Tryz.func164.trans (congrArg some (by kernel_rfl))
  t0 := Tryz.underlying0
  a0 := Tryz.isAgg0
  z0 := Tryz.sizeOf0
  v0 := Tryz.zeroValue0
  t3 := Tryz.underlying3
  a3 := Tryz.isAgg3
  z3 := Tryz.sizeOf3
  v3 := Tryz.zeroValue3
  t4 := Tryz.underlying4
  a4 := Tryz.isAgg4
  z4 := Tryz.sizeOf4
  v4 := Tryz.zeroValue4
  t5 := Tryz.underlying5
  a5 := Tryz.isAgg5
  z5 := Tryz.sizeOf5
  v5 := Tryz.zeroValue5
  t9 := Tryz.underlying9
  a9 := Tryz.isAgg9
  z9 := Tryz.sizeOf9
  v9 := Tryz.zeroValue9
  t21 := Tryz.underlying21
  a21 := Tryz.isAgg21
  z21 := Tryz.sizeOf21
  v21 := Tryz.zeroValue21
  t46 := Tryz.underlying140
  a46 := Tryz.isAgg140
  z46 := Tryz.sizeOf140
  v46 := Tryz.zeroValue140
  t105 := Tryz.underlying97
  a105 := Tryz.isAgg97
  z105 := Tryz.sizeOf97
  v105 := Tryz.zeroValue97
  t116 := Tryz.underlying120
  a116 := Tryz.isAgg120
  z116 := Tryz.sizeOf120
  t117 := Tryz.underlying121
  a117 := Tryz.isAgg121
  z117 := Tryz.sizeOf121
  v117 := Tryz.zeroValue121
  t119 := Tryz.underlying136
  a119 := Tryz.isAgg136
  z119 := Tryz.sizeOf136
  t124 := Tryz.underlying146
  a124 := Tryz.isAgg146
  z124 := Tryz.sizeOf146
  v124 := Tryz.zeroValue146
  t138 := Tryz.underlying138
  a138 := Tryz.isAgg138
  z138 := Tryz.sizeOf138
  v138 := Tryz.zeroValue138
  t139 := Tryz.underlying139
  a139 := Tryz.isAgg139
  z139 := Tryz.sizeOf139
  v139 := Tryz.zeroValue139
  g3 := by kernel_rfl
  g4 := by kernel_rfl }
theorem z_strings_TrimRight_one (s : ByteArray) (c : UInt8) (hc : c.toNat < 128) (w : World) (hs : s.size ≤ 9223372036854775807) :
    Calls Tryz.prog 118 #[.string s, .string ⟨#[c]⟩] w fun e w' => e = .returned (.string ⟨(Lib.trimRightB s.data.toList c).toArray⟩) ∧ w' = w := Any.strings_TrimRight_one z_lays162 s c hc w hs
def z_lays137_ren : Go.Shelf.Ren := ⟨fun | 137 => 132 | 217 => 122 | 266 => 148 | n => n, fun | 9 => 9 | 5 => 5 | 3 => 3 | n => n, fun | n => n⟩
theorem z_lays137 : Go.Proofs.Lays.n137 Tryz.prog z_lays137_ren := {
  mixed := by kernel_rfl
  f137 := Tryz.func132.trans (congrArg some (by kernel_rfl))
  f217 := Tryz.func122.trans (congrArg some (by kernel_rfl))
  f266 := Tryz.func148.trans (congrArg some (by kernel_rfl))
  t3 := Tryz.underlying3
  a3 := Tryz.isAgg3
  z3 := Tryz.sizeOf3
  v3 := Tryz.zeroValue3
  t5 := Tryz.underlying5
  a5 := Tryz.isAgg5
  z5 := Tryz.sizeOf5
  v5 := Tryz.zeroValue5
  t9 := Tryz.underlying9
  a9 := Tryz.isAgg9
  z9 := Tryz.sizeOf9
  v9 := Tryz.zeroValue9 }
theorem z_strings_IndexByte (s : ByteArray) (c : Int) (w : World) :
    Calls Tryz.prog 132 #[.string s, .int .u8 c] w fun e w' => e = .returned (.int .i64 (Lib.indexByte s.data.toList c.toNat.toUInt8)) ∧ w' = w := Any.strings_IndexByte z_lays137 s c w
def z_lays103_ren : Go.Shelf.Ren := ⟨fun | 103 => 138 | 210 => 161 | 206 => 177 | n => n, fun | 9 => 9 | 4 => 4 | 24 => 155 | 3 => 3 | n => n, fun | n => n⟩
theorem z_lays103 : Go.Proofs.Lays.n103 Tryz.prog z_lays103_ren := {
  mixed := by kernel_rfl
  f103 := Tryz.func138.trans (congrArg some (by kernel_rfl))
  f206 := Tryz.func177.trans (congrArg some (by kernel_rfl))
  f210 := Tryz.func161.trans (congrArg some (by kernel_rfl))
  t3 := Tryz.underlying3
  a3 := Tryz.isAgg3
  z3 := Tryz.sizeOf3
  v3 := Tryz.zeroValue3
  t4 := Tryz.underlying4
  a4 := Tryz.isAgg4
  z4 := Tryz.sizeOf4
  v4 := Tryz.zeroValue4
  t9 := Tryz.underlying9
  a9 := Tryz.isAgg9
  z9 := Tryz.sizeOf9
  v9 := Tryz.zeroValue9
  t24 := Tryz.underlying155
  a24 := Tryz.isAgg155
  z24 := Tryz.sizeOf155
  v24 := Tryz.zeroValue155 }
theorem z_strings_CutPrefix (s p : ByteArray) (w : World) :
    Calls Tryz.prog 138 #[.string s, .string p] w fun e w' => e = .returned (.tuple #[.string ⟨(Lib.trimPrefix s.data.toList p.data.toList).toArray⟩, .bool (Lib.hasPrefix s.data.toList p.data.toList)]) ∧ w' = w := Any.strings_CutPrefix z_lays103 s p w
def z_laysM171_ren : Go.Shelf.Ren := ⟨fun | 171 => 81 | 243 => 115 | 246 => 137 | 283 => 157 | 284 => 158 | 285 => 159 | 286 => 160 | 129 => 173 | 317 => 172 | 318 => 174 | 319 => 175 | 320 => 176 | 337 => 181 | 338 => 182 | n => n, fun | 3 => 3 | 9 => 9 | 2 => 2 | 4 => 4 | 171 => 168 | 0 => 0 | 53 => 147 | 37 => 55 | 5 => 5 | 173 => 171 | 212 => 180 | 51 => 160 | 20 => 20 | 213 => 181 | 46 => 140 | 232 => 187 | 233 => 188 | n => n, fun | 17 => 5 | 18 => 6 | 19 => 7 | n => n⟩
theorem z_laysM171 : Go.Proofs.LaysM.n171 Tryz.prog z_laysM171_ren := {
  mixed := by kernel_rfl
  f129 := Tryz.func173.trans (congrArg some (by kernel_rfl))
  f171 := Tryz.func81.trans (congrArg some (by kernel_rfl))
  f243 := Tryz.func115.trans (congrArg some (by kernel_rfl))
  f246 := Tryz.func137.trans (congrArg some (by kernel_rfl))
  f283 := Tryz.func157.trans (congrArg some (by kernel_rfl))
  f284 := Tryz.func158.trans (congrArg some (by kernel_rfl))
  f285 := Tryz.func159.trans (congrArg some (by kernel_rfl))
  f286 := Tryz.func160.trans (congrArg some (by kernel_rfl))
  f317 := Tryz.func172.trans (congrArg some (by kernel_rfl))
  f318 := Tryz.func174.trans (congrArg some (by kernel_rfl))
  f319 := Tryz.func175.trans (congrArg some (by kernel_rfl))
  f320 := Tryz.func176.trans (congrArg some (by kernel_rfl))
  f337 := Tryz.func181.trans (congrArg some (by kernel_rfl))
  f338 := Tryz.func182.trans (congrArg some (by kernel_rfl))
  t0 := Tryz.underlying0
  a0 := Tryz.isAgg0
  z0 := Tryz.sizeOf0
  v0 := Tryz.zeroValue0
  t2 := Tryz.underlying2
  a2 := Tryz.isAgg2
  z2 := Tryz.sizeOf2
  v2 := Tryz.zeroValue2
  t3 := Tryz.underlying3
  a3 := Tryz.isAgg3
  z3 := Tryz.sizeOf3
  v3 := Tryz.zeroValue3
  t4 := Tryz.underlying4
  a4 := Tryz.isAgg4
  z4 := Tryz.sizeOf4
  v4 := Tryz.zeroValue4
  t5 := Tryz.underlying5
  a5 := Tryz.isAgg5
  z5 := Tryz.sizeOf5
  v5 := Tryz.zeroValue5
  t9 := Tryz.underlying9
  a9 := Tryz.isAgg9
  z9 := Tryz.sizeOf9
  v9 := Tryz.zeroValue9
  t20 := Tryz.underlying20
  a20 := Tryz.isAgg20
  z20 := Tryz.sizeOf20
  v20 := Tryz.zeroValue20
  t37 := Tryz.underlying55
  a37 := Tryz.isAgg55
  z37 := Tryz.sizeOf55
  v37 := Tryz.zeroValue55
  t46 := Tryz.underlying140
  a46 := Tryz.isAgg140
  z46 := Tryz.sizeOf140
  v46 := Tryz.zeroValue140
  t51 := Tryz.underlying160
  a51 := Tryz.isAgg160
  z51 := Tryz.sizeOf160
  v51 := Tryz.zeroValue160
  t53 := Tryz.underlying147
  a53 := Tryz.isAgg147
  z53 := Tryz.sizeOf147
  v53 := Tryz.zeroValue147
  t171 := Tryz.underlying168
  a171 := Tryz.isAgg168
  z171 := Tryz.sizeOf168
  v171 := Tryz.zeroValue168
  t173 := Tryz.underlying171
  a173 := Tryz.isAgg171
  z173 := Tryz.sizeOf171
  v173 := Tryz.zeroValue171
  t212 := Tryz.underlying180
  a212 := Tryz.isAgg180
  z212 := Tryz.sizeOf180
  v212 := Tryz.zeroValue180
  t213 := Tryz.underlying181
  a213 := Tryz.isAgg181
  z213 := Tryz.sizeOf181
  t232 := Tryz.underlying187
  a232 := Tryz.isAgg187
  z232 := Tryz.sizeOf187
  v232 := Tryz.zeroValue187
  t233 := Tryz.underlying188
  a233 := Tryz.isAgg188
  z233 := Tryz.sizeOf188
  v233 := Tryz.zeroValue188
  g17 := by kernel_rfl
  g18 := by kernel_rfl
  g19 := by kernel_rfl
  i0 := by kernel_rfl
  i2 := by kernel_rfl
  i3 := by kernel_rfl
  i4 := by kernel_rfl
  i5 := by kernel_rfl
  i9 := by kernel_rfl
  i20 := by kernel_rfl
  i37 := by kernel_rfl
  i46 := by kernel_rfl
  i51 := by kernel_rfl
  i53 := by kernel_rfl
  i171 := by kernel_rfl
  i173 := by kernel_rfl
  i212 := by kernel_rfl
  i232 := by kernel_rfl
  i233 := by kernel_rfl
  m17 := by kernel_rfl
  m18 := by kernel_rfl
  m19 := by kernel_rfl }
open Go.RowKit Go.Sort Go.Lib in
theorem z_strconv_Itoa (n : Int) (h0 : -9223372036854775808 ≤ n) (h1 : n ≤ 9223372036854775807) (w : World) (htab : Lib.TabIs Tryz.prog w "internal/strconv.uint64pow10" .u64 Lib.pow10Tab) :
    Calls Tryz.prog 81 #[.int .i64 n] w fun e w' => e = .returned (.string ⟨(Lib.itoa n).toArray⟩) ∧ ∃ k os, w' = grow (w.drewN k) os := Any.strconv_Itoa z_laysM171 n h0 h1 w htab
def z_laysC172_ren : Go.Shelf.Ren := ⟨fun | 172 => 53 | 244 => 77 | 245 => 78 | 247 => 108 | 279 => 109 | 280 => 110 | 281 => 111 | 282 => 112 | 287 => 134 | 316 => 135 | 171 => 81 | 205 => 136 | 321 => 155 | 322 => 156 | 243 => 115 | 246 => 137 | 283 => 157 | 284 => 158 | 285 => 159 | 286 => 160 | 129 => 173 | 317 => 172 | 318 => 174 | 319 => 175 | 320 => 176 | 337 => 181 | 338 => 182 | n => n, fun | 9 => 9 | 3 => 3 | 75 => 59 | 76 => 61 | 4 => 4 | 5 => 5 | 167 => 124 | 37 => 55 | 0 => 0 | 85 => 125 | 2 => 2 | 168 => 127 | 53 => 147 | 175 => 148 | 46 => 140 | 210 => 152 | 127 => 83 | 145 => 167 | 143 => 165 | 21 => 21 | 171 => 168 | 173 => 171 | 212 => 180 | 51 => 160 | 20 => 20 | 213 => 181 | 232 => 187 | 233 => 188 | 80 => 64 | n => n, fun | 15 => 3 | 16 => 4 | 17 => 5 | 18 => 6 | 19 => 7 | n => n⟩
theorem z_laysC172 : Go.Proofs.LaysC.n172 Tryz.prog z_laysC172_ren := {
  mixed := by kernel_rfl
  f129 := Tryz.func173.trans (congrArg some (by kernel_rfl))
  f171 := Tryz.func81.trans (congrArg some (by kernel_rfl))
  f172 := Tryz.func53.trans (congrArg some (by kernel_rfl))
  f205 := Tryz.func136.trans (congrArg some (by kernel_rfl))
  f243 := Tryz.func115.trans (congrArg some (by kernel_rfl))
  f244 := Tryz.func77.trans (congrArg some (by kernel_rfl))
  f245 := Tryz.func78.trans (congrArg some (by kernel_rfl))
  f246 := Tryz.func137.trans (congrArg some (by kernel_rfl))
  f247 := Tryz.func108.trans (congrArg some (by kernel_rfl))
  f279 := Tryz.func109.trans (congrArg some (by kernel_rfl))
  f280 := Tryz.func110.trans (congrArg some (by kernel_rfl))
  f281 := Tryz.func111.trans (congrArg some (by kernel_rfl))
  f282 := Tryz.func112.trans (congrArg some (by kernel_rfl))
  f283 := Tryz.func157.trans (congrArg some (by kernel_rfl))
  f284 := Tryz.func158.trans (congrArg some (by kernel_rfl))
  f285 := Tryz.func159.trans (congrArg some (by kernel_rfl))
  f286 := Tryz.func160.trans (congrArg some (by kernel_rfl))
  f287 := Tryz.func134.trans (congrArg some (by kernel_rfl))
  f316 := Tryz.func135.trans (congrArg some (by kernel_rfl))
  f317 := Tryz.func172.trans (congrArg some (by kernel_rfl))
  f318 := Tryz.func174.trans (congrArg some (by kernel_rfl))
  f319 := Tryz.func175.trans (congrArg some (by kernel_rfl))
  f320 := Tryz.func176.trans (congrArg some (by kernel_rfl))
  f321 := Tryz.func155.trans (congrArg some (by kernel_rfl))
  f322 := Tryz.func156.trans (congrArg some (by kernel_rfl))
  f337 := Tryz.func181.trans (congrArg some (by kernel_rfl))
  f338 := Tryz.func182.trans (congrArg some (by kernel_rfl))
  t0 := Tryz.underlying0
  a0 := Tryz.isAgg0
  z0 := Tryz.sizeOf0
  v0 := Tryz.zeroValue0
  t2 := Tryz.underlying2
  a2 := Tryz.isAgg2
  z2 := Tryz.sizeOf2
  v2 := Tryz.zeroValue2
  t3 := Tryz.underlying3
  a3 := Tryz.isAgg3
  z3 := Tryz.sizeOf3
  v3 := Tryz.zeroValue3
  t4 := Tryz.underlying4
  a4 := Tryz.isAgg4
  z4 := Tryz.sizeOf4
  v4 := Tryz.zeroValue4
  t5 := Tryz.underlying5
  a5 := Tryz.isAgg5
  z5 := Tryz.sizeOf5
  v5 := Tryz.zeroValue5
  t9 := Tryz.underlying9
  a9 := Tryz.isAgg9
  z9 := Tryz.sizeOf9
  v9 := Tryz.zeroValue9
  t20 := Tryz.underlying20
  a20 := Tryz.isAgg20
  z20 := Tryz.sizeOf20
  v20 := Tryz.zeroValue20
  t21 := Tryz.underlying21
  a21 := Tryz.isAgg21
  z21 := Tryz.sizeOf21
  v21 := Tryz.zeroValue21
  t37 := Tryz.underlying55
  a37 := Tryz.isAgg55
  z37 := Tryz.sizeOf55
  v37 := Tryz.zeroValue55
  t46 := Tryz.underlying140
  a46 := Tryz.isAgg140
  z46 := Tryz.sizeOf140
  v46 := Tryz.zeroValue140
  t51 := Tryz.underlying160
  a51 := Tryz.isAgg160
  z51 := Tryz.sizeOf160
  v51 := Tryz.zeroValue160
  t53 := Tryz.underlying147
  a53 := Tryz.isAgg147
  z53 := Tryz.sizeOf147
  v53 := Tryz.zeroValue147
  t75 := Tryz.underlying59
  a75 := Tryz.isAgg59
  z75 := Tryz.sizeOf59
  v75 := Tryz.zeroValue59
  t76 := Tryz.underlying61
  a76 := Tryz.isAgg61
  z76 := Tryz.sizeOf61
  v76 := Tryz.zeroValue61
  t85 := Tryz.underlying125
  a85 := Tryz.isAgg125
  z85 := Tryz.sizeOf125
  v85 := Tryz.zeroValue125
  t127 := Tryz.underlying83
  a127 := Tryz.isAgg83
  z127 := Tryz.sizeOf83
  v127 := Tryz.zeroValue83
  t143 := Tryz.underlying165
  a143 := Tryz.isAgg165
  z143 := Tryz.sizeOf165
  v143 := Tryz.zeroValue165
  t145 := Tryz.underlying167
  a145 := Tryz.isAgg167
  z145 := Tryz.sizeOf167
  v145 := Tryz.zeroValue167
  t167 := Tryz.underlying124
  a167 := Tryz.isAgg124
  z167 := Tryz.sizeOf124
  v167 := Tryz.zeroValue124
  t168 := Tryz.underlying127
  a168 := Tryz.isAgg127
  z168 := Tryz.sizeOf127
  v168 := Tryz.zeroValue127
  t171 := Tryz.underlying168
  a171 := Tryz.isAgg168
  z171 := Tryz.sizeOf168
  v171 := Tryz.zeroValue168
  t173 := Tryz.underlying171
  a173 := Tryz.isAgg171
  z173 := Tryz.sizeOf171
  v173 := Tryz.zeroValue171
  t175 := Tryz.underlying148
  a175 := Tryz.isAgg148
  z175 := Tryz.sizeOf148
  v175 := Tryz.zeroValue148
  t210 := Tryz.underlying152
  a210 := Tryz.isAgg152
  z210 := Tryz.sizeOf152
  v210 := Tryz.zeroValue152
  t212 := Tryz.underlying180
  a212 := Tryz.isAgg180
  z212 := Tryz.sizeOf180
  v212 := Tryz.zeroValue180
  t213 := Tryz.underlying181
  a213 := Tryz.isAgg181
  z213 := Tryz.sizeOf181
  t232 := Tryz.underlying187
  a232 := Tryz.isAgg187
  z232 := Tryz.sizeOf187
  v232 := Tryz.zeroValue187
  t233 := Tryz.underlying188
  a233 := Tryz.isAgg188
  z233 := Tryz.sizeOf188
  v233 := Tryz.zeroValue188
  g15 := by kernel_rfl
  g16 := by kernel_rfl
  g17 := by kernel_rfl
  g18 := by kernel_rfl
  g19 := by kernel_rfl
  t80 := Tryz.underlying64
  a80 := Tryz.isAgg64
  z80 := Tryz.sizeOf64
  v80 := Tryz.zeroValue64
  i0 := by kernel_rfl
  i2 := by kernel_rfl
  i3 := by kernel_rfl
  i4 := by kernel_rfl
  i5 := by kernel_rfl
  i9 := by kernel_rfl
  i20 := by kernel_rfl
  i21 := by kernel_rfl
  i37 := by kernel_rfl
  i46 := by kernel_rfl
  i51 := by kernel_rfl
  i53 := by kernel_rfl
  i75 := by kernel_rfl
  i76 := by kernel_rfl
  i80 := by kernel_rfl
  i85 := by kernel_rfl
  i127 := by kernel_rfl
  i143 := by kernel_rfl
  i145 := by kernel_rfl
  i167 := by kernel_rfl
  i168 := by kernel_rfl
  i171 := by kernel_rfl
  i173 := by kernel_rfl
  i175 := by kernel_rfl
  i210 := by kernel_rfl
  i212 := by kernel_rfl
  i232 := by kernel_rfl
  i233 := by kernel_rfl
  m15 := by kernel_rfl
  m16 := by kernel_rfl
  m17 := by kernel_rfl
  m18 := by kernel_rfl
  m19 := by kernel_rfl
  c0 := by kernel_rfl
  c2 := by kernel_rfl
  c3 := by kernel_rfl
  c4 := by kernel_rfl
  c5 := by kernel_rfl
  c9 := by kernel_rfl
  c20 := by kernel_rfl
  c21 := by kernel_rfl
  c37 := by kernel_rfl
  c46 := by kernel_rfl
  c51 := by kernel_rfl
  c53 := by kernel_rfl
  c75 := by kernel_rfl
  c76 := by kernel_rfl
  c80 := by kernel_rfl
  c85 := by kernel_rfl
  c127 := by kernel_rfl
  c143 := by kernel_rfl
  c145 := by kernel_rfl
  c167 := by kernel_rfl
  c168 := by kernel_rfl
  c171 := by kernel_rfl
  c173 := by kernel_rfl
  c175 := by kernel_rfl
  c210 := by kernel_rfl
  c212 := by kernel_rfl
  c213 := by kernel_rfl
  c232 := by kernel_rfl
  c233 := by kernel_rfl }
theorem z_strconv_Atoi_ok (s : ByteArray) (hmax : s.size ≤ 9223372036854775806) (v : Int) (h : Lib.atoiAll s.data.toList = .ok v) (w : World) :
    Calls Tryz.prog 53 #[.string s] w fun e w' => e = .returned (.tuple #[.int .i64 v, .nilIface]) ∧ (w' = w ∨ ∃ t, w' = Lib.bytesWorld w 5 t) := Any.strconv_Atoi_ok z_laysC172 s hmax v h w
theorem z_strconv_Atoi_syntax (s : ByteArray) (hlim : s.size ≤ 281474976710656) (h : Lib.atoiAll s.data.toList = Lib.atoiAll []) (ev : Value) (w : World) (hv : w.cell? ⟨3, 0, none⟩ = some ev) (hev : ev = .nilIface ∨ ∃ te pe, ev = .iface te pe) :
    Calls Tryz.prog 53 #[.string s] w fun e w' => ∃ N, e = .returned (.tuple #[.int .i64 (0), .iface 127 (.pointer (some ⟨N, 0, none⟩))]) ∧ w.heap.size ≤ N ∧ w'.heap[N]? = some (.cells #[.string ⟨#[65, 116, 111, 105]⟩, .string s, ev] 152 (0, 0)) ∧ Below w.heap.size w w' := Any.strconv_Atoi_syntax z_laysC172 s hlim h ev w hv hev
theorem z_strconv_Atoi_range (s : ByteArray) (hlim : s.size ≤ 281474976710656) (h : Lib.atoiAll s.data.toList = .range) (ev : Value) (w : World) (hv : w.cell? ⟨4, 0, none⟩ = some ev) (hev : ev = .nilIface ∨ ∃ te pe, ev = .iface te pe) :
    Calls Tryz.prog 53 #[.string s] w fun e w' => ∃ N, e = .returned (.tuple #[.int .i64 (Lib.atoiSat s.data.toList), .iface 127 (.pointer (some ⟨N, 0, none⟩))]) ∧ w.heap.size ≤ N ∧ w'.heap[N]? = some (.cells #[.string ⟨#[65, 116, 111, 105]⟩, .string s, ev] 152 (0, 0)) ∧ Below w.heap.size w w' := Any.strconv_Atoi_range z_laysC172 s hlim h ev w hv hev
def z_laysC174_ren : Go.Shelf.Ren := ⟨fun | 174 => 151 | 247 => 108 | 245 => 78 | 287 => 134 | 279 => 109 | 280 => 110 | 281 => 111 | 282 => 112 | 321 => 155 | 322 => 156 | 316 => 135 | 171 => 81 | 205 => 136 | 243 => 115 | 246 => 137 | 283 => 157 | 284 => 158 | 285 => 159 | 286 => 160 | 129 => 173 | 317 => 172 | 318 => 174 | 319 => 175 | 320 => 176 | 337 => 181 | 338 => 182 | n => n, fun | 9 => 9 | 3 => 3 | 2 => 2 | 75 => 59 | 85 => 125 | 4 => 4 | 167 => 124 | 5 => 5 | 53 => 147 | 175 => 148 | 46 => 140 | 168 => 127 | 37 => 55 | 0 => 0 | 210 => 152 | 21 => 21 | 127 => 83 | 145 => 167 | 143 => 165 | 171 => 168 | 173 => 171 | 212 => 180 | 51 => 160 | 20 => 20 | 213 => 181 | 232 => 187 | 233 => 188 | 80 => 64 | n => n, fun | 15 => 3 | 16 => 4 | 17 => 5 | 18 => 6 | 19 => 7 | n => n⟩
theorem z_laysC174 : Go.Proofs.LaysC.n174 Tryz.prog z_laysC174_ren := {
  mixed := by kernel_rfl
  f129 := Tryz.func173.trans (congrArg some (by kernel_rfl))
  f171 := Tryz.func81.trans (congrArg some (by kernel_rfl))
  f174 := Tryz.func151.trans (congrArg some (by kernel_rfl))
  f205 := Tryz.func136.trans (congrArg some (by kernel_rfl))
  f243 := Tryz.func115.trans (congrArg some (by kernel_rfl))
  f245 := Tryz.func78.trans (congrArg some (by kernel_rfl))
  f246 := Tryz.func137.trans (congrArg some (by kernel_rfl))
  f247 := Tryz.func108.trans (congrArg some (by kernel_rfl))
  f279 := Tryz.func109.trans (congrArg some (by kernel_rfl))
  f280 := Tryz.func110.trans (congrArg some (by kernel_rfl))
  f281 := Tryz.func111.trans (congrArg some (by kernel_rfl))
  f282 := Tryz.func112.trans (congrArg some (by kernel_rfl))
  f283 := Tryz.func157.trans (congrArg some (by kernel_rfl))
  f284 := Tryz.func158.trans (congrArg some (by kernel_rfl))
  f285 := Tryz.func159.trans (congrArg some (by kernel_rfl))
  f286 := Tryz.func160.trans (congrArg some (by kernel_rfl))
  f287 := Tryz.func134.trans (congrArg some (by kernel_rfl))
  f316 := Tryz.func135.trans (congrArg some (by kernel_rfl))
  f317 := Tryz.func172.trans (congrArg some (by kernel_rfl))
  f318 := Tryz.func174.trans (congrArg some (by kernel_rfl))
  f319 := Tryz.func175.trans (congrArg some (by kernel_rfl))
  f320 := Tryz.func176.trans (congrArg some (by kernel_rfl))
  f321 := Tryz.func155.trans (congrArg some (by kernel_rfl))
  f322 := Tryz.func156.trans (congrArg some (by kernel_rfl))
  f337 := Tryz.func181.trans (congrArg some (by kernel_rfl))
  f338 := Tryz.func182.trans (congrArg some (by kernel_rfl))
  t0 := Tryz.underlying0
  a0 := Tryz.isAgg0
  z0 := Tryz.sizeOf0
  v0 := Tryz.zeroValue0
  t2 := Tryz.underlying2
  a2 := Tryz.isAgg2
  z2 := Tryz.sizeOf2
  v2 := Tryz.zeroValue2
  t3 := Tryz.underlying3
  a3 := Tryz.isAgg3
  z3 := Tryz.sizeOf3
  v3 := Tryz.zeroValue3
  t4 := Tryz.underlying4
  a4 := Tryz.isAgg4
  z4 := Tryz.sizeOf4
  v4 := Tryz.zeroValue4
  t5 := Tryz.underlying5
  a5 := Tryz.isAgg5
  z5 := Tryz.sizeOf5
  v5 := Tryz.zeroValue5
  t9 := Tryz.underlying9
  a9 := Tryz.isAgg9
  z9 := Tryz.sizeOf9
  v9 := Tryz.zeroValue9
  t20 := Tryz.underlying20
  a20 := Tryz.isAgg20
  z20 := Tryz.sizeOf20
  v20 := Tryz.zeroValue20
  t21 := Tryz.underlying21
  a21 := Tryz.isAgg21
  z21 := Tryz.sizeOf21
  v21 := Tryz.zeroValue21
  t37 := Tryz.underlying55
  a37 := Tryz.isAgg55
  z37 := Tryz.sizeOf55
  v37 := Tryz.zeroValue55
  t46 := Tryz.underlying140
  a46 := Tryz.isAgg140
  z46 := Tryz.sizeOf140
  v46 := Tryz.zeroValue140
  t51 := Tryz.underlying160
  a51 := Tryz.isAgg160
  z51 := Tryz.sizeOf160
  v51 := Tryz.zeroValue160
  t53 := Tryz.underlying147
  a53 := Tryz.isAgg147
  z53 := Tryz.sizeOf147
  v53 := Tryz.zeroValue147
  t75 := Tryz.underlying59
  a75 := Tryz.isAgg59
  z75 := Tryz.sizeOf59
  v75 := Tryz.zeroValue59
  t85 := Tryz.underlying125
  a85 := Tryz.isAgg125
  z85 := Tryz.sizeOf125
  v85 := Tryz.zeroValue125
  t127 := Tryz.underlying83
  a127 := Tryz.isAgg83
  z127 := Tryz.sizeOf83
  v127 := Tryz.zeroValue83
  t143 := Tryz.underlying165
  a143 := Tryz.isAgg165
  z143 := Tryz.sizeOf165
  v143 := Tryz.zeroValue165
  t145 := Tryz.underlying167
  a145 := Tryz.isAgg167
  z145 := Tryz.sizeOf167
  v145 := Tryz.zeroValue167
  t167 := Tryz.underlying124
  a167 := Tryz.isAgg124
  z167 := Tryz.sizeOf124
  v167 := Tryz.zeroValue124
  t168 := Tryz.underlying127
  a168 := Tryz.isAgg127
  z168 := Tryz.sizeOf127
  v168 := Tryz.zeroValue127
  t171 := Tryz.underlying168
  a171 := Tryz.isAgg168
  z171 := Tryz.sizeOf168
  v171 := Tryz.zeroValue168
  t173 := Tryz.underlying171
  a173 := Tryz.isAgg171
  z173 := Tryz.sizeOf171
  v173 := Tryz.zeroValue171
  t175 := Tryz.underlying148
  a175 := Tryz.isAgg148
  z175 := Tryz.sizeOf148
  v175 := Tryz.zeroValue148
  t210 := Tryz.underlying152
  a210 := Tryz.isAgg152
  z210 := Tryz.sizeOf152
  v210 := Tryz.zeroValue152
  t212 := Tryz.underlying180
  a212 := Tryz.isAgg180
  z212 := Tryz.sizeOf180
  v212 := Tryz.zeroValue180
  t213 := Tryz.underlying181
  a213 := Tryz.isAgg181
  z213 := Tryz.sizeOf181
  t232 := Tryz.underlying187
  a232 := Tryz.isAgg187
  z232 := Tryz.sizeOf187
  v232 := Tryz.zeroValue187
  t233 := Tryz.underlying188
  a233 := Tryz.isAgg188
  z233 := Tryz.sizeOf188
  v233 := Tryz.zeroValue188
  g15 := by kernel_rfl
  g16 := by kernel_rfl
  g17 := by kernel_rfl
  g18 := by kernel_rfl
  g19 := by kernel_rfl
  t80 := Tryz.underlying64
  a80 := Tryz.isAgg64
  z80 := Tryz.sizeOf64
  v80 := Tryz.zeroValue64
  i0 := by kernel_rfl
  i2 := by kernel_rfl
  i3 := by kernel_rfl
  i4 := by kernel_rfl
  i5 := by kernel_rfl
  i9 := by kernel_rfl
  i20 := by kernel_rfl
  i21 := by kernel_rfl
  i37 := by kernel_rfl
  i46 := by kernel_rfl
  i51 := by kernel_rfl
  i53 := by kernel_rfl
  i75 := by kernel_rfl
  i80 := by kernel_rfl
  i85 := by kernel_rfl
  i127 := by kernel_rfl
  i143 := by kernel_rfl
  i145 := by kernel_rfl
  i167 := by kernel_rfl
  i168 := by kernel_rfl
  i171 := by kernel_rfl
  i173 := by kernel_rfl
  i175 := by kernel_rfl
  i210 := by kernel_rfl
  i212 := by kernel_rfl
  i232 := by kernel_rfl
  i233 := by kernel_rfl
  m15 := by kernel_rfl
  m16 := by kernel_rfl
  m17 := by kernel_rfl
  m18 := by kernel_rfl
  m19 := by kernel_rfl
  c0 := by kernel_rfl
  c2 := by kernel_rfl
  c3 := by kernel_rfl
  c4 := by kernel_rfl
  c5 := by kernel_rfl
  c9 := by kernel_rfl
  c20 := by kernel_rfl
  c21 := by kernel_rfl
  c37 := by kernel_rfl
  c46 := by kernel_rfl
  c51 := by kernel_rfl
  c53 := by kernel_rfl
  c75 := by kernel_rfl
  c80 := by kernel_rfl
  c85 := by kernel_rfl
  c127 := by kernel_rfl
  c143 := by kernel_rfl
  c145 := by kernel_rfl
  c167 := by kernel_rfl
  c168 := by kernel_rfl
  c171 := by kernel_rfl
  c173 := by kernel_rfl
  c175 := by kernel_rfl
  c210 := by kernel_rfl
  c212 := by kernel_rfl
  c213 := by kernel_rfl
  c232 := by kernel_rfl
  c233 := by kernel_rfl }
theorem z_strconv_ParseInt_10_at64_ok (s : ByteArray) (hmax : s.size ≤ 9223372036854775806) (v : Int) (h : Lib.parseIntB 64 s.data.toList = .ok v) (w : World) :
    Calls Tryz.prog 151 #[.string s, .int .i64 10, .int .i64 64] w fun e w' => e = .returned (.tuple #[.int .i64 v, .nilIface]) ∧ (w' = w ∨ ∃ t, w' = Lib.bytesWorld w 5 t) := Any.strconv_ParseInt_10_at64_ok z_laysC174 s hmax v h w
theorem z_strconv_ParseInt_10_at64_syntax (s : ByteArray) (hlim : s.size ≤ 281474976710656) (h : Lib.parseIntB 64 s.data.toList = Lib.parseIntB 64 []) (ev : Value) (w : World) (hv : w.cell? ⟨3, 0, none⟩ = some ev) (hev : ev = .nilIface ∨ ∃ te pe, ev = .iface te pe) :
    Calls Tryz.prog 151 #[.string s, .int .i64 10, .int .i64 64] w fun e w' => ∃ N, e = .returned (.tuple #[.int .i64 (0), .iface 127 (.pointer (some ⟨N, 0, none⟩))]) ∧ w.heap.size ≤ N ∧ w'.heap[N]? = some (.cells #[.string ⟨#[80, 97, 114, 115, 101, 73, 110, 116]⟩, .string s, ev] 152 (0, 0)) ∧ Below w.heap.size w w' := Any.strconv_ParseInt_10_at64_syntax z_laysC174 s hlim h ev w hv hev
theorem z_strconv_ParseInt_10_at64_range (s : ByteArray) (hlim : s.size ≤ 281474976710656) (h : Lib.parseIntB 64 s.data.toList = .range) (ev : Value) (w : World) (hv : w.cell? ⟨4, 0, none⟩ = some ev) (hev : ev = .nilIface ∨ ∃ te pe, ev = .iface te pe) :
    Calls Tryz.prog 151 #[.string s, .int .i64 10, .int .i64 64] w fun e w' => ∃ N, e = .returned (.tuple #[.int .i64 (Lib.intSat 64 s.data.toList), .iface 127 (.pointer (some ⟨N, 0, none⟩))]) ∧ w.heap.size ≤ N ∧ w'.heap[N]? = some (.cells #[.string ⟨#[80, 97, 114, 115, 101, 73, 110, 116]⟩, .string s, ev] 152 (0, 0)) ∧ Below w.heap.size w w' := Any.strconv_ParseInt_10_at64_range z_laysC174 s hlim h ev w hv hev
def z_lays145_ren : Go.Shelf.Ren := ⟨fun | 145 => 61 | 220 => 87 | 219 => 88 | 217 => 122 | 225 => 123 | 224 => 124 | 267 => 125 | 266 => 148 | 314 => 149 | n => n, fun | 9 => 9 | 4 => 4 | 59 => 85 | 3 => 3 | 5 => 5 | 46 => 140 | 146 => 161 | 51 => 160 | n => n, fun | 1 => 0 | n => n⟩
theorem z_lays145 : Go.Proofs.Lays.n145 Tryz.prog z_lays145_ren := {
  mixed := by kernel_rfl
  f145 := Tryz.func61.trans (congrArg some (by kernel_rfl))
  f217 := Tryz.func122.trans (congrArg some (by kernel_rfl))
  f219 := Tryz.func88.trans (congrArg some (by kernel_rfl))
  f220 := Tryz.func87.trans (congrArg some (by kernel_rfl))
  f224 := Tryz.func124.trans (congrArg some (by kernel_rfl))
  f225 := Tryz.func123.trans (congrArg some (by kernel_rfl))
  f266 := Tryz.func148.trans (congrArg some (by kernel_rfl))
  f267 := Tryz.func125.trans (congrArg some (by kernel_rfl))
  f314 := Tryz.func149.trans (congrArg some (by kernel_rfl))
  t3 := Tryz.underlying3
  a3 := Tryz.isAgg3
  z3 := Tryz.sizeOf3
  v3 := Tryz.zeroValue3
  t4 := Tryz.underlying4
  a4 := Tryz.isAgg4
  z4 := Tryz.sizeOf4
  v4 := Tryz.zeroValue4
  t5 := Tryz.underlying5
  a5 := Tryz.isAgg5
  z5 := Tryz.sizeOf5
  v5 := Tryz.zeroValue5
  t9 := Tryz.underlying9
  a9 := Tryz.isAgg9
  z9 := Tryz.sizeOf9
  v9 := Tryz.zeroValue9
  t46 := Tryz.underlying140
  a46 := Tryz.isAgg140
  z46 := Tryz.sizeOf140
  v46 := Tryz.zeroValue140
  t51 := Tryz.underlying160
  a51 := Tryz.isAgg160
  z51 := Tryz.sizeOf160
  v51 := Tryz.zeroValue160
  t59 := Tryz.underlying85
  a59 := Tryz.isAgg85
  z59 := Tryz.sizeOf85
  v59 := Tryz.zeroValue85
  t146 := Tryz.underlying161
  a146 := Tryz.isAgg161
  z146 := Tryz.sizeOf161
  v146 := Tryz.zeroValue161
  g1 := by kernel_rfl }
open Go.RowKit Go.Lib in
theorem z_strings_Cut (s sep : ByteArray) (m : Int) (w : World) (hs : s.size < 4294967281) (hm : w.cell? ⟨0, 0, none⟩ = some (.int .i64 m)) :
    Calls Tryz.prog 61 #[.string s, .string sep] w fun e w' => e = .returned (.tuple #[.string ⟨(Lib.cut s.data.toList sep.data.toList).1.toArray⟩, .string ⟨(Lib.cut s.data.toList sep.data.toList).2.1.toArray⟩, .bool (Lib.cut s.data.toList sep.data.toList).2.2]) ∧ ∃ n, w' = w.drewN n := Any.strings_Cut z_lays145 s sep m w hs hm
def z_lays138_ren : Go.Shelf.Ren := ⟨fun | 138 => 41 | 195 => 62 | 218 => 63 | 143 => 64 | 219 => 88 | 217 => 122 | 225 => 123 | 224 => 124 | 267 => 125 | 266 => 148 | 314 => 149 | n => n, fun | 9 => 9 | 3 => 3 | 4 => 4 | 5 => 5 | 0 => 0 | 46 => 140 | 146 => 161 | 51 => 160 | n => n, fun | 1 => 0 | n => n⟩
theorem z_lays138 : Go.Proofs.Lays.n138 Tryz.prog z_lays138_ren := {
  mixed := by kernel_rfl
  f138 := Tryz.func41.trans (congrArg some (by kernel_rfl))
  f143 := Tryz.func64.trans (congrArg some (by kernel_rfl))
  f195 := Tryz.func62.trans (congrArg some (by kernel_rfl))
  f217 := Tryz.func122.trans (congrArg some (by kernel_rfl))
  f218 := Tryz.func63.trans (congrArg some (by kernel_rfl))
  f219 := Tryz.func88.trans (congrArg some (by kernel_rfl))
  f224 := Tryz.func124.trans (congrArg some (by kernel_rfl))
  f225 := Tryz.func123.trans (congrArg some (by kernel_rfl))
  f266 := Tryz.func148.trans (congrArg some (by kernel_rfl))
  f267 := Tryz.func125.trans (congrArg some (by kernel_rfl))
  f314 := Tryz.func149.trans (congrArg some (by kernel_rfl))
  t0 := Tryz.underlying0
  a0 := Tryz.isAgg0
  z0 := Tryz.sizeOf0
  v0 := Tryz.zeroValue0
  t3 := Tryz.underlying3
  a3 := Tryz.isAgg3
  z3 := Tryz.sizeOf3
  v3 := Tryz.zeroValue3
  t4 := Tryz.underlying4
  a4 := Tryz.isAgg4
  z4 := Tryz.sizeOf4
  v4 := Tryz.zeroValue4
  t5 := Tryz.underlying5
  a5 := Tryz.isAgg5
  z5 := Tryz.sizeOf5
  v5 := Tryz.zeroValue5
  t9 := Tryz.underlying9
  a9 := Tryz.isAgg9
  z9 := Tryz.sizeOf9
  v9 := Tryz.zeroValue9
  t46 := Tryz.underlying140
  a46 := Tryz.isAgg140
  z46 := Tryz.sizeOf140
  v46 := Tryz.zeroValue140
  t51 := Tryz.underlying160
  a51 := Tryz.isAgg160
  z51 := Tryz.sizeOf160
  v51 := Tryz.zeroValue160
  t146 := Tryz.underlying161
  a146 := Tryz.isAgg161
  z146 := Tryz.sizeOf161
  v146 := Tryz.zeroValue161
  g1 := by kernel_rfl }
def z_lays101_ren : Go.Shelf.Ren := ⟨fun | 101 => 140 | 208 => 162 | 206 => 177 | n => n, fun | 9 => 9 | 4 => 4 | 3 => 3 | n => n, fun | n => n⟩
theorem z_lays101 : Go.Proofs.Lays.n101 Tryz.prog z_lays101_ren := {
  mixed := by kernel_rfl
  f101 := Tryz.func140.trans (congrArg some (by kernel_rfl))
  f206 := Tryz.func177.trans (congrArg some (by kernel_rfl))
  f208 := Tryz.func162.trans (congrArg some (by kernel_rfl))
  t3 := Tryz.underlying3
  a3 := Tryz.isAgg3
  z3 := Tryz.sizeOf3
  v3 := Tryz.zeroValue3
  t4 := Tryz.underlying4
  a4 := Tryz.isAgg4
  z4 := Tryz.sizeOf4
  v4 := Tryz.zeroValue4
  t9 := Tryz.underlying9
  a9 := Tryz.isAgg9
  z9 := Tryz.sizeOf9
  v9 := Tryz.zeroValue9 }
open Go.RowKit Go.Lib in
theorem z_strings_TrimPrefix (s p : ByteArray) (w : World) :
    Calls Tryz.prog 140 #[.string s, .string p] w fun e w' => e = .returned (.string ⟨(Lib.trimPrefix s.data.toList p.data.toList).toArray⟩) ∧ w' = w := Any.strings_TrimPrefix z_lays101 s p w
open Go.RowKit Go.Lib in
theorem z_strings_Count_any (s sep : ByteArray) (m : Int) (w : World) (hs : s.size < 4294967281) (hm : w.cell? ⟨0, 0, none⟩ = some (.int .i64 m)) (h1 : 1 ≤ sep.size) :
    Calls Tryz.prog 41 #[.string s, .string sep] w fun e w' => e = .returned (.int .i64 (Lib.countB s sep)) ∧ w' = w := Any.strings_Count_any z_lays138 s sep m w hs hm h1
def z_lays146_ren : Go.Shelf.Ren := ⟨fun | 146 => 42 | 221 => 65 | 268 => 89 | 138 => 41 | 143 => 64 | 195 => 62 | 197 => 85 | 218 => 63 | 219 => 88 | 260 => 120 | 217 => 122 | 225 => 123 | 224 => 124 | 267 => 125 | 266 => 148 | 314 => 149 | n => n, fun | 9 => 9 | 31 => 22 | 3 => 3 | 4 => 4 | 0 => 0 | 105 => 97 | 21 => 21 | 5 => 5 | 46 => 140 | 119 => 136 | 139 => 139 | 138 => 138 | 146 => 161 | 51 => 160 | n => n, fun | 1 => 0 | 3 => 1 | 4 => 2 | n => n⟩
theorem z_lays146 : Go.Proofs.Lays.n146 Tryz.prog z_lays146_ren := {
  mixed := by kernel_rfl
  f138 := Tryz.func41.trans (congrArg some (by kernel_rfl))
  f143 := Tryz.func64.trans (congrArg some (by kernel_rfl))
  f146 := Tryz.func42.trans (congrArg some (by kernel_rfl))
  f195 := Tryz.func62.trans (congrArg some (by kernel_rfl))
  f197 := Tryz.func85.trans (congrArg some (by kernel_rfl))
  f217 := Tryz.func122.trans (congrArg some (by kernel_rfl))
  f218 := Tryz.func63.trans (congrArg some (by kernel_rfl))
  f219 := Tryz.func88.trans (congrArg some (by kernel_rfl))
  f221 := Tryz.func65.trans (congrArg some (by kernel_rfl))
  f224 := Tryz.func124.trans (congrArg some (by kernel_rfl))
  f225 := Tryz.func123.trans (congrArg some (by kernel_rfl))
  f260 := Tryz.func120.trans (congrArg some (by kernel_rfl))
  f266 := Tryz.func148.trans (congrArg some (by kernel_rfl))
  f267 := Tryz.func125.trans (congrArg some (by kernel_rfl))
  f268 := Tryz.func89.trans (congrArg some (by kernel_rfl))
  f314 := Tryz.func149.trans (congrArg some (by kernel_rfl))
  t0 := Tryz.underlying0
  a0 := Tryz.isAgg0
  z0 := Tryz.sizeOf0
  v0 := Tryz.zeroValue0
  t3 := Tryz.underlying3
  a3 := Tryz.isAgg3
  z3 := Tryz.sizeOf3
  v3 := Tryz.zeroValue3
  t4 := Tryz.underlying4
  a4 := Tryz.isAgg4
  z4 := Tryz.sizeOf4
  v4 := Tryz.zeroValue4
  t5 := Tryz.underlying5
  a5 := Tryz.isAgg5
  z5 := Tryz.sizeOf5
  v5 := Tryz.zeroValue5
  t9 := Tryz.underlying9
  a9 := Tryz.isAgg9
  z9 := Tryz.sizeOf9
  v9 := Tryz.zeroValue9
  t21 := Tryz.underlying21
  a21 := Tryz.isAgg21
  z21 := Tryz.sizeOf21
  v21 := Tryz.zeroValue21
  t31 := Tryz.underlying22
  a31 := Tryz.isAgg22
  z31 := Tryz.sizeOf22
  v31 := Tryz.zeroValue22
  t46 := Tryz.underlying140
  a46 := Tryz.isAgg140
  z46 := Tryz.sizeOf140
  v46 := Tryz.zeroValue140
  t51 := Tryz.underlying160
  a51 := Tryz.isAgg160
  z51 := Tryz.sizeOf160
  v51 := Tryz.zeroValue160
  t105 := Tryz.underlying97
  a105 := Tryz.isAgg97
  z105 := Tryz.sizeOf97
  v105 := Tryz.zeroValue97
  t119 := Tryz.underlying136
  a119 := Tryz.isAgg136
  z119 := Tryz.sizeOf136
  t138 := Tryz.underlying138
  a138 := Tryz.isAgg138
  z138 := Tryz.sizeOf138
  v138 := Tryz.zeroValue138
  t139 := Tryz.underlying139
  a139 := Tryz.isAgg139
  z139 := Tryz.sizeOf139
  v139 := Tryz.zeroValue139
  t146 := Tryz.underlying161
  a146 := Tryz.isAgg161
  z146 := Tryz.sizeOf161
  v146 := Tryz.zeroValue161
  g1 := by kernel_rfl
  g3 := by kernel_rfl
  g4 := by kernel_rfl }
open Go.RowKit Go.Lib in
theorem z_strings_Split (s sep : ByteArray) (m : Int) (w : World) (hs : s.size < 4294967281) (hm : w.cell? ⟨0, 0, none⟩ = some (.int .i64 m)) (h1 : 1 ≤ sep.size) :
    Calls Tryz.prog 42 #[.string s, .string sep] w fun e w' =>
      e = .returned (.slice (some ⟨w.heap.size, 0, none⟩) (Lib.countB s sep + 1) (Lib.countB s sep + 1)) ∧ w' = w.alloc (.cells ((Lib.splitB sep 0 (Lib.countB s sep) s).map Value.string).toArray 9) := Any.strings_Split z_lays146 (by kernel_rfl) s sep m w hs hm h1
def z_lays155_ren : Go.Shelf.Ren := ⟨fun | 155 => 35 | 154 => 58 | 138 => 41 | 165 => 84 | 143 => 64 | 166 => 34 | 197 => 85 | 169 => 36 | 195 => 62 | 218 => 63 | 240 => 57 | 241 => 119 | 219 => 88 | 260 => 120 | 276 => 83 | 277 => 147 | 217 => 122 | 225 => 123 | 224 => 124 | 267 => 125 | 266 => 148 | 314 => 149 | n => n, fun | 9 => 9 | 3 => 3 | 4 => 4 | 72 => 57 | 0 => 0 | 76 => 61 | 105 => 97 | 21 => 21 | 5 => 5 | 70 => 54 | 20 => 20 | 37 => 55 | 75 => 59 | 127 => 83 | 164 => 104 | 46 => 140 | 119 => 136 | 139 => 139 | 138 => 138 | 146 => 161 | 51 => 160 | 80 => 64 | n => n, fun | 1 => 0 | 3 => 1 | 4 => 2 | n => n⟩
theorem z_lays155 : Go.Proofs.Lays.n155 Tryz.prog z_lays155_ren := {
  mixed := by kernel_rfl
  f138 := Tryz.func41.trans (congrArg some (by kernel_rfl))
  f143 := Tryz.func64.trans (congrArg some (by kernel_rfl))
  f154 := Tryz.func58.trans (congrArg some (by kernel_rfl))
  f155 := Tryz.func35.trans (congrArg some (by kernel_rfl))
  f165 := Tryz.func84.trans (congrArg some (by kernel_rfl))
  f166 := Tryz.func34.trans (congrArg some (by kernel_rfl))
  f169 := Tryz.func36.trans (congrArg some (by kernel_rfl))
  f195 := Tryz.func62.trans (congrArg some (by kernel_rfl))
  f197 := Tryz.func85.trans (congrArg some (by kernel_rfl))
  f217 := Tryz.func122.trans (congrArg some (by kernel_rfl))
  f218 := Tryz.func63.trans (congrArg some (by kernel_rfl))
  f219 := Tryz.func88.trans (congrArg some (by kernel_rfl))
  f224 := Tryz.func124.trans (congrArg some (by kernel_rfl))
  f225 := Tryz.func123.trans (congrArg some (by kernel_rfl))
  f240 := Tryz.func57.trans (congrArg some (by kernel_rfl))
  f241 := Tryz.func119.trans (congrArg some (by kernel_rfl))
  f260 := Tryz.func120.trans (congrArg some (by kernel_rfl))
  f266 := Tryz.func148.trans (congrArg some (by kernel_rfl))
  f267 := Tryz.func125.trans (congrArg some (by kernel_rfl))
  f276 := Tryz.func83.trans (congrArg some (by kernel_rfl))
  f277 := Tryz.func147.trans (congrArg some (by kernel_rfl))
  f314 := Tryz.func149.trans (congrArg some (by kernel_rfl))
  t0 := Tryz.underlying0
  a0 := Tryz.isAgg0
  z0 := Tryz.sizeOf0
  v0 := Tryz.zeroValue0
  t3 := Tryz.underlying3
  a3 := Tryz.isAgg3
  z3 := Tryz.sizeOf3
  v3 := Tryz.zeroValue3
  t4 := Tryz.underlying4
  a4 := Tryz.isAgg4
  z4 := Tryz.sizeOf4
  v4 := Tryz.zeroValue4
  t5 := Tryz.underlying5
  a5 := Tryz.isAgg5
  z5 := Tryz.sizeOf5
  v5 := Tryz.zeroValue5
  t9 := Tryz.underlying9
  a9 := Tryz.isAgg9
  z9 := Tryz.sizeOf9
  v9 := Tryz.zeroValue9
  t20 := Tryz.underlying20
  a20 := Tryz.isAgg20
  z20 := Tryz.sizeOf20
  v20 := Tryz.zeroValue20
  t21 := Tryz.underlying21
  a21 := Tryz.isAgg21
  z21 := Tryz.sizeOf21
  v21 := Tryz.zeroValue21
  t37 := Tryz.underlying55
  a37 := Tryz.isAgg55
  z37 := Tryz.sizeOf55
  v37 := Tryz.zeroValue55
  t46 := Tryz.underlying140
  a46 := Tryz.isAgg140
  z46 := Tryz.sizeOf140
  v46 := Tryz.zeroValue140
  t51 := Tryz.underlying160
  a51 := Tryz.isAgg160
  z51 := Tryz.sizeOf160
  v51 := Tryz.zeroValue160
  t70 := Tryz.underlying54
  a70 := Tryz.isAgg54
  z70 := Tryz.sizeOf54
  v70 := Tryz.zeroValue54
  t72 := Tryz.underlying57
  a72 := Tryz.isAgg57
  z72 := Tryz.sizeOf57
  v72 := Tryz.zeroValue57
  t75 := Tryz.underlying59
  a75 := Tryz.isAgg59
  z75 := Tryz.sizeOf59
  v75 := Tryz.zeroValue59
  t76 := Tryz.underlying61
  a76 := Tryz.isAgg61
  z76 := Tryz.sizeOf61
  v76 := Tryz.zeroValue61
  t105 := Tryz.underlying97
  a105 := Tryz.isAgg97
  z105 := Tryz.sizeOf97
  v105 := Tryz.zeroValue97
  t119 := Tryz.underlying136
  a119 := Tryz.isAgg136
  z119 := Tryz.sizeOf136
  t127 := Tryz.underlying83
  a127 := Tryz.isAgg83
  z127 := Tryz.sizeOf83
  v127 := Tryz.zeroValue83
  t138 := Tryz.underlying138
  a138 := Tryz.isAgg138
  z138 := Tryz.sizeOf138
  v138 := Tryz.zeroValue138
  t139 := Tryz.underlying139
  a139 := Tryz.isAgg139
  z139 := Tryz.sizeOf139
  v139 := Tryz.zeroValue139
  t146 := Tryz.underlying161
  a146 := Tryz.isAgg161
  z146 := Tryz.sizeOf161
  v146 := Tryz.zeroValue161
  t164 := Tryz.underlying104
  a164 := Tryz.isAgg104
  z164 := Tryz.sizeOf104
  v164 := Tryz.zeroValue104
  g1 := by kernel_rfl
  g3 := by kernel_rfl
  g4 := by kernel_rfl }
theorem z_Builder_Extra_155 : Builder.Extra Tryz.prog z_lays155_ren := {
  sizeBuilder := by kernel_rfl
  liesBuilder := by kernel_rfl
  t5 := Tryz.underlying5
  a5 := Tryz.isAgg5
  z5 := Tryz.sizeOf5
  v5 := Tryz.zeroValue5
  infoByte := by kernel_rfl
  cellsByte := by kernel_rfl
  sizeByte := by kernel_rfl
  neB5 := by decide }
open Go.RowKit Go.Lib in
theorem z_strings_ReplaceAll (s old new : ByteArray) (m : Int) (w : World) (hs : s.size < 4294967281) (hm : w.cell? ⟨0, 0, none⟩ = some (.int .i64 m)) (h1 : 1 ≤ old.size) (hlen : s.size + Lib.countB s old * new.size ≤ 140737488355328) :
    Calls Tryz.prog 35 #[.string s, .string old, .string new] w fun e w' =>
      e = .returned (.string ⟨(Lib.replaceAll s.data.toList old.data.toList new.data.toList).toArray⟩) ∧ Below w.heap.size w w' := Any.strings_ReplaceAll z_lays155 z_Builder_Extra_155 s old new m w hs hm h1 hlen
def z_lays197_ren : Go.Shelf.Ren := ⟨fun | 197 => 85 | 260 => 120 | n => n, fun | 9 => 9 | 21 => 21 | 3 => 3 | 4 => 4 | 5 => 5 | 105 => 97 | 119 => 136 | 0 => 0 | 46 => 140 | 139 => 139 | 138 => 138 | n => n, fun | 3 => 1 | 4 => 2 | n => n⟩
theorem z_lays197 : Go.Proofs.Lays.n197 Tryz.prog z_lays197_ren := {
  mixed := by kernel_rfl
  f197 := Tryz.func85.trans (congrArg some (by kernel_rfl))
  f260 := Tryz.func120.trans (congrArg some (by kernel_rfl))
  t0 := Tryz.underlying0
  a0 := Tryz.isAgg0
  z0 := Tryz.sizeOf0
  v0 := Tryz.zeroValue0
  t3 := Tryz.underlying3
  a3 := Tryz.isAgg3
  z3 := Tryz.sizeOf3
  v3 := Tryz.zeroValue3
  t4 := Tryz.underlying4
  a4 := Tryz.isAgg4
  z4 := Tryz.sizeOf4
  v4 := Tryz.zeroValue4
  t5 := Tryz.underlying5
  a5 := Tryz.isAgg5
  z5 := Tryz.sizeOf5
  v5 := Tryz.zeroValue5
  t9 := Tryz.underlying9
  a9 := Tryz.isAgg9
  z9 := Tryz.sizeOf9
  v9 := Tryz.zeroValue9
  t21 := Tryz.underlying21
  a21 := Tryz.isAgg21
  z21 := Tryz.sizeOf21
  v21 := Tryz.zeroValue21
  t46 := Tryz.underlying140
  a46 := Tryz.isAgg140
  z46 := Tryz.sizeOf140
  v46 := Tryz.zeroValue140
  t105 := Tryz.underlying97
  a105 := Tryz.isAgg97
  z105 := Tryz.sizeOf97
  v105 := Tryz.zeroValue97
  t119 := Tryz.underlying136
  a119 := Tryz.isAgg136
  z119 := Tryz.sizeOf136
  t138 := Tryz.underlying138
  a138 := Tryz.isAgg138
  z138 := Tryz.sizeOf138
  v138 := Tryz.zeroValue138
  t139 := Tryz.underlying139
  a139 := Tryz.isAgg139
  z139 := Tryz.sizeOf139
  v139 := Tryz.zeroValue139
  g3 := by kernel_rfl
  g4 := by kernel_rfl }
def z_lays150_ren : Go.Shelf.Ren := ⟨fun | 150 => 52 | 153 => 76 | 152 => 104 | 226 => 105 | 227 => 106 | 228 => 107 | 137 => 132 | 119 => 133 | 224 => 124 | 225 => 123 | 217 => 122 | 266 => 148 | n => n, fun | 9 => 9 | 4 => 4 | 3 => 3 | 5 => 5 | 21 => 21 | 117 => 121 | 116 => 120 | 0 => 0 | 46 => 140 | 124 => 146 | n => n, fun | n => n⟩
theorem z_lays150 : Go.Proofs.Lays.n150 Tryz.prog z_lays150_ren := {
  mixed := by kernel_rfl
  f119 := Tryz.func133.trans (congrArg some (by kernel_rfl))
  f137 := Tryz.func132.trans (congrArg some (by kernel_rfl))
  f150 := Tryz.func52.trans (congrArg some (by kernel_rfl))
  f152 := Tryz.func104.trans (congrArg some (by kernel_rfl))
  f153 := Tryz.func76.trans (congrArg some (by kernel_rfl))
  f217 := Tryz.func122.trans (congrArg some (by kernel_rfl))
  f224 := Tryz.func124.trans (congrArg some (by kernel_rfl))
  f225 := Tryz.func123.trans (congrArg some (by kernel_rfl))
  f226 := Tryz.func105.trans (congrArg some (by kernel_rfl))
  f227 := Tryz.func106.trans (congrArg some (by kernel_rfl))
  f228 := Tryz.func107.trans (congrArg some (by kernel_rfl))
  f266 := Tryz.func148.trans (congrArg some (by kernel_rfl))
  t0 := Tryz.underlying0
  a0 := Tryz.isAgg0
  z0 := Tryz.sizeOf0
  v0 := Tryz.zeroValue0
  t3 := Tryz.underlying3
  a3 := Tryz.isAgg3
  z3 := Tryz.sizeOf3
  v3 := Tryz.zeroValue3
  t4 := Tryz.underlying4
  a4 := Tryz.isAgg4
  z4 := Tryz.sizeOf4
  v4 := Tryz.zeroValue4
  t5 := Tryz.underlying5
  a5 := Tryz.isAgg5
  z5 := Tryz.sizeOf5
  v5 := Tryz.zeroValue5
  t9 := Tryz.underlying9
  a9 := Tryz.isAgg9
  z9 := Tryz.sizeOf9
  v9 := Tryz.zeroValue9
  t21 := Tryz.underlying21
  a21 := Tryz.isAgg21
  z21 := Tryz.sizeOf21
  v21 := Tryz.zeroValue21
  t46 := Tryz.underlying140
  a46 := Tryz.isAgg140
  z46 := Tryz.sizeOf140
  v46 := Tryz.zeroValue140
  t116 := Tryz.underlying120
  a116 := Tryz.isAgg120
  z116 := Tryz.sizeOf120
  t117 := Tryz.underlying121
  a117 := Tryz.isAgg121
  z117 := Tryz.sizeOf121
  v117 := Tryz.zeroValue121
  t124 := Tryz.underlying146
  a124 := Tryz.isAgg146
  z124 := Tryz.sizeOf146
  v124 := Tryz.zeroValue146 }
open Go.RowKit Go.Lib in
theorem z_strings_ContainsAny_laid (s chars : ByteArray) (w : World) (hs : s.size < 4294967281) (hcs : chars.size < 4294967281) (has : ∀ (j : Nat) b, s.data.toList[j]? = some b → b.toNat < 128) (hac : ∀ (j : Nat) b, chars.data.toList[j]? = some b → b.toNat < 128) :
    Calls Tryz.prog 52 #[.string s, .string chars] w fun e w' => e = .returned (.bool (Lib.containsAny s.data.toList chars.data.toList)) ∧ Below w.heap.size w w' := Any.strings_ContainsAny_laid z_lays150 (by kernel_rfl) s chars w hs hcs has hac
def z_lays105_ren : Go.Shelf.Ren := ⟨fun | 105 => 150 | 212 => 165 | 99 => 166 | 165 => 84 | 166 => 34 | 170 => 167 | 169 => 36 | 263 => 179 | 264 => 180 | 206 => 177 | 240 => 57 | 241 => 119 | 276 => 83 | 277 => 147 | n => n, fun | 9 => 9 | 3 => 3 | 4 => 4 | 20 => 20 | 0 => 0 | 46 => 140 | 109 => 174 | 5 => 5 | 72 => 57 | 76 => 61 | 51 => 160 | 146 => 161 | 53 => 147 | 148 => 184 | 70 => 54 | 37 => 55 | 75 => 59 | 127 => 83 | 164 => 104 | 80 => 64 | n => n, fun | n => n⟩
theorem z_lays105 : Go.Proofs.Lays.n105 Tryz.prog z_lays105_ren := {
  mixed := by kernel_rfl
  f99 := Tryz.func166.trans (congrArg some (by kernel_rfl))
  f105 := Tryz.func150.trans (congrArg some (by kernel_rfl))
  f165 := Tryz.func84.trans (congrArg some (by kernel_rfl))
  f166 := Tryz.func34.trans (congrArg some (by kernel_rfl))
  f169 := Tryz.func36.trans (congrArg some (by kernel_rfl))
  f170 := Tryz.func167.trans (congrArg some (by kernel_rfl))
  f206 := Tryz.func177.trans (congrArg some (by kernel_rfl))
  f212 := Tryz.func165.trans (congrArg some (by kernel_rfl))
  f240 := Tryz.func57.trans (congrArg some (by kernel_rfl))
  f241 := Tryz.func119.trans (congrArg some (by kernel_rfl))
  f263 := Tryz.func179.trans (congrArg some (by kernel_rfl))
  f264 := Tryz.func180.trans (congrArg some (by kernel_rfl))
  f276 := Tryz.func83.trans (congrArg some (by kernel_rfl))
  f277 := Tryz.func147.trans (congrArg some (by kernel_rfl))
  t0 := Tryz.underlying0
  a0 := Tryz.isAgg0
  z0 := Tryz.sizeOf0
  v0 := Tryz.zeroValue0
  t3 := Tryz.underlying3
  a3 := Tryz.isAgg3
  z3 := Tryz.sizeOf3
  v3 := Tryz.zeroValue3
  t4 := Tryz.underlying4
  a4 := Tryz.isAgg4
  z4 := Tryz.sizeOf4
  v4 := Tryz.zeroValue4
  t5 := Tryz.underlying5
  a5 := Tryz.isAgg5
  z5 := Tryz.sizeOf5
  v5 := Tryz.zeroValue5
  t9 := Tryz.underlying9
  a9 := Tryz.isAgg9
  z9 := Tryz.sizeOf9
  v9 := Tryz.zeroValue9
  t20 := Tryz.underlying20
  a20 := Tryz.isAgg20
  z20 := Tryz.sizeOf20
  v20 := Tryz.zeroValue20
  t37 := Tryz.underlying55
  a37 := Tryz.isAgg55
  z37 := Tryz.sizeOf55
  v37 := Tryz.zeroValue55
  t46 := Tryz.underlying140
  a46 := Tryz.isAgg140
  z46 := Tryz.sizeOf140
  v46 := Tryz.zeroValue140
  t51 := Tryz.underlying160
  a51 := Tryz.isAgg160
  z51 := Tryz.sizeOf160
  v51 := Tryz.zeroValue160
  t53 := Tryz.underlying147
  a53 := Tryz.isAgg147
  z53 := Tryz.sizeOf147
  v53 := Tryz.zeroValue147
  t70 := Tryz.underlying54
  a70 := Tryz.isAgg54
  z70 := Tryz.sizeOf54
  v70 := Tryz.zeroValue54
  t72 := Tryz.underlying57
  a72 := Tryz.isAgg57
  z72 := Tryz.sizeOf57
  v72 := Tryz.zeroValue57
  t75 := Tryz.underlying59
  a75 := Tryz.isAgg59
  z75 := Tryz.sizeOf59
  v75 := Tryz.zeroValue59
  t76 := Tryz.underlying61
  a76 := Tryz.isAgg61
  z76 := Tryz.sizeOf61
  v76 := Tryz.zeroValue61
  t109 := Tryz.underlying174
  a109 := Tryz.isAgg174
  z109 := Tryz.sizeOf174
  v109 := Tryz.zeroValue174
  t127 := Tryz.underlying83
  a127 := Tryz.isAgg83
  z127 := Tryz.sizeOf83
  v127 := Tryz.zeroValue83
  t146 := Tryz.underlying161
  a146 := Tryz.isAgg161
  z146 := Tryz.sizeOf161
  v146 := Tryz.zeroValue161
  t148 := Tryz.underlying184
  a148 := Tryz.isAgg184
  z148 := Tryz.sizeOf184
  v148 := Tryz.zeroValue184
  t164 := Tryz.underlying104
  a164 := Tryz.isAgg104
  z164 := Tryz.sizeOf104
  v164 := Tryz.zeroValue104 }
theorem z_Builder_Extra_105 : Builder.Extra Tryz.prog z_lays105_ren := {
  sizeBuilder := by kernel_rfl
  liesBuilder := by kernel_rfl
  t5 := Tryz.underlying5
  a5 := Tryz.isAgg5
  z5 := Tryz.sizeOf5
  v5 := Tryz.zeroValue5
  infoByte := by kernel_rfl
  cellsByte := by kernel_rfl
  sizeByte := by kernel_rfl
  neB5 := by decide }
open Go.RowKit Go.Lib in
theorem z_strings_Repeat (s : ByteArray) (c : Nat) (w : World) (hc : c ≤ 9223372036854775807) (hlen : s.size * c ≤ 140737488355328) :
    Calls Tryz.prog 150 #[.string s, .int .i64 c] w fun e w' => e = .returned (.string ⟨(Lib.repeatL s.data.toList c).toArray⟩) ∧ Below w.heap.size w w' := Any.strings_Repeat z_lays105 z_Builder_Extra_105 s c w hc hlen
open Go.RowKit Go.Lib in
theorem z_utf8_DecodeRuneInString (s : ByteArray) (w : World) (hT : Lib.Utf8Tabs 1 2 w) :
    Calls Tryz.prog 85 #[.string s] w fun e w' => e = .returned (.tuple #[.int .i32 (Lib.decodeGo s).1, .int .i64 (Lib.decodeGo s).2]) ∧ Below w.heap.size w w' := Any.utf8_DecodeRuneInString z_lays197 s w hT
def z_lays109_ren : Go.Shelf.Ren := ⟨fun | 109 => 128 | n => n, fun | 31 => 22 | 9 => 9 | 3 => 3 | 0 => 0 | 4 => 4 | n => n, fun | n => n⟩
theorem z_lays109 : Go.Proofs.Lays.n109 Tryz.prog z_lays109_ren := {
  mixed := by kernel_rfl
  f109 := Tryz.func128.trans (congrArg some (by kernel_rfl))
  t0 := Tryz.underlying0
  a0 := Tryz.isAgg0
  z0 := Tryz.sizeOf0
  v0 := Tryz.zeroValue0
  t3 := Tryz.underlying3
  a3 := Tryz.isAgg3
  z3 := Tryz.sizeOf3
  v3 := Tryz.zeroValue3
  t4 := Tryz.underlying4
  a4 := Tryz.isAgg4
  z4 := Tryz.sizeOf4
  v4 := Tryz.zeroValue4
  t9 := Tryz.underlying9
  a9 := Tryz.isAgg9
  z9 := Tryz.sizeOf9
  v9 := Tryz.zeroValue9
  t31 := Tryz.underlying22
  a31 := Tryz.isAgg22
  z31 := Tryz.sizeOf22
  v31 := Tryz.zeroValue22 }
open Go.Lib in
theorem z_slices_Index_string (b off n c : Nat) (zs : List ByteArray) (x : ByteArray) (w : World) (hz : n ≤ zs.length) (hbig : n ≤ 9223372036854775807) (hc : ∀ j, j < zs.length → w.cell? ⟨b, off + j, none⟩ = some (.string (zs.getD j ByteArray.empty))) :
    Calls Tryz.prog 128 #[.slice (some ⟨b, off, none⟩) n c, .string x] w fun e w' => e = .returned (.int .i64 (Lib.idxOfS (zs.take n) x)) ∧ w' = w := Any.slices_Index_string z_lays109 b off n c zs x w hz hbig hc
open Go.Lib in
theorem z_slices_Index_string_empty (a : Option Addr) (c : Nat) (x : ByteArray) (w : World) :
    Calls Tryz.prog 128 #[.slice a 0 c, .string x] w fun e w' => e = .returned (.int .i64 (Lib.idxOfS [] x)) ∧ w' = w := Any.slices_Index_string_empty z_lays109 a c x w
end Go.Proofs.YtaoceiiakcpbaaaGreatDoor
end
section
namespace Go.Proofs.YtaoceiiakcpbaaaGreatDoor
open Go Go.X Go.Proofs Go.RowKit
set_option linter.unusedVariables false
theorem IndexByte_pc {gl : Fr} {s : ByteArray} {c : Int} {R : Int → Prop} (h : R (Lib.indexByte (lb s) c.toNat.toUInt8)) : PC Tryz.prog gl 132 [Arg.mk .str s, Arg.mk (.int .u8) c] [.int .i64] R :=
  PC.of_same rfl (fun _ => ret_int _ _) h fun w _ => z_strings_IndexByte s c w
theorem CutPrefix_pc {gl : Fr} {s p : ByteArray} {R : ByteArray × Bool → Prop} (h : R (bl (Lib.trimPrefix (lb s) (lb p)), Lib.hasPrefix (lb s) (lb p))) : PC Tryz.prog gl 138 [Arg.mk .str s, Arg.mk .str p] [.str, .bool] R :=
  PC.of_same rfl (fun M => ⟨[_, _], ⟨_, _, rfl, rfl, _, rfl, rfl⟩, rfl⟩) h fun w _ => z_strings_CutPrefix s p w
theorem TrimPrefix_pc {gl : Fr} {s p : ByteArray} {R : ByteArray → Prop} (h : R (bl (Lib.trimPrefix (lb s) (lb p)))) : PC Tryz.prog gl 140 [Arg.mk .str s, Arg.mk .str p] [.str] R :=
  PC.of_same rfl (fun _ => ret_str _) h fun w _ => z_strings_TrimPrefix s p w
theorem TrimLeft_pc {gl : Fr} {s : ByteArray} {c : UInt8} (hc : c.toNat < 128) {R : ByteArray → Prop} (h : R (bl (Lib.trimLeftB (lb s) c))) : PC Tryz.prog gl 117 [Arg.mk .str s, Arg.mk .str ⟨#[c]⟩] [.str] R :=
  PC.of_same rfl (fun _ => ret_str _) h fun w _ => z_strings_TrimLeft_one s c hc w
theorem TrimRight_pc {gl : Fr} {s : ByteArray} {c : UInt8} (hc : c.toNat < 128) (hs : s.size ≤ 9223372036854775807) {R : ByteArray → Prop} (h : R (bl (Lib.trimRightB (lb s) c))) : PC Tryz.prog gl 118 [Arg.mk .str s, Arg.mk .str ⟨#[c]⟩] [.str] R :=
  PC.of_same rfl (fun _ => ret_str _) h fun w _ => z_strings_TrimRight_one s c hc w hs
def MaxLen (gl : Fr) : Prop := ∃ (cs : Array Value) (m : Int), gl 0 = some cs ∧ cs[0]? = some (.int .i64 m)
theorem drewN_below (w : World) (n : Nat) : Below w.heap.size w (w.drewN n) := ⟨rfl, rfl, rfl, Nat.le_refl _, fun _ _ => rfl⟩
theorem Cut_pc {gl : Fr} (hg : MaxLen gl) {s sep : ByteArray} (hs : s.size < 4294967281) {R : ByteArray × ByteArray × Bool → Prop} (h : R (bl (Lib.cut (lb s) (lb sep)).1, bl (Lib.cut (lb s) (lb sep)).2.1, (Lib.cut (lb s) (lb sep)).2.2)) : PC Tryz.prog gl 61 [Arg.mk .str s, Arg.mk .str sep] [.str, .str, .bool] R := by
  obtain ⟨cs, m, h1, h2⟩ := hg
  exact PC.of_scal rfl (fun M => ⟨[_, _, _], ⟨_, _, rfl, rfl, _, _, rfl, rfl, _, rfl, rfl⟩, rfl⟩) h fun w hw => (z_strings_Cut s sep m w hs (hw.glob h1 h2)).mono fun e w' ⟨he, n, hn⟩ => ⟨he, hn ▸ drewN_below w n⟩
theorem Count_pc {gl : Fr} (hg : MaxLen gl) {s sep : ByteArray} (hs : s.size < 4294967281) (h1' : 1 ≤ sep.size) {R : Int → Prop} (h : R (Lib.countB s sep : Int)) : PC Tryz.prog gl 41 [Arg.mk .str s, Arg.mk .str sep] [.int .i64] R := by
  obtain ⟨cs, m, h1, h2⟩ := hg
  exact PC.of_same rfl (fun _ => ret_int _ _) h fun w hw => z_strings_Count_any s sep m w hs (hw.glob h1 h2) h1'
theorem ReplaceAll_pc {gl : Fr} (hg : MaxLen gl) {s old new : ByteArray} (hs : s.size < 4294967281) (h1' : 1 ≤ old.size) (hlen : s.size + Lib.countB s old * new.size ≤ 140737488355328) {R : ByteArray → Prop} (h : R (bl (Lib.replaceAll (lb s) (lb old) (lb new)))) :
    PC Tryz.prog gl 35 [Arg.mk .str s, Arg.mk .str old, Arg.mk .str new] [.str] R := by
  obtain ⟨cs, m, h1, h2⟩ := hg
  exact PC.of_scal rfl (fun _ => ret_str _) h fun w hw => z_strings_ReplaceAll s old new m w hs (hw.glob h1 h2) h1' hlen
theorem Repeat_pc {gl : Fr} {s : ByteArray} {c : Nat} (hc : c ≤ 9223372036854775807) (hlen : s.size * c ≤ 140737488355328) {R : ByteArray → Prop} (h : R (bl (Lib.repeatL (lb s) c))) : PC Tryz.prog gl 150 [Arg.mk .str s, Arg.mk (.int .i64) (c : Int)] [.str] R :=
  PC.of_scal rfl (fun _ => ret_str _) h fun w hw => z_strings_Repeat s c w hc hlen
theorem Split_pc {gl : Fr} (hg : MaxLen gl) {s sep : ByteArray} (hs : s.size < 4294967281) (h1' : 1 ≤ sep.size) (hc : Lib.countB s sep + 1 ≤ 140737488355328) {R : List ByteArray → Prop} (hl : (Lib.splitB sep 0 (Lib.countB s sep) s).length = Lib.countB s sep + 1) (h : R (Lib.splitB sep 0 (Lib.countB s sep) s)) :
    PC Tryz.prog gl 42 [Arg.mk .str s, Arg.mk .str sep] [.row .str] R := by
  obtain ⟨cs, m, h1, h2⟩ := hg
  exact PC.of_row (t := .str) (cells := ((Lib.splitB sep 0 (Lib.countB s sep) s).map Value.string).toArray) (T := 9) rfl (fun M => by simpa using rowC_strs M _) (by rw [hl]; exact hc) h fun w hw => (z_strings_Split s sep m w hs (hw.glob h1 h2) h1').mono fun e w' ⟨he, hw'⟩ => ⟨by rw [hl]; exact he, hw'⟩
def Tabs (gl : Fr) : Prop := (∃ cs : Array Value, gl 1 = some cs ∧ ∀ c, c < 256 → cs[c]? = some (.int .u8 (Lib.firstT c))) ∧ ∃ cs : Array Value, gl 2 = some cs ∧ ∀ i, i < 16 → cs[2 * i]? = some (.int .u8 (Lib.accLo i)) ∧ cs[2 * i + 1]? = some (.int .u8 (Lib.accHi i))
theorem Tabs.at {gl : Fr} (h : Tabs gl) {w : World} (hw : AgM gl w.heap) : Lib.Utf8Tabs 1 2 w := by
  obtain ⟨⟨c1, a1, b1⟩, c2, a2, b2⟩ := h
  exact ⟨fun c hc => hw.glob a1 (b1 c hc), fun i hi => ⟨hw.glob a2 (b2 i hi).1, hw.glob a2 (b2 i hi).2⟩⟩
theorem Decode_pc {gl : Fr} (hg : Tabs gl) {s : ByteArray} {R : Int × Int → Prop} (h : R ((Lib.decodeGo s).1, (Lib.decodeGo s).2)) : PC Tryz.prog gl 85 [Arg.mk .str s] [.int .i32, .int .i64] R :=
  PC.of_scal rfl (fun M => ⟨[_, _], ⟨_, _, rfl, rfl, _, rfl, rfl⟩, rfl⟩) h fun w hw => z_utf8_DecodeRuneInString s w (hg.at hw)
theorem grow_below (w : World) (k : Nat) (os : Array Obj) : Below w.heap.size w (Go.Sort.grow (w.drewN k) os) := ⟨rfl, rfl, rfl, by simp [Go.Sort.grow, World.drewN], fun i hi => by
  show ((w.drewN k).heap ++ os)[i]? = _
  exact Array.getElem?_append_left hi⟩
def Pow (gl : Fr) : Prop := ∃ b cs, Tryz.prog.globalNamed "internal/strconv.uint64pow10" = some b ∧ gl b = some cs ∧ cs = (Lib.pow10Tab.map fun z => Value.int .u64 z).toArray
theorem Itoa_pc {gl : Fr} (hg : Pow gl) {n : Int} (h0 : -9223372036854775808 ≤ n) (h1 : n ≤ 9223372036854775807) {R : ByteArray → Prop} (h : R (bl (Lib.itoa n))) : PC Tryz.prog gl 81 [Arg.mk (.int .i64) n] [.str] R := by
  obtain ⟨b, cs, e1, e2, e3⟩ := hg
  refine PC.of_scal rfl (fun _ => ret_str _) h fun w hw => (z_strconv_Itoa n h0 h1 w ?_).mono fun e w' ⟨he, k, os, hw'⟩ => ⟨he, hw' ▸ grow_below w k os⟩
  obtain ⟨T, m, e4⟩ := hw b cs e2
  unfold Lib.TabIs World.var?
  rw [e1]
  simp only [Option.bind_some, e4, e3]
def atoiR (l : List UInt8) : Int × Bool := match Lib.atoiAll l with
  | .ok v => (v, true)
  | .range => (Lib.atoiSat l, false)
  | _ => (0, false)
def ErrVars (gl : Fr) : Prop := (∃ (cs : Array Value) (e : Value), gl 3 = some cs ∧ cs[0]? = some e ∧ (e = .nilIface ∨ ∃ te pe, e = .iface te pe)) ∧ ∃ (cs : Array Value) (e : Value), gl 4 = some cs ∧ cs[0]? = some e ∧ (e = .nilIface ∨ ∃ te pe, e = .iface te pe)
theorem ret_err {M : Fr} (k : IntKind) (i : Int) (t : TypeId) (u : Value) : RetV M [.int k, .err] (i, false) (.tuple #[.int k i, .iface t u]) := ⟨[_, _], ⟨_, _, rfl, rfl, .iface t u, rfl, ⟨_, rfl, .inr ⟨rfl, _, _, rfl⟩⟩⟩, rfl⟩
theorem ret_noerr {M : Fr} (k : IntKind) (i : Int) : RetV M [.int k, .err] (i, true) (.tuple #[.int k i, .nilIface]) := ⟨[_, _], ⟨_, _, rfl, rfl, .nilIface, rfl, ⟨_, rfl, .inl ⟨rfl, rfl⟩⟩⟩, rfl⟩
theorem Atoi_pc {gl : Fr} (hg : ErrVars gl) {s : ByteArray} (hs : s.size ≤ 281474976710656) {R : Int × Bool → Prop} (h : R (atoiR (lb s))) : PC Tryz.prog gl 53 [Arg.mk .str s] [.int .i64, .err] R := by
  unfold atoiR at h
  cases hx : Lib.atoiAll (lb s) with
  | ok v =>
    rw [hx] at h
    refine PC.of_ex rfl fun w hw => (z_strconv_Atoi_ok s (by omega) v hx w).mono fun e w' ⟨he, hw'⟩ => ⟨_, (v, true), he, fun M => ret_noerr _ _, h, ?_⟩
    rcases hw' with rfl | ⟨t, rfl⟩
    · exact Below.refl _ _
    · exact Lib.bytesWorld_below _ _ _
  | range =>
    rw [hx] at h
    obtain ⟨_, ⟨cs, ev, e1, e2, e3⟩⟩ := hg
    exact PC.of_ex rfl fun w hw => (z_strconv_Atoi_range s hs hx ev w (hw.glob e1 e2) e3).mono fun e w' ⟨N, he, _, _, bel⟩ => ⟨_, (Lib.atoiSat (lb s), false), he, fun M => ret_err _ _ _ _, h, bel⟩
  | _ =>
    rw [hx] at h
    obtain ⟨⟨cs, ev, e1, e2, e3⟩, _⟩ := hg
    exact PC.of_ex rfl fun w hw => (z_strconv_Atoi_syntax s hs hx ev w (hw.glob e1 e2) e3).mono fun e w' ⟨N, he, _, _, bel⟩ => ⟨_, (0, false), he, fun M => ret_err _ _ _ _, h, bel⟩
def parseIntR (l : List UInt8) : Int × Bool := match Lib.parseIntB 64 l with
  | .ok v => (v, true)
  | .range => (Lib.intSat 64 l, false)
  | _ => (0, false)
theorem ParseInt_pc {gl : Fr} (hg : ErrVars gl) {s : ByteArray} (hs : s.size ≤ 281474976710656) {R : Int × Bool → Prop} (h : R (parseIntR (lb s))) : PC Tryz.prog gl 151 [Arg.mk .str s, Arg.mk (.int .i64) 10, Arg.mk (.int .i64) 64] [.int .i64, .err] R := by
  unfold parseIntR at h
  cases hx : Lib.parseIntB 64 (lb s) with
  | ok v =>
    rw [hx] at h
    refine PC.of_ex rfl fun w hw => (z_strconv_ParseInt_10_at64_ok s (by omega) v hx w).mono fun e w' ⟨he, hw'⟩ => ⟨_, (v, true), he, fun M => ret_noerr _ _, h, ?_⟩
    rcases hw' with rfl | ⟨t, rfl⟩
    · exact Below.refl _ _
    · exact Lib.bytesWorld_below _ _ _
  | range =>
    rw [hx] at h
    obtain ⟨_, ⟨cs, ev, e1, e2, e3⟩⟩ := hg
    exact PC.of_ex rfl fun w hw => (z_strconv_ParseInt_10_at64_range s hs hx ev w (hw.glob e1 e2) e3).mono fun e w' ⟨N, he, _, _, bel⟩ => ⟨_, (Lib.intSat 64 (lb s), false), he, fun M => ret_err _ _ _ _, h, bel⟩
  | _ =>
    rw [hx] at h
    obtain ⟨⟨cs, ev, e1, e2, e3⟩, _⟩ := hg
    exact PC.of_ex rfl fun w hw => (z_strconv_ParseInt_10_at64_syntax s hs hx ev w (hw.glob e1 e2) e3).mono fun e w' ⟨N, he, _, _, bel⟩ => ⟨_, (0, false), he, fun M => ret_err _ _ _ _, h, bel⟩
theorem ContainsAny_pc {gl : Fr} {s c : ByteArray} (hs : s.size < 4294967281) (hc : c.size < 4294967281) (has : ∀ (j : Nat) b, (lb s)[j]? = some b → b.toNat < 128) (hac : ∀ (j : Nat) b, (lb c)[j]? = some b → b.toNat < 128) {R : Bool → Prop} (h : R (Lib.containsAny (lb s) (lb c))) :
    PC Tryz.prog gl 52 [Arg.mk .str s, Arg.mk .str c] [.bool] R :=
  PC.of_scal rfl (fun _ => ret_bool _) h fun w hw => z_strings_ContainsAny_laid s c w hs hc has hac
theorem SlicesIndex_pc {gl : Fr} {xs : List ByteArray} {x : ByteArray} {R : Int → Prop} (h : R (Lib.idxOfS xs x)) : PC Tryz.prog gl 128 [Arg.mk (.row .str) xs, Arg.mk .str x] [.int .i64] R := by
  intro hp M vs hM ag ha
  match vs, ha with
  | [u, v], ⟨h1, h2, _⟩ =>
    have h1' : Rd M (.row .str) xs [u] := by simpa [RdV, aggT] using h1
    have h2' : v = .string x := by simpa [RdV, aggT, Rd] using h2
    subst h2'
    obtain ⟨s, rfl, hl, hn, cells, hc, ha⟩ := Rd.rowC ag h1'
    have := rowC_strs_eq hc
    subst this
    have key : ∀ w : World, w.heap = hp → Calls Tryz.prog 128 #[slV s, .string x] w fun e w' => e = .returned (.int .i64 (Lib.idxOfS xs x)) ∧ w' = w := by
      intro w hw
      rcases ha with h0 | ⟨b, o, e1, e2, e3⟩
      · have hx : xs = [] := by simpa using h0
        subst hx
        have := z_slices_Index_string_empty s.a s.cap x w
        simp only [slV, hl]; exact this
      · have := z_slices_Index_string b o s.len s.cap xs x w (by omega) (by omega) (fun j hj => by
          have := e3 j (.string (xs.getD j ByteArray.empty)) (by rw [List.getElem?_map, List.getElem?_eq_getElem hj, List.getD_eq_getElem?_getD, List.getElem?_eq_getElem hj]; rfl)
          rw [← hw] at this
          exact this)
        rw [hl, List.take_length] at this
        simp only [slV, e1, hl]; exact this
    refine XC.of_calls fun B d => (key (mk B d hp) rfl).mono ?_
    rintro e w' ⟨rfl, rfl⟩
    exact ⟨_, rfl, rfl, rfl, rfl, Keep.refl _ _, M, _, Fr.le.refl _, fun _ _ => rfl, ag, ret_int _ _, h⟩
end Go.Proofs.YtaoceiiakcpbaaaGreatDoor
end
section
namespace Go.X
open Go Go.Lib
set_option linter.unusedVariables false
theorem bl_size (l : Bs) : (bl l).size = l.length := by rw [← lb_len, lb_bl]
theorem bl_extract (l : Bs) (a b : Nat) : (bl l).extract a b = bl ((l.drop a).take (b - a)) := by rw [← lb_inj, lb_extract, lb_bl, lb_bl]
theorem bl_append (a b : Bs) : bl a ++ bl b = bl (a ++ b) := by rw [← lb_inj, lb_append, lb_bl, lb_bl, lb_bl]
theorem bl_byteAt (l : Bs) (i : Nat) : byteAt (bl l) i = ((l[i]?.getD 0).toNat : Int) := by rw [byteAt_lb, lb_bl]
theorem toList_lb (s : ByteArray) : s.toList = lb s := by
  cases s with
  | mk d => exact Go.Lib.toList_data ⟨d⟩
theorem bl_eq (a b : Bs) : ((bl a).toList == (bl b).toList) = decide (a = b) := by
  rw [toList_lb, toList_lb, lb_bl, lb_bl]
  rw [Bool.eq_iff_iff]; simp
theorem nxB_bl (l : Bs) (p : Nat) : nxB (bl l) p = decide (p < l.length) := by
  rw [Bool.eq_iff_iff]; simp [nxB, bl_size]
theorem nxR_bl (l : Bs) (p : Nat) : nxR (bl l) p = ((dec (l.drop p)).1 : Int) := by rw [nxR, dec_at, lb_bl]
theorem nxP_bl (l : Bs) (p : Nat) (h : p < l.length) : nxP (bl l) p = p + (dec (l.drop p)).2 := by
  rw [nxP, dec_at, lb_bl]
  have : Nat.blt p (bl l).size = true := by simp [bl_size, h]
  rw [this]; rfl
theorem getDlt {l : Bs} {i : Nat} (h : i < l.length) : l[i]?.getD 0 = l[i] := by rw [List.getElem?_eq_getElem h]; rfl
def isDig (c : UInt8) : Bool := decide (48 ≤ c.toNat) && decide (c.toNat ≤ 57)
def digs (l : Bs) : Bool := l.all isDig && !l.isEmpty
abbrev Nm := Bool × Bs × Int
abbrev nmB (n : Nm) : Bool × ByteArray × Int := (n.1, (bl n.2.1, n.2.2))
def nought (n : Nm) : Bool := !n.1 && (n.2.1.isEmpty && n.2.2 == 0)
def nmRight (n : Nm) : Bool := nought n || (digs n.2.1 && decide (n.2.1.length ≤ 1000) && n.2.1.head? != some 48 && n.2.1.getLast? != some 48 && decide (-1000000 ≤ n.2.2) && decide (n.2.2 ≤ 1000000))
def nmText (n : Nm) : Bs := if nmRight n then (if n.2.1 = [] then [48] else (if n.1 then [45] else []) ++ n.2.1 ++ (if n.2.2 = 0 then [] else 101 :: Go.Lib.itoa n.2.2)) else []
theorem nmRight_nil {n : Nm} (h : nmRight n = true) (e : n.2.1 = []) : nought n = true := by
  unfold nmRight at h
  rcases Bool.or_eq_true _ _ ▸ h with h | h
  · exact h
  · simp [digs, e] at h
theorem nmRight_len {n : Nm} (h : nmRight n = true) : n.2.1.length ≤ 1000 ∧ -1000000 ≤ n.2.2 ∧ n.2.2 ≤ 1000000 := by
  unfold nmRight nought at h
  obtain ⟨a, d, e⟩ := n
  simp at h
  rcases h with ⟨_, h, h'⟩ | h
  · subst h; subst h'; simp
  · simp only; omega
def cutAt (p : UInt8 → Bool) : Bs → Bs × Bs × Bool
  | [] => ([], [], false)
  | c :: l => if p c then ([], l, true) else (c :: (cutAt p l).1, (cutAt p l).2)
theorem cutAt_none {p : UInt8 → Bool} : ∀ {l}, (∀ c ∈ l, p c = false) → cutAt p l = (l, [], false)
  | [], _ => rfl
  | c :: l, h => by
    unfold cutAt
    rw [if_neg (by simp [h c (by simp)]), cutAt_none fun c hc => h c (by simp [hc])]
theorem cutAt_at {p : UInt8 → Bool} : ∀ {l : Bs} {k : Nat} (hk : k < l.length), (∀ i (hi : i < k), p (l[i]'(by omega)) = false) → p l[k] = true → cutAt p l = (l.take k, l.drop (k + 1), true)
  | c :: l, 0, _, _, h => by
    unfold cutAt
    rw [if_pos (by simpa using h)]; simp
  | c :: l, k + 1, hk, h0, h => by
    unfold cutAt
    have h1 : p c = false := h0 0 (by omega)
    rw [if_neg (by simp [h1]), cutAt_at (k := k) (by simpa using hk) (fun i hi => by simpa using h0 (i + 1) (by omega)) (by simpa using h)]
    simp
structure Lit where
  neg : Bool
  whole : Bs
  rest : Bs
  low : Bool
  exp : Bs
def litS (s : Bs) : Bs := if s.head? == some 45 then s.tail else s
def isE (c : UInt8) : Bool := c == 101 || c == 69
def isDot (c : UInt8) : Bool := c == 46
def litM (s : Bs) : Bs × Bs × Bool := cutAt isE (litS s)
def litLow (s : Bs) : Bool := (litM s).2.2 && (litM s).2.1.head? == some 45
def litE (s : Bs) : Bs := if litLow s then (litM s).2.1.tail else if (litM s).2.1.head? == some 43 then (litM s).2.1.tail else (litM s).2.1
def litW (s : Bs) : Bs × Bs × Bool := cutAt isDot (litM s).1
def litOk (s : Bs) : Bool := (!(litM s).2.2 || digs (litE s)) && digs (litW s).1 && (!(litW s).2.2 || digs (litW s).2.1) && ((litW s).1 == [48] || (litW s).1.head? != some 48)
def litOf (s : Bs) : Lit := ⟨s.head? == some 45, (litW s).1, (litW s).2.1, litLow s, if (litM s).2.2 then litE s else []⟩
def numLit (s : Bs) : Option Lit := if litOk s then some (litOf s) else none
theorem numLit_some {s : Bs} {x : Lit} (h : numLit s = some x) : litOk s = true ∧ x = litOf s := by
  unfold numLit at h
  split at h
  · rename_i e; exact ⟨e, (Option.some.inj h).symm⟩
  · exact absurd h (by simp)
theorem cutAt_miss {p : UInt8 → Bool} : ∀ {l : Bs}, (cutAt p l).2.2 = false → (cutAt p l).1 = l ∧ (cutAt p l).2.1 = []
  | [], _ => ⟨rfl, rfl⟩
  | c :: l, h => by
    unfold cutAt at h ⊢
    split
    · rename_i e; rw [if_pos e] at h; exact absurd h (by simp)
    · rename_i e
      rw [if_neg e] at h
      have := cutAt_miss h
      exact ⟨by simp [this.1], this.2⟩
def shortOf (l : Bs) : Bs := ((l.dropWhile (· == 48)).reverse.dropWhile (· == 48)).reverse
def decVal (l : Bs) : Nat := l.foldl (fun n c => 10 * n + (c.toNat - 48)) 0
def numParse (s : Bs) : Nm × Int := match numLit s with
  | none => ((false, [], 0), 2)
  | some x =>
    if x.whole.length + x.rest.length > 1000 then ((false, [], 0), 3)
    else if (x.exp.dropWhile (· == 48)).length > 9 then ((false, [], 0), 4)
    else
      let e : Int := if x.low then - (decVal (x.exp.dropWhile (· == 48)) : Int) else decVal (x.exp.dropWhile (· == 48))
      let d := (x.whole ++ x.rest).dropWhile (· == 48)
      let short := shortOf (x.whole ++ x.rest)
      if d = [] then ((false, [], 0), 0)
      else if -1000000 ≤ e - x.rest.length + d.length - short.length ∧ e - x.rest.length + d.length - short.length ≤ 1000000 then ((x.neg, short, e - x.rest.length + d.length - short.length), 0)
      else ((false, [], 0), 4)
def nmInt (n : Nm) : Int × Bool :=
  if nmRight n && decide (0 ≤ n.2.2) && decide ((n.2.1.length : Int) + n.2.2 ≤ 19) then
    let v : Int := if n.1 then - ((decVal n.2.1 * 10 ^ n.2.2.toNat : Nat) : Int) else (decVal n.2.1 * 10 ^ n.2.2.toNat : Nat)
    if -9223372036854775808 ≤ v ∧ v ≤ 9223372036854775807 then (v, true) else (0, false)
  else (0, false)
end Go.X
end
section
namespace Go.Proofs.YtaoceiiakcpbaaaGreatDoor
open Go Go.X Go.Proofs
set_option linter.unusedVariables false
theorem wsucc {k n : Nat} (h : k < n) (hn : n ≤ 4611686018427387904) : IntKind.wrap .i64 ((k : Int) + 1) = ((k + 1 : Nat) : Int) := wrap_succ (by omega)
theorem dec_dig {l : Bs} (h : l ≠ []) : (48 ≤ (dec l).1 ∧ (dec l).1 ≤ 57) → (dec l).2 = 1 ∧ ∃ c t, l = c :: t ∧ isDig c = true ∧ (dec l).1 = c.toNat := by
  obtain ⟨c, t, rfl⟩ := List.exists_cons_of_ne_nil h
  intro hh
  by_cases hc : c.toNat < 128
  · rw [dec_ascii hc] at hh ⊢
    exact ⟨rfl, c, t, rfl, by simp [isDig]; simpa using hh, rfl⟩
  · exfalso
    unfold dec at hh
    have b0 : ((c :: t).getD 0 0).toNat = c.toNat := rfl
    rw [b0] at hh
    have := c.toNat_lt
    have b1 := ((c :: t).getD 1 0).toNat_lt; have b2 := ((c :: t).getD 2 0).toNat_lt; have b3 := ((c :: t).getD 3 0).toNat_lt
    generalize ((c :: t).getD 1 0).toNat = x1 at *
    generalize ((c :: t).getD 2 0).toNat = x2 at *
    generalize ((c :: t).getD 3 0).toNat = x3 at *
    generalize c.toNat = x0 at *
    unfold Lib.decodeN at hh
    rw [if_neg hc] at hh
    split at hh
    · split at hh <;> simp only at hh <;> omega
    · split at hh
      · split at hh <;> simp only at hh <;> omega
      · split at hh
        · split at hh <;> simp only at hh <;> omega
        · simp only at hh; omega
theorem digits_pc {gl : Fr} {l : Bs} {R : Bool → Prop} (h : R (digs l)) : PC Tryz.prog gl 114 [Arg.mk .str (bl l)] [.bool] R := by
  apply pu_number_digits
  refine ⟨fun p => p.1 = bl l ∧ p.2 ≤ l.length ∧ (l.drop p.2).all isDig = l.all isDig, fun p => l.length - p.2, ⟨rfl, by omega, by simp⟩, ?_⟩
  rintro ⟨_, p⟩ ⟨rfl, hp, h2⟩
  simp only at hp h2 ⊢
  rw [nxB_bl, nxR_bl]
  refine ⟨fun hc => ⟨hc, fun hx => ?_, fun hx => ?_⟩, fun hc => ?_⟩
  all_goals first
    | have hc' : p < l.length := by simpa using hc
    | have hc' : ¬ p < l.length := by simpa using hc
  · have hne : l.drop p ≠ [] := fun e => by have := congrArg List.length e; simp at this; omega
    have hd : ¬ (48 ≤ (dec (l.drop p)).1 ∧ (dec (l.drop p)).1 ≤ 57) := by
      rw [Bool.cond_true_left] at hx
      rcases Bool.or_eq_true _ _ ▸ hx with hx | hx <;> simp at hx <;> omega
    have hf : l.all isDig = false := by
      rw [← h2]
      obtain ⟨c, t, e⟩ := List.exists_cons_of_ne_nil hne
      rw [e]
      cases hcd : isDig c with
      | false => simp [hcd]
      | true =>
        exfalso; apply hd
        have : c.toNat < 128 := by simp [isDig] at hcd; omega
        rw [e, dec_ascii this]
        simpa [isDig] using hcd
    have : digs l = false := by simp [digs, hf]
    rw [this] at h; exact h
  · have hne : l.drop p ≠ [] := fun e => by have := congrArg List.length e; simp at this; omega
    have hd : 48 ≤ (dec (l.drop p)).1 ∧ (dec (l.drop p)).1 ≤ 57 := by
      rw [Bool.cond_true_left] at hx
      have := Bool.or_eq_false_iff.1 hx
      simp at this; omega
    obtain ⟨h1, c, t, e, hcd, _⟩ := dec_dig hne hd
    rw [nxP_bl l p hc', h1]
    refine ⟨⟨trivial, by omega, ?_⟩, by omega⟩
    have e2 : l.drop (p + 1) = t := by rw [← List.drop_drop, e]; rfl
    rw [e2, ← h2, e]; simp [hcd]
  · have : l.drop p = [] := List.drop_eq_nil_of_le (by omega)
    rw [this] at h2
    have e : digs l = !(decide (l = [])) := by
      rw [digs, ← h2]; cases l <;> simp
    have := bl_eq l []
    rw [show (⟨#[]⟩ : ByteArray) = bl [] from rfl, this, ← e]; exact h
abbrev tN : Ty := .pair .bool (.pair .str (.int .i64))
theorem head_idx {l : Bs} (h : 0 < l.length) : (((l[0]?.getD 0).toNat : Int) != 48) = (l.head? != some 48) := by
  cases l with
  | nil => simp at h
  | cons c t =>
    rw [Bool.eq_iff_iff]; simp
    constructor
    · intro h1 h2; exact h1 (by rw [h2]; rfl)
    · intro h1 h2; exact h1 (UInt8.toNat_inj.1 (by have : c.toNat = 48 := by omega
                                                   rw [this]; rfl))
theorem last_idx {l : Bs} (h : 0 < l.length) : (((l[l.length - 1]?.getD 0).toNat : Int) != 48) = (l.getLast? != some 48) := by
  rw [List.getLast?_eq_getElem?]
  rw [List.getElem?_eq_getElem (by omega)]
  rw [Bool.eq_iff_iff]; simp
  constructor
  · intro h1 h2; exact h1 (by rw [h2]; rfl)
  · intro h1 h2; exact h1 (UInt8.toNat_inj.1 (by have : l[l.length - 1].toNat = 48 := by omega
                                                 rw [this]; rfl))
theorem digs_pos {l : Bs} (h : digs l = true) : 0 < l.length := by
  cases l with
  | nil => simp [digs] at h
  | cons => simp
theorem wpred {n : Nat} (h : 0 < n) (hn : n ≤ 4611686018427387904) : IntKind.wrap .i64 ((n : Int) - 1) = ((n - 1 : Nat) : Int) := by
  rw [wrap64 (by omega) (by omega)]; omega
theorem right_pc {gl : Fr} {n : Nm} (hn : n.2.1.length ≤ 4611686018427387904) {R : Bool → Prop} (h : R (nmRight n)) : PC Tryz.prog gl 80 [Arg.mk tN (nmB n)] [.bool] R := by
  apply pu_number_Right
  simp only [show (⟨#[]⟩ : ByteArray) = bl [] from rfl, bl_eq, bl_size, bl_byteAt]
  have e : ((n.1 == false) && (decide (n.2.1 = []) && ((n.2.2 == 0) && true))) = nought n := by
    unfold nought
    rcases n with ⟨_ | _, _ | ⟨_, _⟩, e⟩ <;> simp
  rw [e]
  refine ⟨fun h1 => ?_, fun h1 => ?_⟩
  · have : nmRight n = true := by simp [nmRight, h1]
    rw [this] at h; exact h
  · unfold nmRight at h
    rw [h1, Bool.false_or] at h
    refine digits_pc ⟨fun h2 => ⟨fun _ => ?_, fun h3 => ?_⟩, fun h2 => ⟨fun h3 => ⟨fun _ => ?_, fun h4 => ?_⟩, fun h3 => ⟨?_, fun h4 => ⟨fun _ => ?_, fun h5 => ?_⟩, fun h4 => ⟨?_, fun h5 => ?_, fun h5 => ?_⟩⟩⟩⟩
    · have : digs n.2.1 = false := by simpa using h2
      rw [this] at h; simpa using h
    · rw [h2] at h3; cases h3
    · have : decide (n.2.1.length ≤ 1000) = false := by simp at h3 ⊢; omega
      rw [this] at h; simpa using h
    · rw [h3] at h4; cases h4
    all_goals
      have hd : digs n.2.1 = true := by simpa using h2
      have hp := digs_pos hd
      have h3' : decide (n.2.1.length ≤ 1000) = true := by simp at h3 ⊢; omega
      have eh := head_idx hp
      have el := last_idx hp
    · omega
    · have : (n.2.1.head? != some 48) = false := by
        rw [← eh]; simp at h4 ⊢; exact h4
      rw [this] at h; simpa using h
    · rw [h4] at h5; cases h5
    · rw [wpred hp hn]; omega
    · have : (n.2.1.getLast? != some 48) = false := by
        rw [← el]; rw [wpred hp hn] at h5; simp at h5 ⊢; exact h5
      rw [this] at h; simpa using h
    · have e1 : (n.2.1.head? != some 48) = true := by
        rw [← eh]; simp at h4 ⊢; exact h4
      have e2 : (n.2.1.getLast? != some 48) = true := by
        rw [← el]; rw [wpred hp hn] at h5; simp at h5 ⊢; exact h5
      rw [hd, h3', e1, e2] at h
      simp only [Bool.true_and] at h
      rw [Bool.cond_false_right]
      exact h
end Go.Proofs.YtaoceiiakcpbaaaGreatDoor
end
section
namespace Go.X
open Go Go.Lib
set_option linter.unusedVariables false
theorem indexByte_mem (c : UInt8) : ∀ l : Bs, -1 ≤ indexByte l c ∧ (0 ≤ indexByte l c ↔ c ∈ l)
  | [] => by simp [indexByte]
  | b :: l => by
    have ih := indexByte_mem c l
    unfold indexByte
    by_cases h : b = c
    · simp [h]
    · have h' : ¬ c = b := fun e => h e.symm
      simp only [beq_iff_eq, h, if_false, List.mem_cons, h', false_or]
      obtain ⟨i1, i2⟩ := ih
      split
      · rename_i e
        rw [e] at i2
        exact ⟨by omega, by rw [← i2]⟩
      · rename_i e
        refine ⟨by omega, ?_⟩
        rw [← i2]; omega
theorem decDigits_len (u : Nat) : (decDigits u).length ≤ u + 1 := by
  rw [decDigits]
  split
  · simp
  · rename_i h
    have := decDigits_len (u / 10)
    simp; omega
theorem itoa_len (n : Int) : (itoa n).length ≤ n.natAbs + 2 := by
  unfold itoa
  split
  · have := decDigits_len n.natAbs; simp; omega
  · have := decDigits_len n.toNat; omega
theorem hasPrefix_one (l : Bs) (c : UInt8) : hasPrefix l [c] = (l.head? == some c) := by
  cases l with
  | nil => rfl
  | cons b t => simp [hasPrefix, List.isPrefixOf]; rw [Bool.eq_iff_iff]; simp; exact eq_comm
theorem trimPrefix_one (l : Bs) (c : UInt8) : trimPrefix l [c] = if l.head? == some c then l.tail else l := by
  unfold trimPrefix
  rw [hasPrefix_one]
  split <;> simp
theorem decVal_snoc (l : Bs) (c : UInt8) : decVal (l ++ [c]) = 10 * decVal l + (c.toNat - 48) := by simp [decVal, List.foldl_append]
theorem decVal_take {l : Bs} {k : Nat} (hk : k < l.length) : decVal (l.take (k + 1)) = 10 * decVal (l.take k) + (l[k].toNat - 48) := by
  rw [List.take_succ_eq_append_getElem hk, decVal_snoc]
theorem all_take {l : Bs} {p : UInt8 → Bool} (h : l.all p = true) (k : Nat) : (l.take k).all p = true := by
  rw [List.all_eq_true] at h ⊢
  exact fun x hx => h x (List.mem_of_mem_take hx)
theorem dig_at {l : Bs} (h : l.all isDig = true) {k : Nat} (hk : k < l.length) : 48 ≤ l[k].toNat ∧ l[k].toNat ≤ 57 := by
  have := List.all_eq_true.1 h _ (List.getElem_mem hk)
  simpa [isDig] using this
theorem decVal_lt : ∀ (n : Nat) (l : Bs), l.length = n → l.all isDig = true → decVal l < 10 ^ n
  | 0, l, h, _ => by
    have : l = [] := List.eq_nil_of_length_eq_zero h
    subst this; simp [decVal]
  | n + 1, l, h, hd => by
    have hl : l = l.take (n + 1) := by rw [← h, List.take_length]
    rw [hl, decVal_take (by omega)]
    have h1 := decVal_lt n (l.take n) (by simp; omega) (all_take hd n)
    have h2 := dig_at hd (k := n) (by omega)
    rw [Nat.pow_succ]; omega
theorem decVal_le {l : Bs} {n : Nat} (hn : l.length ≤ n) (h : l.all isDig = true) : decVal l < 10 ^ n :=
  Nat.lt_of_lt_of_le (decVal_lt _ l rfl h) (Nat.pow_le_pow_right (by omega) hn)
theorem digs_all {l : Bs} (h : digs l = true) : l.all isDig = true := by
  unfold digs at h; exact (Bool.and_eq_true_iff.1 h).1
theorem dropWhile_all {l : Bs} {p q : UInt8 → Bool} (h : l.all p = true) : (l.dropWhile q).all p = true := by
  rw [List.all_eq_true] at h ⊢
  exact fun x hx => h x ((List.dropWhile_sublist q).mem hx)
theorem dropWhile_len (l : Bs) (q : UInt8 → Bool) : (l.dropWhile q).length ≤ l.length := (List.dropWhile_sublist q).length_le
theorem dropWhile_head {l : Bs} {q : UInt8 → Bool} : ∀ c, (l.dropWhile q).head? = some c → q c = false := by
  induction l with
  | nil => simp
  | cons b t ih =>
    intro c h
    rw [List.dropWhile_cons] at h
    split at h
    · exact ih c h
    · rename_i hq; simp at h; subst h; exact Bool.eq_false_iff.2 hq
theorem shortOf_facts {l : Bs} (h : l.all isDig = true) (hne : l.dropWhile (· == 48) ≠ []) : digs (shortOf l) = true ∧ (shortOf l).length ≤ (l.dropWhile (· == 48)).length ∧ ((shortOf l).head? != some 48) = true ∧ ((shortOf l).getLast? != some 48) = true := by
  unfold shortOf
  obtain ⟨c, t, hd⟩ := List.exists_cons_of_ne_nil hne
  have hc : (c == 48) = false := by
    have := dropWhile_head (l := l) (q := (· == 48)) c (by rw [hd]; rfl)
    simpa using this
  have key : ∀ (t : Bs), ∃ u, ((c :: t).reverse.dropWhile (· == 48)).reverse = c :: u := by
    intro t
    rw [List.reverse_cons]
    have hx : ∀ (r : Bs), ∃ u, (r ++ [c]).dropWhile (· == 48) = u ++ [c] := by
      intro r
      induction r with
      | nil => exact ⟨[], by simp [hc]⟩
      | cons b r ih =>
        rw [List.cons_append, List.dropWhile_cons]
        split
        · exact ih
        · exact ⟨b :: r, rfl⟩
    obtain ⟨u, e⟩ := hx t.reverse
    exact ⟨u.reverse, by rw [e]; simp⟩
  rw [hd]
  obtain ⟨u, e⟩ := key t
  refine ⟨?_, ?_, ?_, ?_⟩
  · rw [digs, Bool.and_eq_true_iff]
    refine ⟨?_, by rw [e]; rfl⟩
    rw [List.all_reverse]
    apply dropWhile_all
    rw [List.all_reverse, ← hd]
    exact dropWhile_all h
  · rw [List.length_reverse]
    refine Nat.le_trans (dropWhile_len _ _) ?_
    simp
  · rw [e]; simp; simpa using hc
  · rw [List.getLast?_reverse]
    cases hh : ((c :: t).reverse.dropWhile (· == 48)).head? with
    | none => rfl
    | some x =>
      have := dropWhile_head (l := (c :: t).reverse) (q := (· == 48)) x hh
      simpa using this
theorem shortRight {l : Bs} (h : l.all isDig = true) (hne : l.dropWhile (· == 48) ≠ []) (hl : l.length ≤ 1000) (neg : Bool) (e : Int) : nmRight (neg, shortOf l, e) = (decide (-1000000 ≤ e) && decide (e ≤ 1000000)) := by
  obtain ⟨h1, h2, h3, h4⟩ := shortOf_facts h hne
  have h5 := dropWhile_len l (· == 48)
  have hp : (shortOf l).isEmpty = false := by
    rw [digs] at h1
    have := (Bool.and_eq_true_iff.1 h1).2
    simpa using this
  unfold nmRight nought
  simp only [h1, h3, h4, hp, Bool.and_false, Bool.false_and, Bool.false_or, Bool.true_and]
  have : decide ((shortOf l).length ≤ 1000) = true := by simp; omega
  rw [this]; simp
theorem numLit_digs {s : Bs} {x : Lit} (h : numLit s = some x) : digs x.whole = true ∧ x.rest.all isDig = true ∧ x.exp.all isDig = true := by
  obtain ⟨hok, rfl⟩ := numLit_some h
  unfold litOk at hok
  simp only [Bool.and_eq_true] at hok
  obtain ⟨⟨⟨h1, h2⟩, h3⟩, h4⟩ := hok
  refine ⟨h2, ?_, ?_⟩
  · show (litW s).2.1.all isDig = true
    cases hp : (litW s).2.2 with
    | true => rw [hp] at h3; exact digs_all (by simpa using h3)
    | false => rw [show (litW s).2.1 = [] from (cutAt_miss hp).2]; rfl
  · show (if (litM s).2.2 then litE s else []).all isDig = true
    cases hm : (litM s).2.2 with
    | true => rw [hm] at h1; simpa using digs_all (by simpa using h1)
    | false => rfl
theorem cutAt_len2 (p : UInt8 → Bool) (l : Bs) : (cutAt p l).1.length + (cutAt p l).2.1.length ≤ l.length := by
  induction l with
  | nil => simp [cutAt]
  | cons c t ih => unfold cutAt; split <;> simp <;> omega
theorem numLit_len {s : Bs} {x : Lit} (h : numLit s = some x) : x.whole.length + x.rest.length + x.exp.length ≤ s.length := by
  obtain ⟨hok, rfl⟩ := numLit_some h
  have h1 : (litS s).length ≤ s.length := by unfold litS; split <;> simp
  have h2 := cutAt_len2 isE (litS s)
  have h3 := cutAt_len2 isDot (litM s).1
  have h4 : (litE s).length ≤ (litM s).2.1.length := by
    unfold litE
    split
    · simp
    · split <;> simp
  have h5 : (if (litM s).2.2 then litE s else []).length ≤ (litM s).2.1.length := by
    split
    · exact h4
    · simp
  show (litW s).1.length + (litW s).2.1.length + (if (litM s).2.2 then litE s else []).length ≤ s.length
  unfold litW
  unfold litM at *
  omega
end Go.X
end
section
namespace Go.Proofs.YtaoceiiakcpbaaaGreatDoor
open Go Go.X Go.Proofs
set_option linter.unusedVariables false
theorem u8toI (c : UInt8) : (((c.toNat : Int)).toNat).toUInt8 = c := by simp
theorem cut_pc {gl : Fr} {l sep : Bs} {p : UInt8 → Bool} (hp : ∀ c, p c = true ↔ c ∈ sep) (hl : l.length ≤ 4611686018427387904) {R : ByteArray × ByteArray × Bool → Prop} (h : R (bl (cutAt p l).1, bl (cutAt p l).2.1, (cutAt p l).2.2)) :
    PC Tryz.prog gl 139 [Arg.mk .str (bl l), Arg.mk .str (bl sep)] [.str, .str, .bool] R := by
  apply pu_number_cut
  simp only [bl_size, bl_byteAt, bl_extract]
  refine ⟨fun i => ∃ k : Nat, i = k ∧ k ≤ l.length ∧ ∀ j (hj : j < l.length), j < k → p l[j] = false, fun i => l.length - i.toNat, ⟨0, rfl, by omega, fun j _ h => by omega⟩, ?_⟩
  rintro i ⟨k, rfl, hk, h2⟩
  refine ⟨fun hc => ?_, fun hc => ?_⟩
  · have hc' : k < l.length := by simpa using hc
    simp only [Int.toNat_natCast, getDlt hc']
    refine ⟨by omega, IndexByte_pc ?_⟩
    rw [u8toI, lb_bl]
    have hm := (indexByte_mem l[k] sep).2
    rw [wsucc hc' hl]
    refine ⟨fun hx => ⟨by omega, by omega, ?_⟩, fun hx => ⟨⟨k + 1, rfl, by omega, fun j hj hjk => ?_⟩, by simp; omega⟩⟩
    · have hpk : p l[k] = true := (hp _).2 (hm.1 (by simpa using hx))
      rw [cutAt_at hc' (fun j hj => h2 j (by omega) hj) hpk] at h
      simp only [Int.toNat_natCast, Int.toNat_zero, List.drop_zero, Nat.sub_zero]
      rw [List.take_of_length_le (l := l.drop (k + 1)) (by simp)]
      exact h
    · by_cases e : j = k
      · subst e
        cases hpj : p l[j] with
        | false => rfl
        | true => exact absurd (hm.2 ((hp _).1 hpj)) (by simpa using hx)
      · exact h2 j hj (by omega)
  · have hc' : ¬ k < l.length := by simpa using hc
    rw [cutAt_none (fun c hc2 => by
      obtain ⟨j, hj, rfl⟩ := List.getElem_of_mem hc2
      exact h2 j hj (by omega))] at h
    exact h
theorem CutPrefix1 {gl : Fr} {l : Bs} {c : UInt8} {R : ByteArray × Bool → Prop} (h : R (bl (if l.head? == some c then l.tail else l), l.head? == some c)) : PC Tryz.prog gl 138 [Arg.mk .str (bl l), Arg.mk .str (bl [c])] [.str, .bool] R := by
  refine CutPrefix_pc ?_
  rw [lb_bl, lb_bl, trimPrefix_one, hasPrefix_one]; exact h
theorem TrimPrefix1 {gl : Fr} {l : Bs} {c : UInt8} {R : ByteArray → Prop} (h : R (bl (if l.head? == some c then l.tail else l))) : PC Tryz.prog gl 140 [Arg.mk .str (bl l), Arg.mk .str (bl [c])] [.str] R := by
  refine TrimPrefix_pc ?_
  rw [lb_bl, lb_bl, trimPrefix_one]; exact h
theorem TrimLeft0 {gl : Fr} {l : Bs} {R : ByteArray → Prop} (h : R (bl (l.dropWhile (· == 48)))) : PC Tryz.prog gl 117 [Arg.mk .str (bl l), Arg.mk .str (bl [48])] [.str] R := by
  refine TrimLeft_pc (c := 48) (by decide) ?_
  rw [lb_bl]; exact h
theorem TrimRight0 {gl : Fr} {l : Bs} (hl : l.length ≤ 4611686018427387904) {R : ByteArray → Prop} (h : R (bl (l.reverse.dropWhile (· == 48)).reverse)) : PC Tryz.prog gl 118 [Arg.mk .str (bl l), Arg.mk .str (bl [48])] [.str] R := by
  refine TrimRight_pc (c := 48) (by decide) (by rw [bl_size]; omega) ?_
  rw [lb_bl]; exact h
theorem read_pc {gl : Fr} {s : Bs} (hs : s.length ≤ 4611686018427387904) {R : (Bool × Bool × ByteArray × ByteArray × ByteArray) × Bool → Prop}
    (h1 : litOk s = true → R (((litOf s).neg, (litOf s).low, bl (litOf s).whole, bl (litOf s).rest, bl (litOf s).exp), true)) (h2 : litOk s = false → ∀ a b c d e, R ((a, b, bl c, bl d, bl e), false)) :
    PC Tryz.prog gl 116 [Arg.mk .str (bl s)] [.pair .bool (.pair .bool (.pair .str (.pair .str .str))), .bool] R := by
  apply pu_number_read
  refine CutPrefix1 (c := 45) ?_
  dsimp only
  have hS : (litS s).length ≤ s.length := by unfold litS; split <;> simp
  have hM := cutAt_len2 isE (litS s)
  refine cut_pc (l := litS s) (sep := [101, 69]) (p := isE) (fun c => by simp [isE]) (by omega) ?_
  dsimp only
  have hM' : (litM s).1.length + (litM s).2.1.length ≤ (litS s).length := hM
  have tail : ∀ (e : Bs) (low : Bool), ((litM s).2.2 = true → digs (litE s) = true ∧ low = litLow s ∧ e = litE s) → ((litM s).2.2 = false → low = false ∧ e = []) →
      PC Tryz.prog gl 139 [Arg.mk .str (bl (litM s).1), Arg.mk .str (bl [46])] [.str, .str, .bool] (fun r_20 : ByteArray × ByteArray × Bool => PC Tryz.prog gl 114 [Arg.mk .str r_20.1] [.bool] (fun r_21 : Bool => ∃ J_22 : Bool → Prop, (((!(!r_21)) && r_20.2.2) = true → PC Tryz.prog gl 114 [Arg.mk .str r_20.2.1] [.bool] J_22) ∧
            ∀ r_23 : Bool, (((!(!r_21)) && r_20.2.2) = true → J_22 r_23) → ((bif (!r_21) then true else (bif r_20.2.2 then (!r_23) else false)) = true → R ((s.head? == some 45, (low, (r_20.1, (r_20.2.1, bl e)))), false)) ∧
            ((bif (!r_21) then true else (bif r_20.2.2 then (!r_23) else false)) = false → ((!((r_20.1 : ByteArray).toList == ((⟨#[48]⟩ : ByteArray) : ByteArray).toList)) = true → (0 ≤ (0 : Int) ∧ (0 : Int) < ((r_20.1).size : Int))) ∧
              R ((s.head? == some 45, (low, (r_20.1, (r_20.2.1, bl e)))), bif ((r_20.1 : ByteArray).toList == ((⟨#[48]⟩ : ByteArray) : ByteArray).toList) then true else ((byteAt r_20.1 (0 : Int).toNat : Int) != 48))))) := by
    intro e low k1 k2
    have hok : (!(litM s).2.2 || digs (litE s)) = true ∧ litLow s = low ∧ (if (litM s).2.2 then litE s else []) = e := by
      cases hm : (litM s).2.2 with
      | true => obtain ⟨a, b, c⟩ := k1 hm; exact ⟨by simp [a], b.symm, by simp [c]⟩
      | false => obtain ⟨a, b⟩ := k2 hm; exact ⟨rfl, by unfold litLow; rw [hm, a]; rfl, by simp [b]⟩
    refine cut_pc (l := (litM s).1) (sep := [46]) (p := isDot) (fun c => by simp [isDot]) (by omega) ?_
    refine digits_pc ⟨fun x => digs (litW s).2.1 = x, fun _ => digits_pc rfl, fun y hy => ?_⟩
    dsimp only
    simp only [show (⟨#[48]⟩ : ByteArray) = bl [48] from rfl, bl_eq, bl_size, bl_byteAt]
    change (_ → digs (litW s).2.1 = y) at hy
    show ((bif (!digs (litW s).1) then true else (bif (litW s).2.2 then (!y) else false)) = true → R ((s.head? == some 45, (low, (bl (litW s).1, (bl (litW s).2.1, bl e)))), false)) ∧
            ((bif (!digs (litW s).1) then true else (bif (litW s).2.2 then (!y) else false)) = false → ((!decide ((litW s).1 = [48])) = true → (0 ≤ (0 : Int) ∧ (0 : Int) < ((litW s).1.length : Int))) ∧
              R ((s.head? == some 45, (low, (bl (litW s).1, (bl (litW s).2.1, bl e)))), bif decide ((litW s).1 = [48]) then true else (((((litW s).1[(0 : Int).toNat]?).getD 0).toNat : Int) != 48)))
    have hy' : digs (litW s).1 = true → (litW s).2.2 = true → digs (litW s).2.1 = y := fun a b => hy (by
      show ((!(!digs (litW s).1)) && (litW s).2.2) = true
      rw [a, b]; rfl)
    refine ⟨fun hx => h2 ?_ _ _ _ _ _, fun hx => ⟨fun _ => ?_, ?_⟩⟩
    · unfold litOk
      cases hd : digs (litW s).1 with
      | false => simp
      | true =>
        rw [hd] at hx
        cases hw : (litW s).2.2 with
        | false => rw [hw] at hx; simp at hx
        | true =>
          rw [hw] at hx
          have := hy' hd hw
          rw [this]
          simp at hx; simp [hx]
    all_goals
      have hd : digs (litW s).1 = true := by
        cases hd : digs (litW s).1 with
        | true => rfl
        | false => rw [hd] at hx; simp at hx
      have hp := digs_pos hd
    · omega
    · have h3 : (!(litW s).2.2 || digs (litW s).2.1) = true := by
        cases hw : (litW s).2.2 with
        | false => rfl
        | true =>
          rw [hd, hw] at hx
          have := hy' hd hw
          rw [this]; simpa using hx
      have h4 : (bif decide ((litW s).1 = [48]) then true else (((((litW s).1[(0 : Int).toNat]?).getD 0).toNat : Int) != 48)) = ((litW s).1 == [48] || (litW s).1.head? != some 48) := by
        rw [show (0 : Int).toNat = 0 from rfl, head_idx hp, Bool.cond_true_left, Bool.eq_iff_iff]; simp
      have hlit : litOk s = ((litW s).1 == [48] || (litW s).1.head? != some 48) := by
        unfold litOk; rw [hok.1, hd, h3]; simp
      rw [h4]
      cases ho : ((litW s).1 == [48] || (litW s).1.head? != some 48) with
      | true =>
        have := h1 (hlit.trans ho)
        unfold litOf at this
        rw [hok.2.1, hok.2.2] at this
        exact this
      | false => exact h2 (hlit.trans ho) _ _ _ _ _
  intro K hK
  refine ⟨fun hm => ?_, fun hm => ?_⟩
  · have hm' : (litM s).2.2 = true := hm
    refine CutPrefix1 (c := 45) (l := (litM s).2.1) ?_
    dsimp only
    intro K2 hK2
    have step : ∀ low e, low = litLow s → e = litE s → K2 (bl e) (s.head? == some 45) low (bl []) (bl []) (bl []) := by
      intro low e he1 he2
      refine hK2 _ _ _ _ _ _ (digits_pc ⟨fun hx => ?_, fun hx => ?_⟩)
      · refine h2 ?_ _ _ [] [] []
        unfold litOk; rw [hm', ← he2]
        have : digs e = false := by simpa using hx
        rw [this]; rfl
      · refine hK _ _ _ _ _ _ (tail e low (fun _ => ⟨by rw [← he2]; simpa using hx, he1, he2⟩) fun h => by rw [hm'] at h; cases h)
    have hlow : litLow s = ((litM s).2.1.head? == some 45) := by unfold litLow; rw [hm']; rfl
    refine ⟨fun hx => ?_, fun hx => ?_⟩
    · have hx' : ((litM s).2.1.head? == some 45) = false := by simpa using hx
      rw [hx']
      refine TrimPrefix1 (c := 43) ?_
      simp only [Bool.false_eq_true, if_false]
      refine step false _ (by rw [hlow, hx']) ?_
      unfold litE; rw [hlow, hx']; simp
    · have hx' : ((litM s).2.1.head? == some 45) = true := by simpa using hx
      rw [hx']
      simp only [if_true]
      refine step true _ (by rw [hlow, hx']) ?_
      unfold litE; rw [hlow, hx']; simp
  · have hm' : (litM s).2.2 = false := hm
    have he : (litM s).2.1 = [] := (cutAt_miss hm').2
    have := tail [] false (fun h => by rw [hm'] at h; cases h) fun _ => ⟨rfl, rfl⟩
    show K (bl (litM s).2.1) _ _ _ _ _
    rw [he]
    exact hK _ _ _ _ _ _ this
theorem joinI4 {α β γ δ : Type} {B : α → β → γ → δ → Prop} {c : Bool} {a b : α} {x : β} {y : γ} {z : δ} (h : ∀ e, e = (bif c then a else b) → B e x y z) : ∀ K : α → β → γ → δ → Prop, (∀ e x y z, B e x y z → K e x y z) → (c = true → K a x y z) ∧ (c = false → K b x y z) :=
  fun K hK => ⟨fun hc => hK _ _ _ _ (h _ (by subst hc; rfl)), fun hc => hK _ _ _ _ (h _ (by subst hc; rfl))⟩
theorem w64 {n : Int} (h : -4611686018427387904 ≤ n ∧ n ≤ 4611686018427387904) : IntKind.wrap .i64 n = n := wrap64 (by omega) (by omega)
set_option maxHeartbeats 1000000 in
theorem parse_pc {gl : Fr} {s : Bs} (hs : s.length ≤ 1152921504606846976) {R : (Bool × ByteArray × Int) × Int → Prop} (h : R (nmB (numParse s).1, (numParse s).2)) : PC Tryz.prog gl 82 [Arg.mk .str (bl s)] [tN, .int .i64] R := by
  apply pu_number_Parse
  refine read_pc (by omega) (fun hok => ?_) (fun hok a b c d e => ?_)
  rotate_left
  · refine TrimLeft0 ⟨fun _ => ?_, fun hx => by cases hx⟩
    have : numLit s = none := by unfold numLit; simp [hok]
    unfold numParse at h
    rw [this] at h; exact h
  · have hlit : numLit s = some (litOf s) := by unfold numLit; simp [hok]
    have hlen := numLit_len hlit
    obtain ⟨d1, d2, d3⟩ := numLit_digs hlit
    unfold numParse at h
    rw [hlit] at h
    simp only at h
    generalize litOf s = x at *
    refine TrimLeft0 ⟨fun hx => (by cases hx), fun _ => ?_⟩
    simp only [bl_size]
    rw [w64 (by omega)]
    refine ⟨fun hx => ?_, fun hx => ?_⟩
    · rw [if_pos (by simp at hx; omega)] at h; exact h
    · rw [if_neg (by simp at hx; omega)] at h
      refine ⟨fun hx2 => ?_, fun hx2 => ?_⟩
      · rw [if_pos (by simp at hx2; omega)] at h; exact h
      · rw [if_neg (by simp at hx2; omega)] at h
        have hx' : x.whole.length + x.rest.length ≤ 1000 := by simp at hx; omega
        have hex : x.exp.all isDig = true := d3
        generalize hE : x.exp.dropWhile (· == 48) = E at *
        have hEd : E.all isDig = true := by rw [← hE]; exact dropWhile_all d3
        have hEl : E.length ≤ 9 := by simp at hx2; omega
        have hEv : decVal E < 10 ^ 9 := decVal_le hEl hEd
        refine ⟨fun e _ _ _ p => p.1 = bl E ∧ p.2 ≤ E.length ∧ e = (decVal (E.take p.2) : Int), fun _ _ _ _ p => E.length - p.2, ⟨rfl, by omega, by simp [decVal]⟩, ?_⟩
        rintro e b1 b2 b3 ⟨_, p⟩ ⟨rfl, hp, rfl⟩
        simp only at hp ⊢
        rw [nxB_bl, nxR_bl]
        refine ⟨fun hc => ⟨hc, ?_⟩, fun hc => ?_⟩
        · have hc' : p < E.length := by simpa using hc
          have hd := dig_at hEd hc'
          have hdr : E.drop p = E[p] :: E.drop (p + 1) := List.drop_eq_getElem_cons hc'
          rw [nxP_bl E p hc', hdr, dec_ascii (by omega)]
          have hle := decVal_le (n := 9) (l := E.take p) (by simp; omega) (all_take hEd p)
          rw [wrap32' (by omega) (by omega), w64 (n := 10 * _) (by omega), w64 (n := (_ : Int) - 48) (by omega), w64 (by omega)]
          simp only
          refine ⟨⟨trivial, by omega, ?_⟩, by omega⟩
          rw [decVal_take hc']; omega
        · have hc' : ¬ p < E.length := by simpa using hc
          have hpe : p = E.length := by omega
          subst hpe
          rw [List.take_length]
          apply joinI4
          intro e7 he7
          refine ⟨by unfold fits63; omega, ?_⟩
          rw [bl_append]
          refine TrimLeft0 ?_
          rw [show (⟨#[]⟩ : ByteArray) = bl [] from rfl]
          simp only [bl_eq]
          have hD : (x.whole ++ x.rest).all isDig = true := by rw [List.all_append, digs_all d1, d2]; rfl
          refine ⟨fun hx3 => ?_, fun hx3 => ?_⟩
          · rw [if_pos (by simpa using hx3)] at h; exact h
          · have hne : (x.whole ++ x.rest).dropWhile (· == 48) ≠ [] := by simpa using hx3
            rw [if_neg hne] at h
            have hdl := dropWhile_len (x.whole ++ x.rest) (· == 48)
            rw [List.length_append] at hdl
            refine TrimRight0 (by omega) ?_
            have hsl := (shortOf_facts hD hne).2.1
            have hsr := shortRight hD hne (by rw [List.length_append]; exact hx')
            simp only [bl_size, show ((List.dropWhile (fun x => x == 48) (x.whole ++ x.rest)).reverse.dropWhile (fun x => x == 48)).reverse = shortOf (x.whole ++ x.rest) from rfl]
            have hev : e7 = if x.low then - (decVal E : Int) else (decVal E : Int) := by rw [he7]; cases x.low <;> simp; exact w64 (by omega)
            have hb : -1000000000 ≤ e7 ∧ e7 ≤ 1000000000 := by rw [hev]; split <;> omega
            rw [w64 (n := e7 - _) (by omega), w64 (n := e7 - _ + _) (by omega), w64 (by omega)]
            refine right_pc (n := (x.neg, shortOf (x.whole ++ x.rest), e7 - (x.rest.length : Int) + (((x.whole ++ x.rest).dropWhile (· == 48)).length : Int) - ((shortOf (x.whole ++ x.rest)).length : Int))) (by simp only; omega) ?_
            rw [hsr]
            change R (nmB (if -1000000 ≤ (if x.low = true then - (decVal E : Int) else (decVal E : Int)) - (x.rest.length : Int) + (((x.whole ++ x.rest).dropWhile (· == 48)).length : Int) - ((shortOf (x.whole ++ x.rest)).length : Int) ∧ (if x.low = true then - (decVal E : Int) else (decVal E : Int)) - (x.rest.length : Int) + (((x.whole ++ x.rest).dropWhile (· == 48)).length : Int) - ((shortOf (x.whole ++ x.rest)).length : Int) ≤ 1000000 then ((x.neg, shortOf (x.whole ++ x.rest), (if x.low = true then - (decVal E : Int) else (decVal E : Int)) - (x.rest.length : Int) + (((x.whole ++ x.rest).dropWhile (· == 48)).length : Int) - ((shortOf (x.whole ++ x.rest)).length : Int)), 0) else ((false, [], 0), 4)).1, _) at h
            rw [← hev] at h
            refine ⟨fun hx4 => ?_, fun hx4 => ?_⟩
            · rw [if_neg (by simp at hx4; omega)] at h; exact h
            · rw [if_pos (by simp at hx4; omega)] at h; exact h
end Go.Proofs.YtaoceiiakcpbaaaGreatDoor
end
section
namespace Go.Proofs.YtaoceiiakcpbaaaGreatDoor
open Go Go.X Go.Proofs
set_option linter.unusedVariables false
theorem fits2 {a b : Bs} (h : a.length + b.length ≤ 4611686018427387904) : fits63 ((bl a).size + (bl b).size) := by
  unfold fits63; rw [bl_size, bl_size]; omega
theorem text_pc {gl : Fr} (hg : Pow gl) {n : Nm} (hn : n.2.1.length ≤ 4611686018427387904) {R : ByteArray → Prop} (h : R (bl (nmText n))) : PC Tryz.prog gl 55 [Arg.mk tN (nmB n)] [.str] R := by
  apply pu_number_Text
  refine right_pc hn ⟨fun hx => ?_, fun hx => ?_⟩
  · have : nmRight n = false := by simpa using hx
    have e : nmText n = [] := by unfold nmText; simp [this]
    rw [e] at h; exact h
  · have hr : nmRight n = true := by simpa using hx
    obtain ⟨hl, he1, he2⟩ := nmRight_len hr
    unfold nmText at h
    rw [if_pos hr] at h
    simp only [show (⟨#[]⟩ : ByteArray) = bl [] from rfl, bl_eq]
    refine ⟨fun hx2 => ?_, fun hx2 => ?_⟩
    · rw [if_pos (by simpa using hx2)] at h; exact h
    · rw [if_neg (by simpa using hx2)] at h
      intro K hK
      have key : ∀ t : Bs, t = (if n.1 then [45] else []) ++ n.2.1 → K (bl t) := by
        intro t ht
        have htl : t.length ≤ 1001 := by rw [ht]; split <;> simp <;> omega
        rw [← ht] at h
        refine hK _ ⟨fun hx3 => ?_, fun hx3 => ?_⟩
        · rw [if_neg (by simpa using hx3)] at h
          have hil := Go.X.itoa_len n.2.2
          refine Itoa_pc hg (by omega) (by omega) ?_
          refine ⟨fits2 (a := [101]) (by simp; omega), ?_⟩
          rw [show (⟨#[101]⟩ : ByteArray) = bl [101] from rfl, bl_append, bl_append]
          exact ⟨fits2 (by simp; omega), h⟩
        · rw [if_pos (by simpa using hx3), List.append_nil] at h; exact h
      refine ⟨fun hx3 => ⟨fits2 (a := [45]) (by simp; omega), ?_⟩, fun hx3 => ?_⟩
      · rw [show (⟨#[45]⟩ : ByteArray) = bl [45] from rfl, bl_append]
        exact key _ (by rw [if_pos (by simpa using hx3)])
      · exact key _ (by rw [if_neg (by simpa using hx3)]; rfl)
theorem of_pc {gl : Fr} (hg : Pow gl) {n : Int} (h1 : -9223372036854775808 ≤ n) (h2 : n ≤ 9223372036854775807) {R : Bool × ByteArray × Int → Prop} (h : R (nmB (numParse (Lib.itoa n)).1)) : PC Tryz.prog gl 56 [Arg.mk (.int .i64) n] [tN] R := by
  apply pu_number_Of
  refine Itoa_pc hg h1 h2 (parse_pc ?_ h)
  have := Go.X.itoa_len n
  have h20 : ∀ u : Nat, u < 10 ^ 20 → (Lib.decDigits u).length ≤ 20 := by
    have : ∀ (k u : Nat), u < 10 ^ (k + 1) → (Lib.decDigits u).length ≤ k + 1 := by
      intro k
      induction k with
      | zero => intro u hu; rw [Lib.decDigits, dif_pos (by simpa using hu)]; simp
      | succ k ih =>
        intro u hu
        rw [Lib.decDigits]
        split
        · simp
        · have := ih (u / 10) (by rw [Nat.pow_succ] at hu; omega)
          simp; omega
    exact this 19
  have : (Lib.itoa n).length ≤ 21 := by
    unfold Lib.itoa
    split
    · have := h20 n.natAbs (by omega); simp; omega
    · have := h20 n.toNat (by omega); omega
  omega
end Go.Proofs.YtaoceiiakcpbaaaGreatDoor
end
section
namespace Go.Proofs.YtaoceiiakcpbaaaGreatDoor
open Go Go.X Go.Proofs
set_option linter.unusedVariables false
theorem bne_byte {c : UInt8} {n : Int} (d : UInt8) (hn : n = (d.toNat : Int)) : ((c.toNat : Int) != n) = !(c == d) := by
  subst hn
  rw [Bool.eq_iff_iff]
  simp only [bne_iff_ne, ne_eq, Int.natCast_inj, Bool.not_eq_true', beq_eq_false_iff_ne]
  exact ⟨fun h e => h (by rw [e]), fun h e => h (UInt8.toNat_inj.1 e)⟩
end Go.Proofs.YtaoceiiakcpbaaaGreatDoor
end
section
namespace Go.X
open Go Go.Lib
set_option linter.unusedVariables false
theorem foldl_dec (l : Bs) (a : Nat) : l.foldl (fun n c => 10 * n + (c.toNat - 48)) a = a * 10 ^ l.length + decVal l := by
  induction l generalizing a with
  | nil => simp [decVal]
  | cons c t ih =>
    simp only [List.foldl_cons, List.length_cons, decVal]
    rw [ih, ih (10 * 0 + (c.toNat - 48)), Nat.pow_succ]
    have : (10 * a + (c.toNat - 48)) * 10 ^ t.length = a * (10 ^ t.length * 10) + (c.toNat - 48) * 10 ^ t.length := by
      rw [Nat.add_mul, Nat.mul_comm 10 a, Nat.mul_assoc, Nat.mul_comm 10 (10 ^ t.length)]
    rw [this]; simp; omega
theorem decVal_append (a b : Bs) : decVal (a ++ b) = decVal a * 10 ^ b.length + decVal b := by
  rw [decVal, List.foldl_append, foldl_dec]; rfl
theorem decVal_zeros (n : Nat) : decVal (List.replicate n 48) = 0 := by
  induction n with
  | zero => rfl
  | succ n ih => rw [List.replicate_succ]; exact ih
theorem parseM_ok : ∀ (l : Bs) (acc : Nat), l.all isDig = true → acc * 10 ^ l.length + decVal l < 10 ^ 19 → parseUintM (2 ^ 64 - 1) acc l = .ok (acc * 10 ^ l.length + decVal l)
  | [], acc, _, _ => by simp [parseUintM, decVal]
  | c :: t, acc, hd, hl => by
    rw [List.all_cons, Bool.and_eq_true] at hd
    have hc : 48 ≤ c.toNat ∧ c.toNat ≤ 57 := by simpa [isDig] using hd.1
    have e : decVal (c :: t) = (c.toNat - 48) * 10 ^ t.length + decVal t := by
      have := decVal_append [c] t
      rw [List.singleton_append] at this
      rw [this]; simp [decVal]
    have e2 : (acc * 10 + (c.toNat - 48)) * 10 ^ t.length + decVal t = acc * 10 ^ (c :: t).length + decVal (c :: t) := by
      rw [e, List.length_cons, Nat.pow_succ, Nat.add_mul, Nat.mul_assoc, Nat.mul_comm 10 (10 ^ t.length)]; omega
    have hp : 1 ≤ 10 ^ t.length := Nat.one_le_pow _ _ (by decide)
    have hb : acc * 10 + (c.toNat - 48) ≤ acc * 10 ^ (c :: t).length + decVal (c :: t) := by
      rw [← e2]
      calc acc * 10 + (c.toNat - 48) = (acc * 10 + (c.toNat - 48)) * 1 := by omega
        _ ≤ (acc * 10 + (c.toNat - 48)) * 10 ^ t.length := Nat.mul_le_mul_left _ hp
        _ ≤ _ := by omega
    rw [parseUintM, if_pos hc, if_neg (by omega), if_neg (by omega), parseM_ok t _ hd.2 (by rw [e2]; exact hl), e2]
def intDig (n : Nm) : Bs := n.2.1 ++ List.replicate n.2.2.toNat 48
theorem intDig_val (n : Nm) : decVal (intDig n) = decVal n.2.1 * 10 ^ n.2.2.toNat := by
  rw [intDig, decVal_append, decVal_zeros, List.length_replicate, Nat.add_zero]
theorem nmRight_all {n : Nm} (h : nmRight n = true) : n.2.1.all isDig = true := by
  unfold nmRight nought at h
  rcases Bool.or_eq_true _ _ ▸ h with h | h
  · simp at h; rw [h.2.1]; rfl
  · simp only [Bool.and_eq_true] at h; exact digs_all h.1.1.1.1.1
theorem intDig_all {n : Nm} (h : nmRight n = true) : (intDig n).all isDig = true := by
  rw [intDig, List.all_append, nmRight_all h, Bool.true_and, List.all_eq_true]
  intro x hx
  rw [List.mem_replicate] at hx
  rw [hx.2]; rfl
theorem parse_int {l : Bs} (neg : Bool) (hd : l.all isDig = true) (hl : l.length ≤ 19) (hne : l ≠ []) :
    parseIntB 64 ((if neg then [45] else []) ++ l) = if neg then (if decVal l ≤ 9223372036854775808 then .ok (-(decVal l : Int)) else .range) else (if decVal l ≤ 9223372036854775807 then .ok (decVal l : Int) else .range) := by
  have hv : decVal l < 10 ^ 19 := decVal_le hl hd
  have hp := parseM_ok l 0 hd (by rw [Nat.zero_mul]; omega)
  rw [Nat.zero_mul, Nat.zero_add] at hp
  cases neg with
  | true =>
    simp only [if_true, List.singleton_append]
    unfold parseIntB
    simp only [show (45 : UInt8).toNat = 45 from rfl, or_true, if_true]
    unfold parseUintB
    rw [if_neg hne, hp]
    simp only [not_true_eq_false, false_and, if_false, true_and]
    split
    · rename_i h; rw [if_neg (by omega)]
    · rename_i h; rw [if_pos (by omega)]
  | false =>
    simp only [Bool.false_eq_true, if_false, List.nil_append]
    obtain ⟨c, t, rfl⟩ := List.exists_cons_of_ne_nil hne
    have hc : 48 ≤ c.toNat ∧ c.toNat ≤ 57 := by
      rw [List.all_cons, Bool.and_eq_true] at hd
      simpa [isDig] using hd.1
    unfold parseIntB
    simp only
    rw [if_neg (by omega)]
    unfold parseUintB
    rw [if_neg (by simp), hp]
    have h45 : ¬ c.toNat = 45 := by omega
    simp only [h45, not_false_eq_true, true_and, false_and, if_false]
    split
    · rename_i h; rw [if_neg (by omega)]
    · rename_i h; rw [if_pos (by omega)]
theorem or64 {a b : Nat} (ha : a < 18446744073709551616) (hb : b < 18446744073709551616) : IntKind.wrap .u64 (((BitVec.ofInt (IntKind.bits .u64) (a : Int)) ||| (BitVec.ofInt (IntKind.bits .u64) (b : Int))).toNat : Int) = ((a ||| b : Nat) : Int) := by
  have hbits : IntKind.bits .u64 = 64 := rfl
  have e : ((BitVec.ofInt (IntKind.bits .u64) (a : Int)) ||| (BitVec.ofInt (IntKind.bits .u64) (b : Int))).toNat = a ||| b := by
    rw [BitVec.toNat_or, BitVec.ofInt_natCast, BitVec.ofInt_natCast, BitVec.toNat_ofNat, BitVec.toNat_ofNat, hbits, Nat.mod_eq_of_lt (by omega), Nat.mod_eq_of_lt (by omega)]
  rw [e]
  have hlt : a ||| b < 2 ^ 64 := Nat.or_lt_two_pow (by omega) (by omega)
  unfold IntKind.wrap
  have e1 : (2 : Int) ^ IntKind.bits .u64 = 18446744073709551616 := by decide
  simp only [e1]
  have hs : IntKind.signed .u64 = false := rfl
  simp only [hs, Bool.false_and, Bool.false_eq_true, if_false]
  omega
theorem and64 {a b : Nat} (ha : a < 18446744073709551616) (hb : b < 18446744073709551616) : IntKind.wrap .u64 (((BitVec.ofInt (IntKind.bits .u64) (a : Int)) &&& (BitVec.ofInt (IntKind.bits .u64) (b : Int))).toNat : Int) = ((a &&& b : Nat) : Int) := by
  have hbits : IntKind.bits .u64 = 64 := rfl
  have e : ((BitVec.ofInt (IntKind.bits .u64) (a : Int)) &&& (BitVec.ofInt (IntKind.bits .u64) (b : Int))).toNat = a &&& b := by
    rw [BitVec.toNat_and, BitVec.ofInt_natCast, BitVec.ofInt_natCast, BitVec.toNat_ofNat, BitVec.toNat_ofNat, hbits, Nat.mod_eq_of_lt (by omega), Nat.mod_eq_of_lt (by omega)]
  rw [e]
  have hlt : a &&& b < 2 ^ 64 := Nat.and_lt_two_pow _ (by omega)
  unfold IntKind.wrap
  have e1 : (2 : Int) ^ IntKind.bits .u64 = 18446744073709551616 := by decide
  simp only [e1]
  have hs : IntKind.signed .u64 = false := rfl
  simp only [hs, Bool.false_and, Bool.false_eq_true, if_false]
  omega
theorem wrapu64 {n : Int} (h1 : 0 ≤ n) (h2 : n < 18446744073709551616) : IntKind.wrap .u64 n = n := by
  unfold IntKind.wrap
  have e1 : (2 : Int) ^ IntKind.bits .u64 = 18446744073709551616 := by decide
  simp only [e1]
  have hs : IntKind.signed .u64 = false := rfl
  simp only [hs, Bool.false_and, Bool.false_eq_true, if_false]
  omega
theorem u8_bit7 {n : Nat} (h : n < 256) : n.testBit 7 = false ↔ n < 128 := by
  rw [Nat.testBit_eq_decide_div_mod_eq]
  simp; omega
def MASK : Nat := 9259542123273814144
theorem mask_bit : ∀ i, i < 8 → MASK.testBit (8 * i + 7) = true := by decide
theorem and_mask {w : Nat} (h : w &&& MASK = 0) : ∀ i, i < 8 → w.testBit (8 * i + 7) = false := by
  intro i hi
  have := congrArg (fun x => x.testBit (8 * i + 7)) h
  simp only [Nat.testBit_and, mask_bit i hi, Bool.and_true, Nat.zero_testBit] at this
  exact this
def word8 (b0 b1 b2 b3 b4 b5 b6 b7 : Nat) : Nat := ((((((b0 ||| b1 * 2 ^ 8) ||| b2 * 2 ^ 16) ||| b3 * 2 ^ 24) ||| b4 * 2 ^ 32) ||| b5 * 2 ^ 40) ||| b6 * 2 ^ 48) ||| b7 * 2 ^ 56
theorem mulbit (b k j : Nat) : (b * 2 ^ k).testBit j = (decide (k ≤ j) && b.testBit (j - k)) := by
  rw [Nat.testBit_mul_two_pow]
theorem word8_bits {b0 b1 b2 b3 b4 b5 b6 b7 : Nat} {j : Nat} : (word8 b0 b1 b2 b3 b4 b5 b6 b7).testBit j = (b0.testBit j || (decide (8 ≤ j) && b1.testBit (j - 8)) || (decide (16 ≤ j) && b2.testBit (j - 16)) || (decide (24 ≤ j) && b3.testBit (j - 24)) || (decide (32 ≤ j) && b4.testBit (j - 32)) || (decide (40 ≤ j) && b5.testBit (j - 40)) || (decide (48 ≤ j) && b6.testBit (j - 48)) || (decide (56 ≤ j) && b7.testBit (j - 56))) := by
  unfold word8
  simp only [Nat.testBit_or, mulbit]
theorem word8_small {b0 b1 b2 b3 b4 b5 b6 b7 : Nat} (h : ∀ i, i < 8 → (word8 b0 b1 b2 b3 b4 b5 b6 b7).testBit (8 * i + 7) = false) (r0 : b0 < 256) (r1 : b1 < 256) (r2 : b2 < 256) (r3 : b3 < 256) (r4 : b4 < 256) (r5 : b5 < 256) (r6 : b6 < 256) (r7 : b7 < 256) :
    b0 < 128 ∧ b1 < 128 ∧ b2 < 128 ∧ b3 < 128 ∧ b4 < 128 ∧ b5 < 128 ∧ b6 < 128 ∧ b7 < 128 := by
  have h0 := h 0 (by decide); have h1 := h 1 (by decide); have h2 := h 2 (by decide); have h3 := h 3 (by decide)
  have h4 := h 4 (by decide); have h5 := h 5 (by decide); have h6 := h 6 (by decide); have h7 := h 7 (by decide)
  rw [word8_bits] at h0 h1 h2 h3 h4 h5 h6 h7
  simp only [Bool.or_eq_false_iff, Bool.and_eq_false_iff] at h0 h1 h2 h3 h4 h5 h6 h7
  refine ⟨(u8_bit7 r0).1 ?_, (u8_bit7 r1).1 ?_, (u8_bit7 r2).1 ?_, (u8_bit7 r3).1 ?_, (u8_bit7 r4).1 ?_, (u8_bit7 r5).1 ?_, (u8_bit7 r6).1 ?_, (u8_bit7 r7).1 ?_⟩
  · exact h0.1.1.1.1.1.1.1
  · rcases h1.1.1.1.1.1.1.2 with h | h
    · simp at h
    · simpa using h
  · rcases h2.1.1.1.1.1.2 with h | h
    · simp at h
    · simpa using h
  · rcases h3.1.1.1.1.2 with h | h
    · simp at h
    · simpa using h
  · rcases h4.1.1.1.2 with h | h
    · simp at h
    · simpa using h
  · rcases h5.1.1.2 with h | h
    · simp at h
    · simpa using h
  · rcases h6.1.2 with h | h
    · simp at h
    · simpa using h
  · rcases h7.2 with h | h
    · simp at h
    · simpa using h
theorem u8ok_ascii_n {l : Bs} : ∀ {n : Nat}, n ≤ l.length → (∀ i (hi : i < l.length), i < n → l[i].toNat < 128) → u8ok l = u8ok (l.drop n)
  | 0, _, _ => by simp
  | n + 1, hn, h => by
    rw [u8ok_ascii_n (n := n) (by omega) (fun i hi hi2 => h i hi (by omega))]
    rw [List.drop_eq_getElem_cons (show n < l.length by omega), u8ok_ascii (h n (by omega) (by omega))]
end Go.X
end
section
namespace Go.Proofs.YtaoceiiakcpbaaaGreatDoor
open Go Go.X Go.Proofs
set_option linter.unusedVariables false
def bN (l : Bs) (i : Nat) : Nat := (l[i]?.getD 0).toNat
theorem bN_lt (l : Bs) (i : Nat) : bN l i < 256 := (l[i]?.getD 0).toNat_lt
theorem bl_byteN (l : Bs) (i : Nat) : byteAt (bl l) i = ((bN l i : Nat) : Int) := bl_byteAt l i
def wordN (l : Bs) : Nat := word8 (bN l 0) (bN l 1) (bN l 2) (bN l 3) (bN l 4) (bN l 5) (bN l 6) (bN l 7)
theorem wordN_lt (l : Bs) : wordN l < 18446744073709551616 := by
  have h := bN_lt l
  have o : ∀ a b : Nat, a < 2 ^ 64 → b < 2 ^ 64 → a ||| b < 2 ^ 64 := fun a b ha hb => Nat.or_lt_two_pow ha hb
  show _ < 2 ^ 64
  unfold wordN word8
  refine o _ _ (o _ _ (o _ _ (o _ _ (o _ _ (o _ _ (o _ _ ?_ ?_) ?_) ?_) ?_) ?_) ?_) ?_
  · have := h 0; omega
  · have := h 1; omega
  · have := h 2; omega
  · have := h 3; omega
  · have := h 4; omega
  · have := h 5; omega
  · have := h 6; omega
  · have := h 7; omega
theorem mulcast (a k : Nat) (c : Int) (hc : c = ((2 ^ k : Nat) : Int)) : (a : Int) * c = ((a * 2 ^ k : Nat) : Int) := by rw [hc]; omega
theorem word_pc {gl : Fr} {l : Bs} (hl : 8 ≤ l.length) {R : Int → Prop} (h : R (wordN l : Int)) : PC Tryz.prog gl 121 [Arg.mk .str (bl l)] [.int .u64] R := by
  apply pu_unicode_utf8_word_string
  refine ⟨fun hx => (by cases hx), fun _ => ?_⟩
  simp only [bl_size, bl_byteN, show (0 : Int).toNat = 0 from rfl, show (1 : Int).toNat = 1 from rfl, show (2 : Int).toNat = 2 from rfl, show (3 : Int).toNat = 3 from rfl, show (4 : Int).toNat = 4 from rfl, show (5 : Int).toNat = 5 from rfl, show (6 : Int).toNat = 6 from rfl, show (7 : Int).toNat = 7 from rfl]
  refine ⟨by omega, by omega, by omega, by omega, by omega, by omega, by omega, by omega, ?_⟩
  have r := bN_lt l
  have r0 := r 0; have r1 := r 1; have r2 := r 2; have r3 := r 3; have r4 := r 4; have r5 := r 5; have r6 := r 6; have r7 := r 7
  have m1 := mulcast (bN l 1) 8 (2 ^ 8) (by decide); have m2 := mulcast (bN l 2) 16 (2 ^ 16) (by decide); have m3 := mulcast (bN l 3) 24 (2 ^ 24) (by decide); have m4 := mulcast (bN l 4) 32 (2 ^ 32) (by decide)
  have m5 := mulcast (bN l 5) 40 (2 ^ 40) (by decide); have m6 := mulcast (bN l 6) 48 (2 ^ 48) (by decide); have m7 := mulcast (bN l 7) 56 (2 ^ 56) (by decide)
  have o : ∀ a b : Nat, a < 18446744073709551616 → b < 18446744073709551616 → a ||| b < 18446744073709551616 := fun a b ha hb => Nat.or_lt_two_pow (n := 64) ha hb
  have w : ∀ n : Nat, n < 18446744073709551616 → IntKind.wrap .u64 (n : Int) = (n : Int) := fun n hn => wrapu64 (by omega) (by omega)
  rw [w (bN l 0) (by omega), w (bN l 1) (by omega), w (bN l 2) (by omega), w (bN l 3) (by omega), w (bN l 4) (by omega), w (bN l 5) (by omega), w (bN l 6) (by omega), w (bN l 7) (by omega), m1, m2, m3, m4, m5, m6, m7]
  rw [w (bN l 1 * 2 ^ 8) (by omega), w (bN l 2 * 2 ^ 16) (by omega), w (bN l 3 * 2 ^ 24) (by omega), w (bN l 4 * 2 ^ 32) (by omega), w (bN l 5 * 2 ^ 40) (by omega), w (bN l 6 * 2 ^ 48) (by omega), w (bN l 7 * 2 ^ 56) (by omega)]
  have q1 : bN l 0 ||| bN l 1 * 2 ^ 8 < 18446744073709551616 := o _ _ (by omega) (by omega)
  have q2 := o _ (bN l 2 * 2 ^ 16) q1 (by omega)
  have q3 := o _ (bN l 3 * 2 ^ 24) q2 (by omega)
  have q4 := o _ (bN l 4 * 2 ^ 32) q3 (by omega)
  have q5 := o _ (bN l 5 * 2 ^ 40) q4 (by omega)
  have q6 := o _ (bN l 6 * 2 ^ 48) q5 (by omega)
  rw [or64 (by omega) (by omega), or64 q1 (by omega), or64 q2 (by omega), or64 q3 (by omega), or64 q4 (by omega), or64 q5 (by omega), or64 q6 (by omega)]
  exact h
theorem word_clear {l : Bs} (hl : 8 ≤ l.length) (h : wordN l &&& MASK = 0) : u8ok l = u8ok (l.drop 8) := by
  have hs := word8_small (and_mask h) (bN_lt l 0) (bN_lt l 1) (bN_lt l 2) (bN_lt l 3) (bN_lt l 4) (bN_lt l 5) (bN_lt l 6) (bN_lt l 7)
  refine u8ok_ascii_n hl fun i hi hi8 => ?_
  have e : ∀ j (hj : j < l.length), bN l j = l[j].toNat := fun j hj => by unfold bN; rw [getDlt hj]
  obtain ⟨s0, s1, s2, s3, s4, s5, s6, s7⟩ := hs
  have hi' : i = 0 ∨ i = 1 ∨ i = 2 ∨ i = 3 ∨ i = 4 ∨ i = 5 ∨ i = 6 ∨ i = 7 := by omega
  rw [← e i hi]
  rcases hi' with rfl | rfl | rfl | rfl | rfl | rfl | rfl | rfl <;> assumption
theorem or_zero {a b : Nat} (h : (a ||| b) &&& MASK = 0) : a &&& MASK = 0 ∧ b &&& MASK = 0 := by
  have key : ∀ x y : Nat, x ||| y = 0 → x = 0 := by
    intro x y hxy
    apply Nat.eq_of_testBit_eq
    intro i
    have := congrArg (fun z => z.testBit i) hxy
    simp only [Nat.testBit_or, Nat.zero_testBit, Bool.or_eq_false_iff] at this
    rw [this.1, Nat.zero_testBit]
  have e : (a ||| b) &&& MASK = (a &&& MASK) ||| (b &&& MASK) := by
    apply Nat.eq_of_testBit_eq
    intro i
    simp only [Nat.testBit_and, Nat.testBit_or, Bool.and_or_distrib_right]
  rw [e] at h
  exact ⟨key _ _ h, key _ _ (by rw [Nat.or_comm]; exact h)⟩
theorem extD {l : Bs} {n : Int} {k : Nat} (hn : n = (k : Int)) : (bl l).extract n.toNat ((l.length : Int)).toNat = bl (l.drop k) := by
  subst hn
  rw [Int.toNat_natCast, Int.toNat_natCast, bl_extract, List.take_of_length_le (by simp)]
theorem Tabs.first {gl : Fr} (h : Tabs gl) {c : Nat} (hc : c < 256) : cellG gl 1 (0 + c * 1) (.int .u8 (Lib.firstT c)) := by
  obtain ⟨⟨cs, a, b⟩, _⟩ := h
  exact ⟨cs, a, by rw [Nat.zero_add, Nat.mul_one]; exact b c hc⟩
theorem Tabs.acc {gl : Fr} (h : Tabs gl) {i : Nat} (hi : i < 16) : cellG gl 2 (0 + i * 2) (.int .u8 (Lib.accLo i)) ∧ cellG gl 2 (0 + i * 2 + 1) (.int .u8 (Lib.accHi i)) := by
  obtain ⟨_, cs, a, b⟩ := h
  exact ⟨⟨cs, a, by rw [Nat.zero_add, Nat.mul_comm]; exact (b i hi).1⟩, ⟨cs, a, by rw [Nat.zero_add, Nat.mul_comm]; exact (b i hi).2⟩⟩
end Go.Proofs.YtaoceiiakcpbaaaGreatDoor
end
section
namespace Go.Proofs.YtaoceiiakcpbaaaGreatDoor
open Go Go.X Go.Proofs
set_option linter.unusedVariables false
theorem dec_bN {m : Bs} (h : m ≠ []) : dec m = Lib.decodeN m.length (bN m 0) (bN m 1) (bN m 2) (bN m 3) := by
  simp only [dec, bN, List.getD_eq_getElem?_getD]
theorem ok0 {m : Bs} (h : m ≠ []) (hb : 128 ≤ bN m 0 ∧ bN m 0 < 194 ∨ 245 ≤ bN m 0 ∧ bN m 0 < 256) : u8ok m = false := by
  rw [u8ok_step h, dec_bN h, dec0 hb]; rfl
theorem ok2 {m : Bs} (h : m ≠ []) (hb : 194 ≤ bN m 0 ∧ bN m 0 < 224) : u8ok m = (decide (2 ≤ m.length ∧ 128 ≤ bN m 1 ∧ bN m 1 ≤ 191) && u8ok (m.drop 2)) := by
  rw [u8ok_step h, dec_bN h, dec2 hb (bN_lt m 1)]
  by_cases hc : 2 ≤ m.length ∧ 128 ≤ bN m 1 ∧ bN m 1 ≤ 191
  · rw [if_pos hc]; simp [badD, hc]
  · rw [if_neg hc]; simp [badD, hc]
theorem ifc {α : Type} {p q : Prop} [Decidable p] [Decidable q] {a b : α} (h : p ↔ q) : (if p then a else b) = if q then a else b := by
  by_cases hp : p
  · rw [if_pos hp, if_pos (h.1 hp)]
  · rw [if_neg hp, if_neg (fun hq => hp (h.2 hq))]
theorem dec3' {n b0 b1 b2 b3 lo hi : Nat} (h : 224 ≤ b0 ∧ b0 < 240) (h1 : b1 < 256) (h2 : b2 < 256) (hlo : lo = if b0 = 224 then 160 else 128) (hhi : hi = if b0 = 237 then 159 else 191) : Lib.decodeN n b0 b1 b2 b3 =
    if 3 ≤ n ∧ (lo ≤ b1 ∧ b1 ≤ hi) ∧ 128 ≤ b2 ∧ b2 ≤ 191 then (((b0 - 224) * 64 + (b1 - 128)) * 64 + (b2 - 128), 3) else (65533, 1) := by
  rw [dec3 h h1 h2]
  refine ifc ?_
  split at hlo <;> split at hhi <;> omega
theorem dec4' {n b0 b1 b2 b3 lo hi : Nat} (h : 240 ≤ b0 ∧ b0 < 245) (h1 : b1 < 256) (h2 : b2 < 256) (h3 : b3 < 256) (hlo : lo = if b0 = 240 then 144 else 128) (hhi : hi = if b0 = 244 then 143 else 191) : Lib.decodeN n b0 b1 b2 b3 =
    if 4 ≤ n ∧ (lo ≤ b1 ∧ b1 ≤ hi) ∧ (128 ≤ b2 ∧ b2 ≤ 191) ∧ 128 ≤ b3 ∧ b3 ≤ 191 then ((((b0 - 240) * 64 + (b1 - 128)) * 64 + (b2 - 128)) * 64 + (b3 - 128), 4) else (65533, 1) := by
  rw [dec4 h h1 h2 h3]
  refine ifc ?_
  split at hlo <;> split at hhi <;> omega
theorem ok3 {m : Bs} (h : m ≠ []) (hb : 224 ≤ bN m 0 ∧ bN m 0 < 240) {lo hi : Nat} (hlo : lo = if bN m 0 = 224 then 160 else 128) (hhi : hi = if bN m 0 = 237 then 159 else 191) :
    u8ok m = (decide (3 ≤ m.length ∧ (lo ≤ bN m 1 ∧ bN m 1 ≤ hi) ∧ 128 ≤ bN m 2 ∧ bN m 2 ≤ 191) && u8ok (m.drop 3)) := by
  rw [u8ok_step h, dec_bN h, dec3' hb (bN_lt m 1) (bN_lt m 2) hlo hhi]
  by_cases hc : 3 ≤ m.length ∧ (lo ≤ bN m 1 ∧ bN m 1 ≤ hi) ∧ 128 ≤ bN m 2 ∧ bN m 2 ≤ 191
  · rw [if_pos hc]; simp [badD, hc]
  · rw [if_neg hc]; simp [badD, hc]
theorem ok4 {m : Bs} (h : m ≠ []) (hb : 240 ≤ bN m 0 ∧ bN m 0 < 245) {lo hi : Nat} (hlo : lo = if bN m 0 = 240 then 144 else 128) (hhi : hi = if bN m 0 = 244 then 143 else 191) :
    u8ok m = (decide (4 ≤ m.length ∧ (lo ≤ bN m 1 ∧ bN m 1 ≤ hi) ∧ (128 ≤ bN m 2 ∧ bN m 2 ≤ 191) ∧ 128 ≤ bN m 3 ∧ bN m 3 ≤ 191) && u8ok (m.drop 4)) := by
  rw [u8ok_step h, dec_bN h, dec4' hb (bN_lt m 1) (bN_lt m 2) (bN_lt m 3) hlo hhi]
  by_cases hc : 4 ≤ m.length ∧ (lo ≤ bN m 1 ∧ bN m 1 ≤ hi) ∧ (128 ≤ bN m 2 ∧ bN m 2 ≤ 191) ∧ 128 ≤ bN m 3 ∧ bN m 3 ≤ 191
  · rw [if_pos hc]; simp [badD, hc]
  · rw [if_neg hc]; simp [badD, hc]
set_option maxHeartbeats 2000000 in
theorem ValidString_pc {gl : Fr} (hg : Tabs gl) {l : Bs} (hl : l.length ≤ 4611686018427387904) {R : Bool → Prop} (h : R (u8ok l)) : PC Tryz.prog gl 86 [Arg.mk .str (bl l)] [.bool] R := by
  apply pu_unicode_utf8_ValidString
  refine ⟨fun s => ∃ m : Bs, s = bl m ∧ u8ok m = u8ok l ∧ m.length ≤ l.length, fun s => s.size, ⟨l, rfl, rfl, Nat.le_refl _⟩, ?_⟩
  rintro s ⟨m, rfl, hm, hml⟩
  simp only [bl_size, bl_byteN, show (0 : Int).toNat = 0 from rfl, extD (l := m) (n := 1) (k := 1) rfl, extD (l := m) (n := 2) (k := 2) rfl, extD (l := m) (n := 3) (k := 3) rfl, extD (l := m) (n := 4) (k := 4) rfl]
  refine ⟨fun hc => ?_, fun hc => ?_⟩
  rotate_left
  · have : m = [] := by
      have : ¬ (m.length : Int) > 0 := by simpa using hc
      exact List.eq_nil_of_length_eq_zero (by omega)
    subst this
    rw [u8ok_nil] at hm
    rw [← hm] at h; exact h
  have hp : 0 < m.length := by simp at hc; omega
  have hne : m ≠ [] := List.length_pos_iff.1 hp
  refine ⟨by omega, fun ha => ⟨by omega, ?_⟩, fun ha => ?_⟩
  · have hb : bN m 0 < 128 := by simp at ha; omega
    obtain ⟨c, t, rfl⟩ := List.exists_cons_of_ne_nil hne
    simp only [List.drop_one, List.tail_cons]
    have hm' : u8ok t = u8ok l := by rw [← hm]; exact (u8ok_ascii hb).symm
    simp only [List.length_cons] at hml ⊢
    simp only [extD (l := t) (n := 8) (k := 8) rfl, bl_size]
    refine ⟨fun r => r = (wordN t : Int), fun hq => word_pc (by simp at hq; omega) rfl, fun r hr => ⟨fun hx => ?_, fun hx => ⟨⟨t, rfl, hm', by omega⟩, by omega⟩⟩⟩
    have h8 : 8 < t.length := by
      cases hd : decide ((t.length : Int) > 8) with
      | true => simp at hd; omega
      | false => rw [hd] at hx; cases hx
    have hd8 : decide ((t.length : Int) > 8) = true := by simp; omega
    have hr' := hr hd8
    rw [hd8, cond_true, hr', show (9259542123273814144 : Int) = ((MASK : Nat) : Int) from rfl, and64 (wordN_lt t) (by decide)] at hx
    have hz : wordN t &&& MASK = 0 := by
      have : ((wordN t &&& MASK : Nat) : Int) = 0 := by simpa using hx
      omega
    have hm2 : u8ok (t.drop 8) = u8ok l := by rw [← hm', word_clear (by omega) hz]
    have hul : (t.drop 8).length + 8 = t.length := by simp; omega
    generalize t.drop 8 = u at *
    simp only [extD (l := u) (n := 8) (k := 8) rfl, extD (l := u) (n := 16) (k := 16) rfl]
    refine ⟨by omega, fun hq => by simp at hq; omega, fun r => r = (wordN u : Int), fun hq => word_pc (by simp at hq; omega) rfl, fun r35 hr35 => ⟨fun r => r = (wordN (u.drop 8) : Int), fun hq => word_pc (by simp at hq ⊢; omega) rfl, fun r37 hr37 => ⟨fun hx2 => ?_, fun hx2 => ⟨⟨u, rfl, hm2, by omega⟩, by omega⟩⟩⟩⟩
    have h16 : 16 < u.length := by
      cases hd : decide ((u.length : Int) > 16) with
      | true => simp at hd; omega
      | false => rw [hd] at hx2; cases hx2
    have hd16 : decide ((u.length : Int) > 16) = true := by simp; omega
    rw [hd16, cond_true, hr35 hd16, hr37 hd16, or64 (wordN_lt _) (wordN_lt _), show (9259542123273814144 : Int) = ((MASK : Nat) : Int) from rfl, and64 (Nat.or_lt_two_pow (n := 64) (wordN_lt _) (wordN_lt _)) (by decide)] at hx2
    have hz2 : (wordN u ||| wordN (u.drop 8)) &&& MASK = 0 := by
      have : (((wordN u ||| wordN (u.drop 8)) &&& MASK : Nat) : Int) = 0 := by simpa using hx2
      omega
    obtain ⟨z1, z2⟩ := or_zero hz2
    have hm3 : u8ok (u.drop 16) = u8ok l := by
      rw [← hm2, word_clear (by omega) z1, word_clear (l := u.drop 8) (by simp; omega) z2, List.drop_drop]
    refine ⟨by omega, fun s => ∃ m' : Bs, s = bl m' ∧ u8ok m' = u8ok l ∧ m'.length < (c :: t).length, fun s => s.size, ⟨u.drop 16, rfl, hm3, by simp; omega⟩, ?_⟩
    rintro s ⟨v, rfl, hv, hvl⟩
    simp only [List.length_cons] at hvl
    simp only [bl_size, extD (l := v) (n := 8) (k := 8) rfl, extD (l := v) (n := 16) (k := 16) rfl, extD (l := v) (n := 24) (k := 24) rfl, extD (l := v) (n := 32) (k := 32) rfl]
    refine ⟨fun hq => by simp at hq; omega, fun hq => by simp at hq; omega, fun hq => by simp at hq; omega, fun r => r = (wordN v : Int), fun hq => word_pc (by simp at hq; omega) rfl, fun r50 hr50 => ⟨fun r => r = (wordN (v.drop 8) : Int), fun hq => word_pc (by simp at hq ⊢; omega) rfl, fun r52 hr52 =>
      ⟨fun r => r = (wordN (v.drop 16) : Int), fun hq => word_pc (by simp at hq ⊢; omega) rfl, fun r54 hr54 => ⟨fun r => r = (wordN (v.drop 24) : Int), fun hq => word_pc (by simp at hq ⊢; omega) rfl, fun r56 hr56 => ⟨fun hx3 => ?_, fun hx3 => ⟨⟨v, rfl, hv, by omega⟩, by omega⟩⟩⟩⟩⟩⟩
    have h32 : 32 < v.length := by
      cases hd : decide ((v.length : Int) > 32) with
      | true => simp at hd; omega
      | false => rw [hd] at hx3; cases hx3
    have hd32 : decide ((v.length : Int) > 32) = true := by simp; omega
    have o2 : ∀ a b : Nat, a < 18446744073709551616 → b < 18446744073709551616 → a ||| b < 18446744073709551616 := fun a b ha hb => Nat.or_lt_two_pow (n := 64) ha hb
    rw [hd32, cond_true, hr50 hd32, hr52 hd32, hr54 hd32, hr56 hd32, or64 (wordN_lt _) (wordN_lt _), or64 (wordN_lt _) (wordN_lt _), or64 (o2 _ _ (wordN_lt _) (wordN_lt _)) (o2 _ _ (wordN_lt _) (wordN_lt _)), show (9259542123273814144 : Int) = ((MASK : Nat) : Int) from rfl,
      and64 (o2 _ _ (o2 _ _ (wordN_lt _) (wordN_lt _)) (o2 _ _ (wordN_lt _) (wordN_lt _))) (by decide)] at hx3
    have hz3 : ((wordN v ||| wordN (v.drop 8)) ||| (wordN (v.drop 16) ||| wordN (v.drop 24))) &&& MASK = 0 := by
      have : ((((wordN v ||| wordN (v.drop 8)) ||| (wordN (v.drop 16) ||| wordN (v.drop 24))) &&& MASK : Nat) : Int) = 0 := by simpa using hx3
      omega
    obtain ⟨y1, y2⟩ := or_zero hz3
    obtain ⟨x1, x2⟩ := or_zero y1
    obtain ⟨x3, x4⟩ := or_zero y2
    refine ⟨by omega, ⟨v.drop 32, rfl, ?_, by simp; omega⟩, by simp; omega⟩
    rw [← hv, word_clear (by omega) x1, word_clear (l := v.drop 8) (by simp; omega) x2, List.drop_drop, word_clear (l := v.drop (8 + 8)) (by simp; omega) x3, List.drop_drop, word_clear (l := v.drop (8 + 8 + 8)) (by simp; omega) x4, List.drop_drop]
  · have hb : 128 ≤ bN m 0 := by simp at ha; omega
    have hb2 := bN_lt m 0
    have hX := Lib.firstT_cases (bN m 0)
    have hr1 := bN_lt m 1; have hr2 := bN_lt m 2; have hr3 := bN_lt m 3
    refine ⟨by omega, (Lib.firstT (bN m 0) : Int), by simpa using hg.first hb2, ?_⟩
    obtain ⟨i, lo, hi, k, e2, e3, e4, e5, e6, k1, k2, k3, k4, hk⟩ : ∃ i lo hi k : Nat, ((Lib.firstT (bN m 0) : Int).fdiv (2 ^ 4)) = (i : Int) ∧ i < 16 ∧ Lib.accLo i = lo ∧ Lib.accHi i = hi ∧
        (IntKind.wrap .i64 (IntKind.wrap .u8 (((BitVec.ofInt (IntKind.bits .u8) (Lib.firstT (bN m 0) : Int)) &&& (BitVec.ofInt (IntKind.bits .u8) 7)).toNat : Int)) : Int) = (k : Int) ∧
        (k = 1 → u8ok m = false) ∧ (k = 2 → u8ok m = (decide (2 ≤ m.length ∧ lo ≤ bN m 1 ∧ bN m 1 ≤ hi) && u8ok (m.drop 2))) ∧
        (k = 3 → u8ok m = (decide (3 ≤ m.length ∧ (lo ≤ bN m 1 ∧ bN m 1 ≤ hi) ∧ 128 ≤ bN m 2 ∧ bN m 2 ≤ 191) && u8ok (m.drop 3))) ∧
        (k = 4 → u8ok m = (decide (4 ≤ m.length ∧ (lo ≤ bN m 1 ∧ bN m 1 ≤ hi) ∧ (128 ≤ bN m 2 ∧ bN m 2 ≤ 191) ∧ 128 ≤ bN m 3 ∧ bN m 3 ≤ 191) && u8ok (m.drop 4))) ∧ (k = 1 ∨ k = 2 ∨ k = 3 ∨ k = 4) := by
      have cls : ∀ v, Lib.firstT (bN m 0) = v → (v = 241 → (128 ≤ bN m 0 ∧ bN m 0 < 194) ∨ (245 ≤ bN m 0 ∧ bN m 0 < 256)) ∧ (v = 2 → 194 ≤ bN m 0 ∧ bN m 0 < 224) ∧ (v = 19 → bN m 0 = 224) ∧ (v = 3 → (225 ≤ bN m 0 ∧ bN m 0 < 240 ∧ bN m 0 ≠ 237)) ∧ (v = 35 → bN m 0 = 237) ∧ (v = 52 → bN m 0 = 240) ∧ (v = 4 → 241 ≤ bN m 0 ∧ bN m 0 < 244) ∧ (v = 68 → bN m 0 = 244) ∧ v ≠ 240 := by
        intro v hv
        unfold Lib.firstT at hv
        repeat' split at hv
        all_goals omega
      have cl := cls _ rfl
      rcases hX with hX | hX | hX | hX | hX | hX | hX | hX | hX
      · exact absurd hX cl.2.2.2.2.2.2.2.2
      · exact ⟨15, 0, 0, 1, by rw [hX]; decide, (by decide), rfl, rfl, by rw [hX]; decide, (fun _ => ok0 hne (cl.1 hX)), (fun e => by omega), (fun e => by omega), (fun e => by omega), (by omega)⟩
      · exact ⟨0, 128, 191, 2, by rw [hX]; decide, (by decide), rfl, rfl, by rw [hX]; decide, (fun e => by omega), (fun _ => ok2 hne (cl.2.1 hX)), (fun e => by omega), (fun e => by omega), (by omega)⟩
      · have c := cl.2.2.1 hX
        exact ⟨1, 160, 191, 3, by rw [hX]; decide, (by decide), rfl, rfl, by rw [hX]; decide, (fun e => by omega), (fun e => by omega), (fun _ => ok3 hne (by omega) (by rw [if_pos c]) (by rw [if_neg (by omega)])), (fun e => by omega), (by omega)⟩
      · have c := cl.2.2.2.1 hX
        exact ⟨0, 128, 191, 3, by rw [hX]; decide, (by decide), rfl, rfl, by rw [hX]; decide, (fun e => by omega), (fun e => by omega), (fun _ => ok3 hne (by omega) (by rw [if_neg (by omega)]) (by rw [if_neg (by omega)])), (fun e => by omega), (by omega)⟩
      · have c := cl.2.2.2.2.1 hX
        exact ⟨2, 128, 159, 3, by rw [hX]; decide, (by decide), rfl, rfl, by rw [hX]; decide, (fun e => by omega), (fun e => by omega), (fun _ => ok3 hne (by omega) (by rw [if_neg (by omega)]) (by rw [if_pos c])), (fun e => by omega), (by omega)⟩
      · have c := cl.2.2.2.2.2.1 hX
        exact ⟨3, 144, 191, 4, by rw [hX]; decide, (by decide), rfl, rfl, by rw [hX]; decide, (fun e => by omega), (fun e => by omega), (fun e => by omega), (fun _ => ok4 hne (by omega) (by rw [if_pos c]) (by rw [if_neg (by omega)])), (by omega)⟩
      · have c := cl.2.2.2.2.2.2.1 hX
        exact ⟨0, 128, 191, 4, by rw [hX]; decide, (by decide), rfl, rfl, by rw [hX]; decide, (fun e => by omega), (fun e => by omega), (fun e => by omega), (fun _ => ok4 hne (by omega) (by rw [if_neg (by omega)]) (by rw [if_neg (by omega)])), (by omega)⟩
      · have c := cl.2.2.2.2.2.2.2.1 hX
        exact ⟨4, 128, 143, 4, by rw [hX]; decide, (by decide), rfl, rfl, by rw [hX]; decide, (fun e => by omega), (fun e => by omega), (fun e => by omega), (fun _ => ok4 hne (by omega) (by rw [if_neg (by omega)]) (by rw [if_pos c])), (by omega)⟩
    generalize Lib.firstT (bN m 0) = x at *
    rw [e2, e6]
    have ac := hg.acc e3
    rw [e4, e5] at ac
    simp only [show (1 : Int).toNat = 1 from rfl, show (2 : Int).toNat = 2 from rfl, show (3 : Int).toNat = 3 from rfl]
    have bad : u8ok m = false → R false := fun e => by rw [← hm, e] at h; exact h
    refine ⟨by omega, (lo : Int), by simpa using ac.1, (hi : Int), by simpa using ac.2, ?_, ?_⟩
    · intro hx
      have hk2 : k = 2 := by simp at hx; omega
      have q := k2 hk2
      refine ⟨fun hy => by simp at hy; omega, fun hy => by simp at hy; omega, fun hy => bad ?_, fun hy => ?_⟩
      · simp only [Bool.cond_true_left, Bool.or_eq_true, decide_eq_true_eq] at hy
        rw [q, decide_eq_false (by omega)]; rfl
      · simp only [Bool.cond_true_left, Bool.or_eq_false_iff, decide_eq_false_iff_not] at hy
        refine ⟨by omega, ⟨m.drop 2, rfl, ?_, by simp; omega⟩, by simp; omega⟩
        rw [← hm, q, decide_eq_true (by omega)]; simp
    · intro hx
      refine ⟨fun hx3 => ?_, fun hx3 => ⟨fun hx4 => ?_, fun hx4 => ?_⟩⟩
      · have hk3 : k = 3 := by simp at hx3; omega
        have q := k3 hk3
        refine ⟨fun hy => by simp at hy; omega, fun hy => by simp at hy; omega, fun hy => by simp at hy; omega, fun hy => by simp at hy; omega, fun hy => bad ?_, fun hy => ?_⟩
        · simp only [Bool.cond_true_left, Bool.or_eq_true, decide_eq_true_eq] at hy
          rw [q, decide_eq_false (by omega)]; rfl
        · simp only [Bool.cond_true_left, Bool.or_eq_false_iff, decide_eq_false_iff_not] at hy
          refine ⟨by omega, ⟨m.drop 3, rfl, ?_, by simp; omega⟩, by simp; omega⟩
          rw [← hm, q, decide_eq_true (by omega)]; simp
      · have hk4 : k = 4 := by simp at hx4; omega
        have q := k4 hk4
        refine ⟨fun hy => by simp at hy; omega, fun hy => by simp at hy; omega, fun hy => by simp at hy; omega, fun hy => by simp at hy; omega, fun hy => by simp at hy; omega, fun hy => by simp at hy; omega, fun hy => bad ?_, fun hy => ?_⟩
        · simp only [Bool.cond_true_left, Bool.or_eq_true, decide_eq_true_eq] at hy
          rw [q, decide_eq_false (by omega)]; rfl
        · simp only [Bool.cond_true_left, Bool.or_eq_false_iff, decide_eq_false_iff_not] at hy
          refine ⟨by omega, ⟨m.drop 4, rfl, ?_, by simp; omega⟩, by simp; omega⟩
          rw [← hm, q, decide_eq_true (by omega)]; simp
      · refine bad (k1 ?_)
        simp at hx hx3 hx4; omega
end Go.Proofs.YtaoceiiakcpbaaaGreatDoor
end
section
namespace Go.X
open Go Go.Lib
set_option linter.unusedVariables false
mutual
def tsz : Tr → Nat | .mk _ _ _ xs => 1 + tszL xs
def tszL : List Tr → Nat | [] => 0 | x :: l => tsz x + tszL l
end
mutual
def tdp : Tr → Nat | .mk _ _ _ xs => tdpL xs + 1
def tdpL : List Tr → Nat | [] => 0 | x :: l => max (tdp x) (tdpL l)
end
mutual
def allT (p : Tr → Bool) : Tr → Bool | .mk k s ks xs => p (.mk k s ks xs) && allTL p xs
def allTL (p : Tr → Bool) : List Tr → Bool | [] => true | x :: l => allT p x && allTL p l
end
mutual
def txB (m : Nat) : Tr → Prop | .mk _ s ks xs => (s.size ≤ m ∧ ks.length ≤ m ∧ ∀ k ∈ ks, k.size ≤ m) ∧ txBL m xs
def txBL (m : Nat) : List Tr → Prop | [] => True | x :: l => txB m x ∧ txBL m l
end
theorem tsz_eq (v : Tr) : tsz v = 1 + tszL v.items := by cases v; rw [tsz]
theorem tdp_eq (v : Tr) : tdp v = tdpL v.items + 1 := by cases v; rw [tdp]
theorem allT_eq (p : Tr → Bool) (v : Tr) : allT p v = (p v && allTL p v.items) := by cases v; rw [allT]
theorem txB_eq (m : Nat) (v : Tr) : txB m v ↔ (v.text.size ≤ m ∧ v.keys.length ≤ m ∧ ∀ k ∈ v.keys, k.size ≤ m) ∧ txBL m v.items := by cases v; rw [txB]
theorem txBL_mem {m : Nat} : ∀ {l : List Tr}, txBL m l ↔ ∀ x ∈ l, txB m x
  | [] => by simp [txBL]
  | x :: l => by rw [txBL, txBL_mem]; simp
theorem txB_item {m : Nat} {v x : Tr} (h : txB m v) (hx : x ∈ v.items) : txB m x := txBL_mem.1 ((txB_eq m v).1 h).2 x hx
theorem allTL_all (p : Tr → Bool) : ∀ l : List Tr, allTL p l = l.all (allT p)
  | [] => rfl
  | x :: l => by rw [allTL, allTL_all p l]; rfl
theorem tszL_append : ∀ a b : List Tr, tszL (a ++ b) = tszL a + tszL b
  | [], b => by simp [tszL]
  | x :: l, b => by rw [List.cons_append, tszL, tszL, tszL_append l b]; omega
theorem tdpL_append : ∀ a b : List Tr, tdpL (a ++ b) = max (tdpL a) (tdpL b)
  | [], b => by simp [tdpL]
  | x :: l, b => by rw [List.cons_append, tdpL, tdpL, tdpL_append l b]; omega
theorem tszL_mem {x : Tr} : ∀ {l : List Tr}, x ∈ l → tsz x ≤ tszL l
  | y :: l, h => by
    rw [tszL]
    rcases List.mem_cons.1 h with rfl | h
    · omega
    · have := tszL_mem h; omega
theorem tsz_item {v x : Tr} (h : x ∈ v.items) : tsz x < tsz v := by
  have := tszL_mem h
  rw [tsz_eq v]; omega
theorem tszL_len : ∀ l : List Tr, l.length ≤ tszL l
  | [] => by simp [tszL]
  | x :: l => by
    have := tszL_len l
    rw [tszL, List.length_cons, tsz_eq]; omega
theorem tsz_pos (v : Tr) : 0 < tsz v := by rw [tsz_eq]; omega
theorem tszL_take {l : List Tr} {k : Nat} (hk : k < l.length) : tszL (l.take (k + 1)) = tszL (l.take k) + tsz l[k] := by
  rw [List.take_succ_eq_append_getElem hk, tszL_append]; simp [tszL]
theorem tdpL_take {l : List Tr} {k : Nat} (hk : k < l.length) : tdpL (l.take (k + 1)) = max (tdpL (l.take k)) (tdp l[k]) := by
  rw [List.take_succ_eq_append_getElem hk, tdpL_append]; simp [tdpL]
mutual
theorem tdp_le : ∀ v : Tr, tdp v ≤ tsz v
  | .mk _ _ _ xs => by rw [tdp, tsz]; have := tdpL_le xs; omega
theorem tdpL_le : ∀ l : List Tr, tdpL l ≤ tszL l
  | [] => by simp [tdpL]
  | x :: l => by rw [tdpL, tszL]; have := tdp_le x; have := tdpL_le l; omega
end
def keysOk (ks : List ByteArray) : Bool := ks.all (fun k => u8ok (lb k)) && decide ks.Nodup
def decS (s : Bs) : Nm × Bool := ((numParse s).1, (numParse s).2 == 0 && decide (nmText (numParse s).1 = s))
def holeOk (s : Bs) : Bool := (decS s).2 && (nmInt (decS s).1).2 && decide (0 ≤ (nmInt (decS s).1).1)
def nodeOk (v : Tr) : Bool :=
  if v.kind = 1 then lb v.text == [] && v.keys.isEmpty && v.items.isEmpty
  else if v.kind = 2 then (lb v.text == [116, 114, 117, 101] || lb v.text == [102, 97, 108, 115, 101]) && v.keys.isEmpty && v.items.isEmpty
  else if v.kind = 3 then (decS (lb v.text)).2 && v.keys.isEmpty && v.items.isEmpty
  else if v.kind = 4 then u8ok (lb v.text) && v.keys.isEmpty && v.items.isEmpty
  else if v.kind = 5 then lb v.text == [] && v.keys.isEmpty
  else if v.kind = 6 then keysOk v.keys && decide (v.keys.length = v.items.length) && lb v.text == []
  else if v.kind = 7 then holeOk (lb v.text) && v.keys.isEmpty && v.items.isEmpty
  else false
def sizedT (v : Tr) : Bool := decide (tsz v ≤ 4096) && decide (tdp v ≤ 32)
def openT (v : Tr) : Bool := sizedT v && allT nodeOk v
structure Sm (v : Tr) : Prop where
  sz : tsz v ≤ 1000000000000
  tx : txB 1048576 v
theorem Sm.item {v x : Tr} (h : Sm v) (hx : x ∈ v.items) : Sm x := ⟨by have := tsz_item hx; have := h.sz; omega, txB_item h.tx hx⟩
theorem Sm.text {v : Tr} (h : Sm v) : (lb v.text).length ≤ 1048576 := by rw [lb_len]; exact ((txB_eq _ v).1 h.tx).1.1
theorem Sm.key {v : Tr} (h : Sm v) {k : ByteArray} (hk : k ∈ v.keys) : (lb k).length ≤ 1048576 := by rw [lb_len]; exact ((txB_eq _ v).1 h.tx).1.2.2 k hk
theorem Sm.keys {v : Tr} (h : Sm v) : v.keys.length ≤ 1048576 := ((txB_eq _ v).1 h.tx).1.2.1
theorem Sm.items {v : Tr} (h : Sm v) : v.items.length ≤ 1000000000000 := by have := tszL_len v.items; have := h.sz; rw [tsz_eq] at this; omega
end Go.X
end
section
namespace Go.Proofs.YtaoceiiakcpbaaaGreatDoor
open Go Go.X Go.Proofs
set_option linter.unusedVariables false
theorem Valid_pc {gl : Fr} (hg : Tabs gl) {l : Bs} (hl : l.length ≤ 4611686018427387904) {R : Int × Bool → Prop} (h : ∀ k, R (k, u8ok l)) : PC Tryz.prog gl 60 [Arg.mk .str (bl l)] [.int .i64, .bool] R := by
  apply pu_runes_Valid
  refine ValidString_pc hg hl ⟨fun hx => ?_, fun hx => ?_⟩
  · have := h ((bl l).size : Int); rw [hx] at this; exact this
  · refine ⟨fun p => p.1 = bl l ∧ p.2 ≤ l.length ∧ u8ok (l.drop p.2) = false, fun p => l.length - p.2, ⟨rfl, by omega, by simpa using hx⟩, ?_⟩
    rintro ⟨_, p⟩ ⟨rfl, hp, h2⟩
    simp only at hp h2 ⊢
    rw [nxB_bl, nxR_bl]
    refine ⟨fun hc => ⟨hc, hc, fun hq => ?_, fun hq => ⟨?_, ?_⟩⟩, fun hc => ?_⟩
    · have hc' : p < l.length := by simpa using hc
      have hne : l.drop p ≠ [] := fun e => by have := congrArg List.length e; simp at this; omega
      have hb : badD (dec (l.drop p)) = false := by
        unfold badD
        have : ¬ (dec (l.drop p)).1 = 65533 := fun e => by rw [e] at hq; simp at hq
        simp [this]
      rw [u8ok_step hne, hb] at h2
      simp only [Bool.false_eq_true, if_false, List.drop_drop] at h2
      rw [nxP_bl l p hc']
      have hw := dec_width (l.drop p); have hle := dec_le hne
      simp only [List.length_drop] at hle
      exact ⟨⟨trivial, by omega, h2⟩, by omega⟩
    · have hc' : p < l.length := by simpa using hc
      rw [bl_size]; omega
    · have hc' : p < l.length := by simpa using hc
      have hne : l.drop p ≠ [] := fun e => by have := congrArg List.length e; simp at this; omega
      rw [bl_size, extD (k := p) rfl]
      refine Decode_pc hg ?_
      have hsz : (bl (l.drop p)).size ≠ 0 := by rw [bl_size]; simp; omega
      have hd : Lib.decodeGo (bl (l.drop p)) = dec (l.drop p) := by
        unfold Lib.decodeGo
        rw [if_neg hsz, dec_at, lb_bl, List.drop_zero]
      rw [hd]
      refine ⟨fun hx1 => ?_, fun hx1 => ?_⟩
      · have := h (p : Int)
        have hu : u8ok l = false := hx
        rw [hu] at this; exact this
      · have hb : badD (dec (l.drop p)) = false := by
          unfold badD
          have : ¬ (dec (l.drop p)).2 = 1 := fun e => by rw [e] at hx1; simp at hx1
          simp [this]
        rw [u8ok_step hne, hb] at h2
        simp only [Bool.false_eq_true, if_false, List.drop_drop] at h2
        rw [nxP_bl l p hc']
        have hw := dec_width (l.drop p); have hle := dec_le hne
        simp only [List.length_drop] at hle
        exact ⟨⟨trivial, by omega, h2⟩, by omega⟩
    · have : l.drop p = [] := List.drop_eq_nil_of_le (by have : ¬ p < l.length := by simpa using hc
                                                         omega)
      rw [this, u8ok_nil] at h2; cases h2
theorem plain_pc {gl : Fr} (hg : Tabs gl) {l : Bs} (hl : l.length ≤ 4611686018427387904) {R : Bool → Prop} (h : R (u8ok l)) : PC Tryz.prog gl 39 [Arg.mk .str (bl l)] [.bool] R := by
  apply pu_pointer_plain
  exact Valid_pc hg hl fun k => h
theorem vplain_pc {gl : Fr} (hg : Tabs gl) {l : Bs} (hl : l.length ≤ 4611686018427387904) {R : Bool → Prop} (h : R (u8ok l)) : PC Tryz.prog gl 96 [Arg.mk .str (bl l)] [.bool] R := by
  apply pu_value_plain
  exact Valid_pc hg hl fun k => h
structure GL (gl : Fr) : Prop where
  tabs : Tabs gl
  pow : Pow gl
  max : MaxLen gl
  err : ErrVars gl
theorem numParse_len (s : Bs) (hs : s.length ≤ 1152921504606846976) : (numParse s).1.2.1.length ≤ 4611686018427387904 := by
  unfold numParse
  split
  · simp
  · rename_i x hx
    have h1 := numLit_len hx
    split
    · simp
    · split
      · simp
      · simp only
        generalize (if x.low = true then - (decVal (x.exp.dropWhile (· == 48)) : Int) else decVal (x.exp.dropWhile (· == 48))) = e
        split
        · simp
        · rename_i hne
          have h2 : (shortOf (x.whole ++ x.rest)).length ≤ (x.whole ++ x.rest).length := by
            unfold shortOf
            rw [List.length_reverse]
            refine Nat.le_trans (dropWhile_len _ _) ?_
            rw [List.length_reverse]
            exact dropWhile_len _ _
          rw [List.length_append] at h2
          split
          · show (shortOf (x.whole ++ x.rest)).length ≤ _; omega
          · simp
theorem vdecimal_pc {gl : Fr} (hg : GL gl) {s : Bs} (hs : s.length ≤ 1152921504606846976) {R : (Bool × ByteArray × Int) × Bool → Prop} (h : R (nmB (decS s).1, (decS s).2)) : PC Tryz.prog gl 95 [Arg.mk .str (bl s)] [tN, .bool] R := by
  apply pu_value_decimal
  refine parse_pc hs ?_
  refine ⟨fun t => t = bl (nmText (numParse s).1), fun _ => text_pc hg.pow (numParse_len s hs) rfl, fun r hr => ?_⟩
  have e : (bif ((numParse s).2 == 0) then (r.toList == (bl s).toList) else false) = (decS s).2 := by
    unfold decS
    cases hc : ((numParse s).2 == 0) with
    | false => rfl
    | true =>
      rw [hr hc, cond_true, bl_eq]; rfl
  simp only at e ⊢
  rw [e]; exact h
theorem repeat0 (n : Nat) : Lib.repeatL [48] n = List.replicate n 48 := by
  induction n with
  | zero => rfl
  | succ n ih => rw [Lib.repeatL, ih]; rfl
theorem int_pc {gl : Fr} (hg : GL gl) {n : Nm} (hn : n.2.1.length ≤ 4611686018427387904) {R : Int × Bool → Prop} (h : R (nmInt n)) : PC Tryz.prog gl 127 [Arg.mk tN (nmB n)] [.int .i64, .bool] R := by
  apply pu_number_Int
  refine right_pc hn ?_
  unfold nmInt at h
  cases hr : nmRight n with
  | false =>
    rw [hr] at h
    exact ⟨fun _ => by simpa using h, fun hx => by simp at hx⟩
  | true =>
    obtain ⟨hl, he1, he2⟩ := nmRight_len hr
    rw [hr] at h
    simp only [Bool.true_and] at h
    simp only [bl_size]
    rw [w64 (by omega)]
    refine ⟨fun hx => ?_, fun hx => ?_⟩
    · rw [if_neg] at h
      · exact h
      · simp at hx ⊢; omega
    · have hx' : 0 ≤ n.2.2 ∧ (n.2.1.length : Int) + n.2.2 ≤ 19 := by simp at hx; omega
      rw [if_pos (by simp; omega)] at h
      rw [← intDig_val] at h
      obtain ⟨e, hE⟩ : ∃ e : Nat, n.2.2 = (e : Int) := ⟨n.2.2.toNat, by omega⟩
      show PC Tryz.prog gl 150 [Arg.mk .str (bl [48]), Arg.mk (.int .i64) n.2.2] [.str] _
      rw [hE]
      refine Repeat_pc (by omega) (by rw [bl_size]; simp; omega) ?_
      rw [lb_bl, repeat0, bl_append]
      have hid : n.2.1 ++ List.replicate e 48 = intDig n := by rw [intDig, hE, Int.toNat_natCast]
      have hidl : (intDig n).length ≤ 19 := by rw [← hid]; simp; omega
      have hda := intDig_all hr
      rw [hid]
      refine ⟨fits2 (a := n.2.1) (by rw [List.length_replicate]; omega), ?_⟩
      rw [show (⟨#[]⟩ : ByteArray) = bl [] from rfl, show (⟨#[45]⟩ : ByteArray) = bl [45] from rfl]
      simp only [bl_append]
      intro K hK
      have key : ∀ t : Bs, t = (if n.1 then [45] else []) ++ intDig n → K (bl t) := by
        intro t ht
        refine hK _ ⟨fun hz => ?_, fun hz => ?_⟩
        · have hte : t = [] := by
            have := bl_eq t []
            rw [this] at hz; simpa using hz
          rw [hte] at ht
          have hn1 : n.1 = false := by cases hb : n.1 <;> simp [hb] at ht; rfl
          have hi0 : intDig n = [] := by simp [hn1] at ht; exact ht
          rw [hn1, hi0] at h
          exact h
        · have hne : t ≠ [] := by
            intro e; rw [e, bl_eq] at hz; simp at hz
          refine ParseInt_pc hg.err (by rw [bl_size, ht]; split <;> simp <;> omega) ?_
          rw [lb_bl, ht]
          have hi0 : intDig n ≠ [] := by
            intro e0
            cases hb : n.1 with
            | false => rw [ht, hb, e0] at hne; exact hne rfl
            | true =>
              have hd : n.2.1 = [] := by rw [intDig] at e0; exact (List.append_eq_nil_iff.1 e0).1
              have := nmRight_nil hr hd
              unfold nought at this; rw [hb] at this; simp at this
          unfold parseIntR
          rw [parse_int n.1 hda hidl hi0]
          cases hb : n.1 with
          | true =>
            rw [hb] at h
            simp only [if_true] at h ⊢
            by_cases hv : decVal (intDig n) ≤ 9223372036854775808
            · rw [if_pos (by omega)] at h
              rw [if_pos hv]
              exact ⟨fun hq => (by cases hq), fun _ => h⟩
            · rw [if_neg (by omega)] at h
              rw [if_neg hv]
              exact ⟨fun _ => h, fun hq => (by cases hq)⟩
          | false =>
            rw [hb] at h
            simp only [Bool.false_eq_true, if_false] at h ⊢
            by_cases hv : decVal (intDig n) ≤ 9223372036854775807
            · rw [if_pos (by omega)] at h
              rw [if_pos hv]
              exact ⟨fun hq => (by cases hq), fun _ => h⟩
            · rw [if_neg (by omega)] at h
              rw [if_neg hv]
              exact ⟨fun _ => h, fun hq => (by cases hq)⟩
      refine ⟨fun hx3 => ⟨fits2 (a := [45]) (by simp; omega), ?_⟩, fun hx3 => ?_⟩
      · exact key _ (by rw [if_pos (by simpa using hx3)])
      · exact key _ (by rw [if_neg (by simpa using hx3)]; rfl)
end Go.Proofs.YtaoceiiakcpbaaaGreatDoor
end
section
namespace Go.Proofs.YtaoceiiakcpbaaaGreatDoor
open Go Go.X Go.ChangeShapes Go.WideShapes Go.ChangeAt Go.RowKit Go.Lib
open Go.ChangeMaps (open_string shut_string)
set_option linter.unusedVariables false
theorem Tryz.own : ownKnob Tryz.prog.godebug = none := by kernel_rfl
theorem Tryz.laidOut : laidOutB Tryz.prog = true := by kernel_rfl
theorem handed_shaped {H : Type} {enc : TypeId × Value → H} {a : Assume} {C : Checked} {os : Os} {f : FuncId} {fn : Func} {s : ChangeSpec} {conds : List PathCond} {apart fresh handsOn again : Bool} {X : World → Array Value → Prop}
    (hX : ∀ (w w' : World) (args : Array Value), w.heap = w'.heap → X w args → X w' args)
    (own : ownKnob C.prog.godebug = none) (started : os.Started) (noInit : C.prog.inits.idxOf? f = none) (hfn : C.prog.funcs[f]? = some fn)
    (witness : ∃ (w : World) (tape : Tape) (i : Input), w.os = os ∧ (w.forCall tape i).Shaped C.prog ∧ i.vars = [] ∧ Input.okWide C.prog (w.forCall tape i) .any w.heap.size f i ∧
      ((s.pre enc C.prog fn conds apart (w.forCall tape i).memory i.args ∧ X (w.forCall tape i).memory i.args) ∧ sizedMet enc C.prog fn (OpenSpec.ofChange s) apart (w.forCall tape i).memory i.args) ∧ a.holds C.prog (lone (Frame.enter C.prog f i.args .normal) [] (w.forCall tape i)))
    (contract : ∀ (W : World) (base : Nat) (args : Array Value) (ds gs : List (DataW H)) (before : List MemPlace),
      (∀ (j : Nat) t v, fn.params[j]? = some t → args[j]? = some v → Value.okWide C.prog W .any base t v) →
      DataW.Whole enc C.prog fn.params.toList s.vars apart W args.toList ds gs before →
      (DataW.weightsEach C.prog (fn.params.toList ++ s.plain.varTypes C.prog) (ds ++ gs)).all (· ≤ reachBytes) = true →
      X W args → W.ShapedOpen C.prog →
      Calls C.prog f args W fun e W' => ∃ v, e = .returned v ∧ s.post enc C.prog fn apart fresh handsOn again W args v W') :
    ReturnsInHanded a C os f .any (fun w args => (s.pre enc C.prog fn conds apart w args ∧ X w args) ∧ sizedMet enc C.prog fn (OpenSpec.ofChange s) apart w args) (s.post enc C.prog fn apart fresh handsOn again) := by
  refine returnsInHanded_of_calls own started noInit witness ?_
  intro w tape i _ hsh _ hok hpre hholds
  obtain ⟨_, _, _, fn', hfn', _, _, _, _, hval⟩ := hok
  have e : fn' = fn := Option.some.inj (hfn'.symm.trans hfn)
  subst e
  obtain ⟨⟨⟨ds, gs, before, hw, hc⟩, hx⟩, hz⟩ := hpre
  have hw' := DataW.Whole.of_heap (w' := w.forCall tape i) (by rfl) hw
  refine (contract (w.forCall tape i) w.heap.size i.args ds gs before hval hw' (hz.weights hw) (hX _ _ _ (by rfl) hx) hsh).mono fun e W' ⟨v, he, hp⟩ => ?_
  subst he
  exact ChangeSpec.post_blind hp
theorem tab_of {P : Program} {W : World} {n : String} {k : IntKind} {zs : List Int} {g : Nat} {t e : TypeId} {m : Nat} (hg : P.globalNamed n = some g) (ht : (P.globals[g]?).map (·.type) = some t) (hu : P.underlying t = some (.array m e)) (he : P.underlying e = some (.int k))
    (hce : P.cellsOf e = 1) (hct : P.cellsOf t = m) (h : VarReads P W n (tabData k zs)) : ∃ cs : Array Value, Fz W g = some cs ∧ cs.toList = zs.map fun z => Value.int k z := by
  obtain ⟨g', t', cs, fuel, p, hg', hty, hvar, hd⟩ := h
  obtain rfl := Option.some.inj (hg.symm.trans hg')
  obtain rfl := Option.some.inj (ht.symm.trans hty)
  exact ⟨cs, Fz.var hg hvar, cells_of_tab hu he hce hct hd⟩
theorem first_of {W : World} (h : VarReads Tryz.prog W "unicode/utf8.first" Pinned.utf8First) : ∃ cs : Array Value, Fz W 1 = some cs ∧ ∀ c, c < 256 → cs[c]? = some (.int .u8 (Lib.firstT c)) := by
  rw [Pinned.utf8First_eq] at h
  obtain ⟨cs, h1, h2⟩ := tab_of (g := 1) (t := 136) (e := 5) (m := 256) (by kernel_rfl) (by kernel_rfl) (by kernel_rfl) (by kernel_rfl) (by kernel_rfl) (by kernel_rfl) h
  refine ⟨cs, h1, fun c hc => ?_⟩
  rw [← Array.getElem?_toList, h2]
  simp [firstTab, hc]
theorem accept_of {W : World} (h : VarReads Tryz.prog W "unicode/utf8.acceptRanges" acceptData) : ∃ cs : Array Value, Fz W 2 = some cs ∧ ∀ i, i < 16 → cs[2 * i]? = some (.int .u8 (Lib.accLo i)) ∧ cs[2 * i + 1]? = some (.int .u8 (Lib.accHi i)) := by
  obtain ⟨g, t, cs, fuel, p, hg, hty, hvar, hd⟩ := h
  obtain rfl := Option.some.inj ((show Tryz.prog.globalNamed "unicode/utf8.acceptRanges" = some 2 by kernel_rfl).symm.trans hg)
  obtain rfl := Option.some.inj ((show (Tryz.prog.globals[2]?).map (·.type) = some 139 by kernel_rfl).symm.trans hty)
  refine ⟨cs, Fz.var hg hvar, fun i hi => ?_⟩
  obtain ⟨fuel', d, q, hdi, he⟩ := array_elem (show Tryz.prog.underlying 139 = some (.array 16 138) by kernel_rfl) hd i hi
  simp only [List.getElem?_map, List.getElem?_range hi, Option.map_some, Option.some.injEq] at hdi
  subst hdi
  have hc : Tryz.prog.cellsOf 138 = 2 := by kernel_rfl
  have c5 : Tryz.prog.cellsOf 5 = 1 := by kernel_rfl
  have u5 : Tryz.prog.underlying 5 = some (.int .u8) := by kernel_rfl
  rw [hc] at he
  have hcs := ints_of_struct Tryz.underlying138 (fun j f hj => by
    match j, hj with
    | 0, hj => simp at hj; subst hj; exact ⟨u5, rfl, c5⟩
    | 1, hj => simp at hj; subst hj; exact ⟨u5, rfl, c5⟩
    | j + 2, hj => simp at hj) (by rw [hc]; rfl) he
  have e0 := congrArg (·[0]?) hcs
  have e1 := congrArg (·[1]?) hcs
  simp only [List.getElem?_take, List.getElem?_drop] at e0 e1
  constructor
  · rw [← Array.getElem?_toList]
    simpa [Nat.mul_comm] using e0
  · rw [← Array.getElem?_toList]
    simpa [Nat.mul_comm] using e1
theorem pow_of {W : World} {d : DataW Unit} (hd : d = tabData .u64 Lib.pow10Tab) (h : VarReads Tryz.prog W "internal/strconv.uint64pow10" d) : Pow (Fz W) := by
  subst hd
  obtain ⟨cs, h1, h2⟩ := tab_of (g := 5) (t := 180) (e := 147) (m := 20) (by kernel_rfl) (by kernel_rfl) (by kernel_rfl) (by kernel_rfl) (by kernel_rfl) (by kernel_rfl) h
  exact ⟨_, cs, by kernel_rfl, h1, by rw [← h2]⟩
theorem err_of {W : World} {n : String} {g : Nat} {t : TypeId} {ms : Array (String × TypeId)} {nm : String} {d : DataW Unit} (hg : Tryz.prog.globalNamed n = some g) (ht : (Tryz.prog.globals[g]?).map (·.type) = some t) (hu : Tryz.prog.underlying t = some (.interface ms)) (h : VarReads Tryz.prog W n (.iface nm d)) :
    ∃ (cs : Array Value) (e : Value), Fz W g = some cs ∧ cs[0]? = some e ∧ (e = .nilIface ∨ ∃ te pe, e = .iface te pe) := by
  obtain ⟨g', t', cs, fuel, p, hg', hty, hvar, hd⟩ := h
  obtain rfl := Option.some.inj (hg.symm.trans hg')
  obtain rfl := Option.some.inj (ht.symm.trans hty)
  obtain ⟨f1, u, v, hcs, _, _⟩ := iface_of_trod hu hd
  exact ⟨cs, .iface u v, Fz.var hg hvar, by rw [← Array.getElem?_toList, hcs]; rfl, .inr ⟨u, v, rfl⟩⟩
theorem max_of {W : World} (h : W.ShapedOpen Tryz.prog) : MaxLen (Fz W) := by
  obtain ⟨m, hm⟩ := cell_of_shapedOpen_int (P := Tryz.prog) (g := 0) (t := 3) (zero := #[.int .i64 0]) (k := .i64) h (by decide +kernel) (by kernel_rfl) rfl (by kernel_rfl) (by kernel_rfl) (by kernel_rfl)
  obtain ⟨b, o, c, e, h1, h2⟩ := Fz.cell hm
  cases e
  exact ⟨c, m, h1, h2⟩
def laidL : List (String × DataW Unit) := Rows.pointerBackRow.laid
theorem GL_of {W : World} (h : laidMetH Tryz.prog laidL W) (hs : W.ShapedOpen Tryz.prog) : GL (Fz W) := by
  have hl : laidMet Tryz.prog laidL W := by
    rw [MakeChecks.laidMetH_plain _ _ _ (by kernel_rfl)] at h; exact h
  have hr : ∀ (i : Nat) (n : String) (d : DataW Unit), laidL[i]? = some (n, d) → VarReads Tryz.prog W n d := fun i n d e => Go.Lib.laidMet.reads hl (List.mem_of_getElem? e)
  exact {
    tabs := ⟨first_of (hr 6 _ _ rfl), accept_of (by
      have e : (Rows.laid_unicode_utf8_acceptRanges : DataW Unit) = acceptData := by kernel_rfl
      rw [← e]; exact hr 3 _ _ rfl)⟩
    pow := pow_of (by kernel_rfl) (hr 2 _ _ rfl)
    max := max_of hs
    err := ⟨err_of (g := 3) (t := 59) (by kernel_rfl) (by kernel_rfl) Tryz.underlying59 (hr 5 _ _ rfl), err_of (g := 4) (t := 59) (by kernel_rfl) (by kernel_rfl) Tryz.underlying59 (hr 4 _ _ rfl)⟩ }
noncomputable def witW (os : Os) : World := World.laidAll Tryz.prog os laidL
theorem witW_shaped (os : Os) (args : Array Value) : ((witW os).forCall (fun _ _ => 0) ⟨#[], args, []⟩).Shaped Tryz.prog := World.shaped_of_ZipB (by kernel_rfl) (by kernel_rfl)
theorem witW_met (os : Os) (args : Array Value) : laidMetH Tryz.prog laidL ((witW os).forCall (fun _ _ => 0) ⟨#[], args, []⟩).memory := by
  rw [MakeChecks.laidMetH_plain _ _ _ (by kernel_rfl)]; exact laidMet_laidAll _ (by kernel_rfl) (by kernel_rfl)
theorem in_tree {H : Type} {enc : TypeId × Value → H} {W : World} {sp : Nat → Bool} {held : Bool} (fuel : Nat) (cs : List Value) (x : DataW H × List MemPlace) (h : DataW.trod enc Tryz.prog W 0 sp held fuel 34 cs = some x) (hw : Small Tryz.prog 34 x.1) : ∃ t : Tr, Rd (Fz W) .tree t cs :=
  rd_tree (tk := 3) (ts := 9) (tss := 22) (tvs := 32) Tryz.underlying34 (by kernel_rfl) ⟨rfl, rfl, rfl, rfl, rfl, rfl, rfl, rfl⟩ (by kernel_rfl) (by kernel_rfl) (by kernel_rfl) (by kernel_rfl) (by kernel_rfl) (by kernel_rfl) (by kernel_rfl) (by kernel_rfl) (by decide +kernel) (by decide +kernel) fuel cs x h hw
theorem in_strs {H : Type} {enc : TypeId × Value → H} {W : World} {sp : Nat → Bool} {held : Bool} {fuel : Nat} {cs : List Value} {x : DataW H × List MemPlace} (h : DataW.trod enc Tryz.prog W 0 sp held fuel 22 cs = some x) (hw : Small Tryz.prog 22 x.1) : ∃ xs : List ByteArray, Rd (Fz W) (.row .str) xs cs :=
  rd_strs Tryz.underlying22 Tryz.underlying9 (by kernel_rfl) (by decide +kernel) h hw
theorem small_at {H : Type} {ts : List TypeId} {ds : List (DataW H)} (h : (DataW.weightsEach Tryz.prog ts ds).all (· ≤ reachBytes) = true) {j : Nat} {t : TypeId} {d : DataW H} (ht : ts[j]? = some t) (hd : ds[j]? = some d) : Small Tryz.prog t d := fun n hn => by
  have := List.all_eq_true.1 h n (DataW.weights_mem_each ht hd n hn)
  simpa using this
end Go.Proofs.YtaoceiiakcpbaaaGreatDoor
end
section
namespace Go.Proofs.YtaoceiiakcpbaaaGreatDoor
open Go Go.X Go.Proofs
set_option linter.unusedVariables false
set_option maxRecDepth 100000
theorem pu_scarflaw07_PointerWalks (gl : Fr) (v0 : Tr) (p1 : List ByteArray) (q2 : List ByteArray) (R : Bool → Prop)
    (H : PC Tryz.prog gl 9 [] [.bool] (fun r_1 : Bool => PC Tryz.prog gl 15 [Arg.mk .tree (Tr.mk v0.kind v0.text v0.keys v0.items), Arg.mk (.int .i64) 300] [.bool] (fun r_2 : Bool => ∃ J_3 : Bool → Prop, (r_2 = true → PC Tryz.prog gl 10 [Arg.mk (.row .str) p1] [.bool] J_3) ∧ ∀ r_4 : Bool, (r_2 = true → J_3 r_4) → ∃ J_5 : Bool → Prop, ((bif r_2 then r_4 else false) = true → PC Tryz.prog gl 10 [Arg.mk (.row .str) q2] [.bool] J_5) ∧ ∀ r_6 : Bool, ((bif r_2 then r_4 else false) = true → J_5 r_6) → ((bif (!(bif (bif r_2 then r_4 else false) then r_6 else false)) then true else (decide ((IntKind.wrap .i64 (((List.length p1 : Nat) : Int) + ((List.length q2 : Nat) : Int)) : Int) > 64))) = true → R r_1) ∧ ((bif (!(bif (bif r_2 then r_4 else false) then r_6 else false)) then true else (decide ((IntKind.wrap .i64 (((List.length p1 : Nat) : Int) + ((List.length q2 : Nat) : Int)) : Int) > 64))) = false → PC Tryz.prog gl 16 [Arg.mk .tree (Tr.mk v0.kind v0.text v0.keys v0.items), Arg.mk (.row .str) p1] [.tree, .bool] (fun r_7 : Tr × Bool => PC Tryz.prog gl 16 [Arg.mk .tree (Tr.mk r_7.1.kind r_7.1.text r_7.1.keys r_7.1.items), Arg.mk (.row .str) q2] [.tree, .bool] (fun r_8 : Tr × Bool => ((List.length ([] : List ByteArray) + List.length p1) * 16 ≤ 140737488355328 ∧ ((List.length (([] : List ByteArray) ++ p1) + List.length q2) * 16 ≤ 140737488355328 ∧ PC Tryz.prog gl 16 [Arg.mk .tree (Tr.mk v0.kind v0.text v0.keys v0.items), Arg.mk (.row .str) ((([] : List ByteArray) ++ p1) ++ q2)] [.tree, .bool] (fun r_9 : Tr × Bool => ((!r_7.2) = true → R (bif r_1 then (!r_9.2) else false)) ∧ ((!r_7.2) = false → ∃ J_10 : Bool → Prop, ((bif r_1 then (r_9.2 == r_8.2) else false) = true → PC Tryz.prog gl 17 [Arg.mk .tree (Tr.mk r_8.1.kind r_8.1.text r_8.1.keys r_8.1.items), Arg.mk .tree (Tr.mk r_9.1.kind r_9.1.text r_9.1.keys r_9.1.items)] [.bool] J_10) ∧ ∀ r_11 : Bool, ((bif r_1 then (r_9.2 == r_8.2) else false) = true → J_10 r_11) → R (bif (bif r_1 then (r_9.2 == r_8.2) else false) then r_11 else false))))))))))) :
    PC Tryz.prog gl 4 [Arg.mk .tree v0, Arg.mk (.row .str) p1, Arg.mk (.row .str) q2] [.bool] R :=
  PC_of_form Tryz.mixed gl 34 ⟨[], [(7, 11, [], [0, 1, 2, 4, 10, 3, 5, 6, 7, 8, 9], [9, 2000005, 1003005, 1001003])], [], []⟩ [Arg.mk .tree v0, Arg.mk (.row .str) p1, Arg.mk (.row .str) q2] (rs := [.tmp 6]) (n := 77) Tryz.func4 (by kernel_rfl) (by kernel_rfl) (by kernel_rfl) (by kernel_rfl) H (by kernel_rfl)
end Go.Proofs.YtaoceiiakcpbaaaGreatDoor
end
