/-
  DERIVED. GIVEN WITH THE SEED: THE CARDS: each row of YtlpdhcjkhfkfmaaGreatDoorRows.lean that lists a variable, with what it lists TIED to the program's text (the seventh form; the later family's looks); each row that meets fmt, with fmt's text TOLD by the authors' own Lean function (tested against real Go, not proved from fmt's source: count such statements apart). THE CARD IS WHAT COUNTS. Prove the row's statement (the work); the ties are given (YtlpdhcjkhfkfmaaGreatDoorTie.lean); close each card by the builder's one call (the guide's Derived/Test/ToyasCard.lean, 'card_holds'). Laid BY PROGRAM, IN A SANDBOX (cutbox-door.mjs). By AI agents, Wed Nov 11 2026. No macro, syntax, notation, axiom, sorry.
-/
import Derived.Test.YtlpdhcjkhfkfmaaGreatDoorRows
import GoSem.ClaimSeven
namespace Go.Proofs.YtlpdhcjkhfkfmaaGreatDoor
namespace Rows

/-- THE TIED CARD OF 'scarflaw17.MappingTells'. -/
def mappingTellsCard : Claim7 := { stood := { row := mappingTellsRow, standIns := [], harness := (true, "e349a32359413628a3238a0b852d04d25296f29daabd567b4601fbce58fc907b"), looks := true }, kinds := [], alts := [], laidByText := true, laidKinds := [.data, .data, .data, .data, .sentinel, .sentinel, .pinned], laidTests := true, laidLooks := .later }
def MappingTellsCardSaid : Prop := Claim7.holds Tryz.pinned (.plain (OpenSpec.ofChange mappingTellsSpec)) mappingTellsCard

/-- THE TIED CARD OF 'scarflaw17.MappingCounts'. -/
def mappingCountsCard : Claim7 := { stood := { row := mappingCountsRow, standIns := [], harness := (true, "e349a32359413628a3238a0b852d04d25296f29daabd567b4601fbce58fc907b"), looks := true }, kinds := [], alts := [], laidByText := true, laidKinds := [.data, .data, .data, .data, .sentinel, .sentinel, .pinned], laidTests := true, laidLooks := .later }
def MappingCountsCardSaid : Prop := Claim7.holds Tryz.pinned (.plain (OpenSpec.ofChange mappingCountsSpec)) mappingCountsCard

/-- THE TIED CARD OF 'scarflaw17.MappingTurns'. -/
def mappingTurnsCard : Claim7 := { stood := { row := mappingTurnsRow, standIns := [], harness := (true, "e349a32359413628a3238a0b852d04d25296f29daabd567b4601fbce58fc907b"), looks := true }, kinds := [], alts := [], laidByText := true, laidKinds := [.data, .data, .data, .data, .sentinel, .sentinel, .pinned], laidTests := true, laidLooks := .later }
def MappingTurnsCardSaid : Prop := Claim7.holds Tryz.pinned (.plain (OpenSpec.ofChange mappingTurnsSpec)) mappingTurnsCard

/-- THE TIED CARD OF 'scarflaw17.MappingBest'. -/
def mappingBestCard : Claim7 := { stood := { row := mappingBestRow, standIns := [], harness := (true, "e349a32359413628a3238a0b852d04d25296f29daabd567b4601fbce58fc907b"), looks := true }, kinds := [], alts := [], laidByText := true, laidKinds := [.data, .data, .data, .data, .sentinel, .sentinel, .pinned], laidTests := true, laidLooks := .later }
def MappingBestCardSaid : Prop := Claim7.holds Tryz.pinned (.plain (OpenSpec.ofChange mappingBestSpec)) mappingBestCard

/-- THE TIED CARD OF 'scarflaw17.MappingOver'. -/
def mappingOverCard : Claim7 := { stood := { row := mappingOverRow, standIns := [], harness := (true, "e349a32359413628a3238a0b852d04d25296f29daabd567b4601fbce58fc907b"), looks := true }, kinds := [], alts := [], laidByText := true, laidKinds := [.data, .data, .data, .data, .sentinel, .sentinel, .pinned], laidTests := true, laidLooks := .later }
def MappingOverCardSaid : Prop := Claim7.holds Tryz.pinned (.plain (OpenSpec.ofChange mappingOverSpec)) mappingOverCard

/-- THE SECOND FORM's CARD OF 'scarflaw17.MappingTells'. -/
def mappingTellsUptoCard : Claim7 := { stood := { row := mappingTellsUptoRow, standIns := [], harness := (true, "e349a32359413628a3238a0b852d04d25296f29daabd567b4601fbce58fc907b"), looks := true }, kinds := [], alts := [], laidByText := true, laidKinds := [.data, .data, .data, .data, .sentinel, .sentinel, .pinned], laidTests := true, laidLooks := .later }
def MappingTellsUptoCardSaid : Prop := Claim7.holds Tryz.pinned (.plain (OpenSpec.upto mappingTellsSpec)) mappingTellsUptoCard

/-- THE SECOND FORM's CARD OF 'scarflaw17.MappingCounts'. -/
def mappingCountsUptoCard : Claim7 := { stood := { row := mappingCountsUptoRow, standIns := [], harness := (true, "e349a32359413628a3238a0b852d04d25296f29daabd567b4601fbce58fc907b"), looks := true }, kinds := [], alts := [], laidByText := true, laidKinds := [.data, .data, .data, .data, .sentinel, .sentinel, .pinned], laidTests := true, laidLooks := .later }
def MappingCountsUptoCardSaid : Prop := Claim7.holds Tryz.pinned (.plain (OpenSpec.upto mappingCountsSpec)) mappingCountsUptoCard

/-- THE SECOND FORM's CARD OF 'scarflaw17.MappingTurns'. -/
def mappingTurnsUptoCard : Claim7 := { stood := { row := mappingTurnsUptoRow, standIns := [], harness := (true, "e349a32359413628a3238a0b852d04d25296f29daabd567b4601fbce58fc907b"), looks := true }, kinds := [], alts := [], laidByText := true, laidKinds := [.data, .data, .data, .data, .sentinel, .sentinel, .pinned], laidTests := true, laidLooks := .later }
def MappingTurnsUptoCardSaid : Prop := Claim7.holds Tryz.pinned (.plain (OpenSpec.upto mappingTurnsSpec)) mappingTurnsUptoCard

/-- THE SECOND FORM's CARD OF 'scarflaw17.MappingBest'. -/
def mappingBestUptoCard : Claim7 := { stood := { row := mappingBestUptoRow, standIns := [], harness := (true, "e349a32359413628a3238a0b852d04d25296f29daabd567b4601fbce58fc907b"), looks := true }, kinds := [], alts := [], laidByText := true, laidKinds := [.data, .data, .data, .data, .sentinel, .sentinel, .pinned], laidTests := true, laidLooks := .later }
def MappingBestUptoCardSaid : Prop := Claim7.holds Tryz.pinned (.plain (OpenSpec.upto mappingBestSpec)) mappingBestUptoCard

/-- THE SECOND FORM's CARD OF 'scarflaw17.MappingOver'. -/
def mappingOverUptoCard : Claim7 := { stood := { row := mappingOverUptoRow, standIns := [], harness := (true, "e349a32359413628a3238a0b852d04d25296f29daabd567b4601fbce58fc907b"), looks := true }, kinds := [], alts := [], laidByText := true, laidKinds := [.data, .data, .data, .data, .sentinel, .sentinel, .pinned], laidTests := true, laidLooks := .later }
def MappingOverUptoCardSaid : Prop := Claim7.holds Tryz.pinned (.plain (OpenSpec.upto mappingOverSpec)) mappingOverUptoCard
end Rows
end Go.Proofs.YtlpdhcjkhfkfmaaGreatDoor
