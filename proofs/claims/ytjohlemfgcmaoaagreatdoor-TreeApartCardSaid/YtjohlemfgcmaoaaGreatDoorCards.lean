/-
  DERIVED. GIVEN WITH THE SEED: THE CARDS: each row of YtjohlemfgcmaoaaGreatDoorRows.lean that lists a variable, with what it lists TIED to the program's text (the seventh form; the later family's looks); each row that meets fmt, with fmt's text TOLD by the authors' own Lean function (tested against real Go, not proved from fmt's source: count such statements apart). THE CARD IS WHAT COUNTS. Prove the row's statement (the work); the ties are given (YtjohlemfgcmaoaaGreatDoorTie.lean); close each card by the builder's one call (the guide's Derived/Test/ToyasCard.lean, 'card_holds'). Laid BY PROGRAM, IN A SANDBOX (cutbox-door.mjs). By AI agents, Wed Nov 11 2026. No macro, syntax, notation, axiom, sorry.
-/
import Derived.Test.YtjohlemfgcmaoaaGreatDoorRows
import GoSem.ClaimSeven
namespace Go.Proofs.YtjohlemfgcmaoaaGreatDoor
namespace Rows

/-- THE TIED CARD OF 'scarflaw09.ReadReads'. -/
def readReadsCard : Claim7 := { stood := { row := readReadsRow, standIns := [], harness := (true, "f4175d477fc9cabb7fed400f14f396e7c5fe7eb1e191b280800561e608d17418"), looks := true }, kinds := [], alts := [], laidByText := true, laidKinds := [.data, .data, .data, .data, .sentinel, .sentinel, .pinned], laidTests := true, laidLooks := .later }
def ReadReadsCardSaid : Prop := Claim7.holds Tryz.pinned (.plain (OpenSpec.ofChange readReadsSpec)) readReadsCard

/-- THE TIED CARD OF 'scarflaw09.ReadNodes'. -/
def readNodesCard : Claim7 := { stood := { row := readNodesRow, standIns := [], harness := (true, "f4175d477fc9cabb7fed400f14f396e7c5fe7eb1e191b280800561e608d17418"), looks := true }, kinds := [], alts := [], laidByText := true, laidKinds := [.data, .data, .data, .data, .sentinel, .sentinel, .pinned], laidTests := true, laidLooks := .later }
def ReadNodesCardSaid : Prop := Claim7.holds Tryz.pinned (.plain (OpenSpec.ofChange readNodesSpec)) readNodesCard

/-- THE TIED CARD OF 'scarflaw09.ReadScalars'. -/
def readScalarsCard : Claim7 := { stood := { row := readScalarsRow, standIns := [], harness := (true, "f4175d477fc9cabb7fed400f14f396e7c5fe7eb1e191b280800561e608d17418"), looks := true }, kinds := [], alts := [], laidByText := true, laidKinds := [.data, .data, .data, .data, .sentinel, .sentinel, .pinned], laidTests := true, laidLooks := .later }
def ReadScalarsCardSaid : Prop := Claim7.holds Tryz.pinned (.plain (OpenSpec.ofChange readScalarsSpec)) readScalarsCard

/-- THE TIED CARD OF 'scarflaw09.ReadPaths'. -/
def readPathsCard : Claim7 := { stood := { row := readPathsRow, standIns := [], harness := (true, "f4175d477fc9cabb7fed400f14f396e7c5fe7eb1e191b280800561e608d17418"), looks := true }, kinds := [], alts := [], laidByText := true, laidKinds := [.data, .data, .data, .data, .sentinel, .sentinel, .pinned], laidTests := true, laidLooks := .later }
def ReadPathsCardSaid : Prop := Claim7.holds Tryz.pinned (.plain (OpenSpec.ofChange readPathsSpec)) readPathsCard

/-- THE TIED CARD OF 'scarflaw09.ReadBack'. -/
def readBackCard : Claim7 := { stood := { row := readBackRow, standIns := [], harness := (true, "f4175d477fc9cabb7fed400f14f396e7c5fe7eb1e191b280800561e608d17418"), looks := true }, kinds := [], alts := [], laidByText := true, laidKinds := [.data, .data, .data, .data, .sentinel, .sentinel, .pinned], laidTests := true, laidLooks := .later }
def ReadBackCardSaid : Prop := Claim7.holds Tryz.pinned (.plain (OpenSpec.ofChange readBackSpec)) readBackCard

/-- THE TIED CARD OF 'scarflaw15.TreeFroms'. -/
def treeFromsCard : Claim7 := { stood := { row := treeFromsRow, standIns := [], harness := (true, "f4175d477fc9cabb7fed400f14f396e7c5fe7eb1e191b280800561e608d17418"), looks := true }, kinds := [], alts := [], laidByText := true, laidKinds := [.data, .data, .data, .data, .sentinel, .sentinel, .pinned], laidTests := true, laidLooks := .later }
def TreeFromsCardSaid : Prop := Claim7.holds Tryz.pinned (.plain (OpenSpec.ofChange treeFromsSpec)) treeFromsCard

/-- THE TIED CARD OF 'scarflaw15.TreeTells'. -/
def treeTellsCard : Claim7 := { stood := { row := treeTellsRow, standIns := [], harness := (true, "f4175d477fc9cabb7fed400f14f396e7c5fe7eb1e191b280800561e608d17418"), looks := true }, kinds := [], alts := [], laidByText := true, laidKinds := [.data, .data, .data, .data, .sentinel, .sentinel, .pinned], laidTests := true, laidLooks := .later }
def TreeTellsCardSaid : Prop := Claim7.holds Tryz.pinned (.plain (OpenSpec.ofChange treeTellsSpec)) treeTellsCard

/-- THE TIED CARD OF 'scarflaw15.TreeApart'. -/
def treeApartCard : Claim7 := { stood := { row := treeApartRow, standIns := [], harness := (true, "f4175d477fc9cabb7fed400f14f396e7c5fe7eb1e191b280800561e608d17418"), looks := true }, kinds := [], alts := [], laidByText := true, laidKinds := [.data, .data, .data, .data, .sentinel, .sentinel, .pinned], laidTests := true, laidLooks := .later }
def TreeApartCardSaid : Prop := Claim7.holds Tryz.pinned (.plain (OpenSpec.ofChange treeApartSpec)) treeApartCard

/-- THE TIED CARD OF 'scarflaw15.TreeKids'. -/
def treeKidsCard : Claim7 := { stood := { row := treeKidsRow, standIns := [], harness := (true, "f4175d477fc9cabb7fed400f14f396e7c5fe7eb1e191b280800561e608d17418"), looks := true }, kinds := [], alts := [], laidByText := true, laidKinds := [.data, .data, .data, .data, .sentinel, .sentinel, .pinned], laidTests := true, laidLooks := .later }
def TreeKidsCardSaid : Prop := Claim7.holds Tryz.pinned (.plain (OpenSpec.ofChange treeKidsSpec)) treeKidsCard

/-- THE TIED CARD OF 'scarflaw15.TreeCounts'. -/
def treeCountsCard : Claim7 := { stood := { row := treeCountsRow, standIns := [], harness := (true, "f4175d477fc9cabb7fed400f14f396e7c5fe7eb1e191b280800561e608d17418"), looks := true }, kinds := [], alts := [], laidByText := true, laidKinds := [.data, .data, .data, .data, .sentinel, .sentinel, .pinned], laidTests := true, laidLooks := .later }
def TreeCountsCardSaid : Prop := Claim7.holds Tryz.pinned (.plain (OpenSpec.ofChange treeCountsSpec)) treeCountsCard

/-- THE SECOND FORM's CARD OF 'scarflaw09.ReadReads'. -/
def readReadsUptoCard : Claim7 := { stood := { row := readReadsUptoRow, standIns := [], harness := (true, "f4175d477fc9cabb7fed400f14f396e7c5fe7eb1e191b280800561e608d17418"), looks := true }, kinds := [], alts := [], laidByText := true, laidKinds := [.data, .data, .data, .data, .sentinel, .sentinel, .pinned], laidTests := true, laidLooks := .later }
def ReadReadsUptoCardSaid : Prop := Claim7.holds Tryz.pinned (.plain (OpenSpec.upto readReadsSpec)) readReadsUptoCard

/-- THE SECOND FORM's CARD OF 'scarflaw09.ReadNodes'. -/
def readNodesUptoCard : Claim7 := { stood := { row := readNodesUptoRow, standIns := [], harness := (true, "f4175d477fc9cabb7fed400f14f396e7c5fe7eb1e191b280800561e608d17418"), looks := true }, kinds := [], alts := [], laidByText := true, laidKinds := [.data, .data, .data, .data, .sentinel, .sentinel, .pinned], laidTests := true, laidLooks := .later }
def ReadNodesUptoCardSaid : Prop := Claim7.holds Tryz.pinned (.plain (OpenSpec.upto readNodesSpec)) readNodesUptoCard

/-- THE SECOND FORM's CARD OF 'scarflaw09.ReadScalars'. -/
def readScalarsUptoCard : Claim7 := { stood := { row := readScalarsUptoRow, standIns := [], harness := (true, "f4175d477fc9cabb7fed400f14f396e7c5fe7eb1e191b280800561e608d17418"), looks := true }, kinds := [], alts := [], laidByText := true, laidKinds := [.data, .data, .data, .data, .sentinel, .sentinel, .pinned], laidTests := true, laidLooks := .later }
def ReadScalarsUptoCardSaid : Prop := Claim7.holds Tryz.pinned (.plain (OpenSpec.upto readScalarsSpec)) readScalarsUptoCard

/-- THE SECOND FORM's CARD OF 'scarflaw09.ReadPaths'. -/
def readPathsUptoCard : Claim7 := { stood := { row := readPathsUptoRow, standIns := [], harness := (true, "f4175d477fc9cabb7fed400f14f396e7c5fe7eb1e191b280800561e608d17418"), looks := true }, kinds := [], alts := [], laidByText := true, laidKinds := [.data, .data, .data, .data, .sentinel, .sentinel, .pinned], laidTests := true, laidLooks := .later }
def ReadPathsUptoCardSaid : Prop := Claim7.holds Tryz.pinned (.plain (OpenSpec.upto readPathsSpec)) readPathsUptoCard

/-- THE SECOND FORM's CARD OF 'scarflaw09.ReadBack'. -/
def readBackUptoCard : Claim7 := { stood := { row := readBackUptoRow, standIns := [], harness := (true, "f4175d477fc9cabb7fed400f14f396e7c5fe7eb1e191b280800561e608d17418"), looks := true }, kinds := [], alts := [], laidByText := true, laidKinds := [.data, .data, .data, .data, .sentinel, .sentinel, .pinned], laidTests := true, laidLooks := .later }
def ReadBackUptoCardSaid : Prop := Claim7.holds Tryz.pinned (.plain (OpenSpec.upto readBackSpec)) readBackUptoCard

/-- THE SECOND FORM's CARD OF 'scarflaw15.TreeFroms'. -/
def treeFromsUptoCard : Claim7 := { stood := { row := treeFromsUptoRow, standIns := [], harness := (true, "f4175d477fc9cabb7fed400f14f396e7c5fe7eb1e191b280800561e608d17418"), looks := true }, kinds := [], alts := [], laidByText := true, laidKinds := [.data, .data, .data, .data, .sentinel, .sentinel, .pinned], laidTests := true, laidLooks := .later }
def TreeFromsUptoCardSaid : Prop := Claim7.holds Tryz.pinned (.plain (OpenSpec.upto treeFromsSpec)) treeFromsUptoCard

/-- THE SECOND FORM's CARD OF 'scarflaw15.TreeTells'. -/
def treeTellsUptoCard : Claim7 := { stood := { row := treeTellsUptoRow, standIns := [], harness := (true, "f4175d477fc9cabb7fed400f14f396e7c5fe7eb1e191b280800561e608d17418"), looks := true }, kinds := [], alts := [], laidByText := true, laidKinds := [.data, .data, .data, .data, .sentinel, .sentinel, .pinned], laidTests := true, laidLooks := .later }
def TreeTellsUptoCardSaid : Prop := Claim7.holds Tryz.pinned (.plain (OpenSpec.upto treeTellsSpec)) treeTellsUptoCard

/-- THE SECOND FORM's CARD OF 'scarflaw15.TreeApart'. -/
def treeApartUptoCard : Claim7 := { stood := { row := treeApartUptoRow, standIns := [], harness := (true, "f4175d477fc9cabb7fed400f14f396e7c5fe7eb1e191b280800561e608d17418"), looks := true }, kinds := [], alts := [], laidByText := true, laidKinds := [.data, .data, .data, .data, .sentinel, .sentinel, .pinned], laidTests := true, laidLooks := .later }
def TreeApartUptoCardSaid : Prop := Claim7.holds Tryz.pinned (.plain (OpenSpec.upto treeApartSpec)) treeApartUptoCard

/-- THE SECOND FORM's CARD OF 'scarflaw15.TreeKids'. -/
def treeKidsUptoCard : Claim7 := { stood := { row := treeKidsUptoRow, standIns := [], harness := (true, "f4175d477fc9cabb7fed400f14f396e7c5fe7eb1e191b280800561e608d17418"), looks := true }, kinds := [], alts := [], laidByText := true, laidKinds := [.data, .data, .data, .data, .sentinel, .sentinel, .pinned], laidTests := true, laidLooks := .later }
def TreeKidsUptoCardSaid : Prop := Claim7.holds Tryz.pinned (.plain (OpenSpec.upto treeKidsSpec)) treeKidsUptoCard

/-- THE SECOND FORM's CARD OF 'scarflaw15.TreeCounts'. -/
def treeCountsUptoCard : Claim7 := { stood := { row := treeCountsUptoRow, standIns := [], harness := (true, "f4175d477fc9cabb7fed400f14f396e7c5fe7eb1e191b280800561e608d17418"), looks := true }, kinds := [], alts := [], laidByText := true, laidKinds := [.data, .data, .data, .data, .sentinel, .sentinel, .pinned], laidTests := true, laidLooks := .later }
def TreeCountsUptoCardSaid : Prop := Claim7.holds Tryz.pinned (.plain (OpenSpec.upto treeCountsSpec)) treeCountsUptoCard
end Rows
end Go.Proofs.YtjohlemfgcmaoaaGreatDoor
