/-
  DERIVED. GIVEN WITH THE SEED: THE CARDS: each row of YtplilfikcimcbaaGreatDoorRows.lean that lists a variable, with what it lists TIED to the program's text (the seventh form; the later family's looks); each row that meets fmt, with fmt's text TOLD by the authors' own Lean function (tested against real Go, not proved from fmt's source: count such statements apart). THE CARD IS WHAT COUNTS. Prove the row's statement (the work); the ties are given (YtplilfikcimcbaaGreatDoorTie.lean); close each card by the builder's one call (the guide's Derived/Test/ToyasCard.lean, 'card_holds'). Laid BY PROGRAM, IN A SANDBOX (cutbox-door.mjs). By AI agents, Wed Nov 11 2026. No macro, syntax, notation, axiom, sorry.
-/
import Derived.Test.YtplilfikcimcbaaGreatDoorRows
import GoSem.ClaimSeven
namespace Go.Proofs.YtplilfikcimcbaaGreatDoor
namespace Rows

/-- THE TIED CARD OF 'scarflaw15.TreeFroms'. -/
def treeFromsCard : Claim7 := { stood := { row := treeFromsRow, standIns := [], harness := (true, "d4aba09234a65c7f4d29bd0d864b029f59306d85c0a3492698ddf1dfb64c2b83"), looks := true }, kinds := [], alts := [], laidByText := true, laidKinds := [.data, .data, .data, .data, .sentinel, .sentinel, .pinned], laidTests := true, laidLooks := .later }
def TreeFromsCardSaid : Prop := Claim7.holds Tryz.pinned (.plain (OpenSpec.ofChange treeFromsSpec)) treeFromsCard

/-- THE TIED CARD OF 'scarflaw15.TreeTells'. -/
def treeTellsCard : Claim7 := { stood := { row := treeTellsRow, standIns := [], harness := (true, "d4aba09234a65c7f4d29bd0d864b029f59306d85c0a3492698ddf1dfb64c2b83"), looks := true }, kinds := [], alts := [], laidByText := true, laidKinds := [.data, .data, .data, .data, .sentinel, .sentinel, .pinned], laidTests := true, laidLooks := .later }
def TreeTellsCardSaid : Prop := Claim7.holds Tryz.pinned (.plain (OpenSpec.ofChange treeTellsSpec)) treeTellsCard

/-- THE TIED CARD OF 'scarflaw22.DiffTells'. -/
def diffTellsCard : Claim7 := { stood := { row := diffTellsRow, standIns := [], harness := (true, "d4aba09234a65c7f4d29bd0d864b029f59306d85c0a3492698ddf1dfb64c2b83"), looks := true }, kinds := [], alts := [], laidByText := true, laidKinds := [.data, .data, .data, .data, .sentinel, .sentinel, .pinned], laidTests := true, laidLooks := .later }
def DiffTellsCardSaid : Prop := Claim7.holds Tryz.pinned (.plain (OpenSpec.ofChange diffTellsSpec)) diffTellsCard

/-- THE TIED CARD OF 'scarflaw22.DiffReports'. -/
def diffReportsCard : Claim7 := { stood := { row := diffReportsRow, standIns := [], harness := (true, "d4aba09234a65c7f4d29bd0d864b029f59306d85c0a3492698ddf1dfb64c2b83"), looks := true }, kinds := [], alts := [], laidByText := true, laidKinds := [.data, .data, .data, .data, .sentinel, .sentinel, .pinned], laidTests := true, laidLooks := .later }
def DiffReportsCardSaid : Prop := Claim7.holds Tryz.pinned (.plain (OpenSpec.ofChange diffReportsSpec)) diffReportsCard

/-- THE TIED CARD OF 'scarflaw22.DiffCounts'. -/
def diffCountsCard : Claim7 := { stood := { row := diffCountsRow, standIns := [], harness := (true, "d4aba09234a65c7f4d29bd0d864b029f59306d85c0a3492698ddf1dfb64c2b83"), looks := true }, kinds := [], alts := [], laidByText := true, laidKinds := [.data, .data, .data, .data, .sentinel, .sentinel, .pinned], laidTests := true, laidLooks := .later }
def DiffCountsCardSaid : Prop := Claim7.holds Tryz.pinned (.plain (OpenSpec.ofChange diffCountsSpec)) diffCountsCard

/-- THE TIED CARD OF 'scarflaw22.DiffNone'. -/
def diffNoneCard : Claim7 := { stood := { row := diffNoneRow, standIns := [], harness := (true, "d4aba09234a65c7f4d29bd0d864b029f59306d85c0a3492698ddf1dfb64c2b83"), looks := true }, kinds := [], alts := [], laidByText := true, laidKinds := [.data, .data, .data, .data, .sentinel, .sentinel, .pinned], laidTests := true, laidLooks := .later }
def DiffNoneCardSaid : Prop := Claim7.holds Tryz.pinned (.plain (OpenSpec.ofChange diffNoneSpec)) diffNoneCard

/-- THE TIED CARD OF 'scarflaw22.DiffBeneath'. -/
def diffBeneathCard : Claim7 := { stood := { row := diffBeneathRow, standIns := [], harness := (true, "d4aba09234a65c7f4d29bd0d864b029f59306d85c0a3492698ddf1dfb64c2b83"), looks := true }, kinds := [], alts := [], laidByText := true, laidKinds := [.data, .data, .data, .data, .sentinel, .sentinel, .pinned], laidTests := true, laidLooks := .later }
def DiffBeneathCardSaid : Prop := Claim7.holds Tryz.pinned (.plain (OpenSpec.ofChange diffBeneathSpec)) diffBeneathCard

/-- THE TIED CARD OF 'scarflaw22.DiffTurns'. -/
def diffTurnsCard : Claim7 := { stood := { row := diffTurnsRow, standIns := [], harness := (true, "d4aba09234a65c7f4d29bd0d864b029f59306d85c0a3492698ddf1dfb64c2b83"), looks := true }, kinds := [], alts := [], laidByText := true, laidKinds := [.data, .data, .data, .data, .sentinel, .sentinel, .pinned], laidTests := true, laidLooks := .later }
def DiffTurnsCardSaid : Prop := Claim7.holds Tryz.pinned (.plain (OpenSpec.ofChange diffTurnsSpec)) diffTurnsCard

/-- THE SECOND FORM's CARD OF 'scarflaw15.TreeFroms'. -/
def treeFromsUptoCard : Claim7 := { stood := { row := treeFromsUptoRow, standIns := [], harness := (true, "d4aba09234a65c7f4d29bd0d864b029f59306d85c0a3492698ddf1dfb64c2b83"), looks := true }, kinds := [], alts := [], laidByText := true, laidKinds := [.data, .data, .data, .data, .sentinel, .sentinel, .pinned], laidTests := true, laidLooks := .later }
def TreeFromsUptoCardSaid : Prop := Claim7.holds Tryz.pinned (.plain (OpenSpec.upto treeFromsSpec)) treeFromsUptoCard

/-- THE SECOND FORM's CARD OF 'scarflaw15.TreeTells'. -/
def treeTellsUptoCard : Claim7 := { stood := { row := treeTellsUptoRow, standIns := [], harness := (true, "d4aba09234a65c7f4d29bd0d864b029f59306d85c0a3492698ddf1dfb64c2b83"), looks := true }, kinds := [], alts := [], laidByText := true, laidKinds := [.data, .data, .data, .data, .sentinel, .sentinel, .pinned], laidTests := true, laidLooks := .later }
def TreeTellsUptoCardSaid : Prop := Claim7.holds Tryz.pinned (.plain (OpenSpec.upto treeTellsSpec)) treeTellsUptoCard

/-- THE SECOND FORM's CARD OF 'scarflaw22.DiffTells'. -/
def diffTellsUptoCard : Claim7 := { stood := { row := diffTellsUptoRow, standIns := [], harness := (true, "d4aba09234a65c7f4d29bd0d864b029f59306d85c0a3492698ddf1dfb64c2b83"), looks := true }, kinds := [], alts := [], laidByText := true, laidKinds := [.data, .data, .data, .data, .sentinel, .sentinel, .pinned], laidTests := true, laidLooks := .later }
def DiffTellsUptoCardSaid : Prop := Claim7.holds Tryz.pinned (.plain (OpenSpec.upto diffTellsSpec)) diffTellsUptoCard

/-- THE SECOND FORM's CARD OF 'scarflaw22.DiffReports'. -/
def diffReportsUptoCard : Claim7 := { stood := { row := diffReportsUptoRow, standIns := [], harness := (true, "d4aba09234a65c7f4d29bd0d864b029f59306d85c0a3492698ddf1dfb64c2b83"), looks := true }, kinds := [], alts := [], laidByText := true, laidKinds := [.data, .data, .data, .data, .sentinel, .sentinel, .pinned], laidTests := true, laidLooks := .later }
def DiffReportsUptoCardSaid : Prop := Claim7.holds Tryz.pinned (.plain (OpenSpec.upto diffReportsSpec)) diffReportsUptoCard

/-- THE SECOND FORM's CARD OF 'scarflaw22.DiffCounts'. -/
def diffCountsUptoCard : Claim7 := { stood := { row := diffCountsUptoRow, standIns := [], harness := (true, "d4aba09234a65c7f4d29bd0d864b029f59306d85c0a3492698ddf1dfb64c2b83"), looks := true }, kinds := [], alts := [], laidByText := true, laidKinds := [.data, .data, .data, .data, .sentinel, .sentinel, .pinned], laidTests := true, laidLooks := .later }
def DiffCountsUptoCardSaid : Prop := Claim7.holds Tryz.pinned (.plain (OpenSpec.upto diffCountsSpec)) diffCountsUptoCard

/-- THE SECOND FORM's CARD OF 'scarflaw22.DiffNone'. -/
def diffNoneUptoCard : Claim7 := { stood := { row := diffNoneUptoRow, standIns := [], harness := (true, "d4aba09234a65c7f4d29bd0d864b029f59306d85c0a3492698ddf1dfb64c2b83"), looks := true }, kinds := [], alts := [], laidByText := true, laidKinds := [.data, .data, .data, .data, .sentinel, .sentinel, .pinned], laidTests := true, laidLooks := .later }
def DiffNoneUptoCardSaid : Prop := Claim7.holds Tryz.pinned (.plain (OpenSpec.upto diffNoneSpec)) diffNoneUptoCard

/-- THE SECOND FORM's CARD OF 'scarflaw22.DiffBeneath'. -/
def diffBeneathUptoCard : Claim7 := { stood := { row := diffBeneathUptoRow, standIns := [], harness := (true, "d4aba09234a65c7f4d29bd0d864b029f59306d85c0a3492698ddf1dfb64c2b83"), looks := true }, kinds := [], alts := [], laidByText := true, laidKinds := [.data, .data, .data, .data, .sentinel, .sentinel, .pinned], laidTests := true, laidLooks := .later }
def DiffBeneathUptoCardSaid : Prop := Claim7.holds Tryz.pinned (.plain (OpenSpec.upto diffBeneathSpec)) diffBeneathUptoCard

/-- THE SECOND FORM's CARD OF 'scarflaw22.DiffTurns'. -/
def diffTurnsUptoCard : Claim7 := { stood := { row := diffTurnsUptoRow, standIns := [], harness := (true, "d4aba09234a65c7f4d29bd0d864b029f59306d85c0a3492698ddf1dfb64c2b83"), looks := true }, kinds := [], alts := [], laidByText := true, laidKinds := [.data, .data, .data, .data, .sentinel, .sentinel, .pinned], laidTests := true, laidLooks := .later }
def DiffTurnsUptoCardSaid : Prop := Claim7.holds Tryz.pinned (.plain (OpenSpec.upto diffTurnsSpec)) diffTurnsUptoCard
end Rows
end Go.Proofs.YtplilfikcimcbaaGreatDoor
