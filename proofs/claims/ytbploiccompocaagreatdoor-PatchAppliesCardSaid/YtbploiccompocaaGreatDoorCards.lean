/-
  DERIVED. GIVEN WITH THE SEED: THE CARDS: each row of YtbploiccompocaaGreatDoorRows.lean that lists a variable, with what it lists TIED to the program's text (the seventh form; the later family's looks); each row that meets fmt, with fmt's text TOLD by the authors' own Lean function (tested against real Go, not proved from fmt's source: count such statements apart). THE CARD IS WHAT COUNTS. Prove the row's statement (the work); the ties are given (YtbploiccompocaaGreatDoorTie.lean); close each card by the builder's one call (the guide's Derived/Test/ToyasCard.lean, 'card_holds'). Laid BY PROGRAM, IN A SANDBOX (cutbox-door.mjs). By AI agents, Wed Nov 11 2026. No macro, syntax, notation, axiom, sorry.
-/
import Derived.Test.YtbploiccompocaaGreatDoorRows
import GoSem.ClaimSeven
namespace Go.Proofs.YtbploiccompocaaGreatDoor
namespace Rows

/-- THE TIED CARD OF 'scarflaw21.PatchApplies'. -/
def patchAppliesCard : Claim7 := { stood := { row := patchAppliesRow, standIns := [], harness := (true, "1a9e4a07c4578abbedbfb821c8723f44264d8349e0e86ba7fb363d28de445eef"), looks := true }, kinds := [], alts := [], laidByText := true, laidKinds := [.data, .data, .data, .data, .sentinel, .sentinel, .pinned], laidTests := true, laidLooks := .later }
def PatchAppliesCardSaid : Prop := Claim7.holds Tryz.pinned (.plain (OpenSpec.ofChange patchAppliesSpec)) patchAppliesCard

/-- THE TIED CARD OF 'scarflaw21.PatchParts'. -/
def patchPartsCard : Claim7 := { stood := { row := patchPartsRow, standIns := [], harness := (true, "1a9e4a07c4578abbedbfb821c8723f44264d8349e0e86ba7fb363d28de445eef"), looks := true }, kinds := [], alts := [], laidByText := true, laidKinds := [.data, .data, .data, .data, .sentinel, .sentinel, .pinned], laidTests := true, laidLooks := .later }
def PatchPartsCardSaid : Prop := Claim7.holds Tryz.pinned (.plain (OpenSpec.ofChange patchPartsSpec)) patchPartsCard

/-- THE TIED CARD OF 'scarflaw21.PatchUndoes'. -/
def patchUndoesCard : Claim7 := { stood := { row := patchUndoesRow, standIns := [], harness := (true, "1a9e4a07c4578abbedbfb821c8723f44264d8349e0e86ba7fb363d28de445eef"), looks := true }, kinds := [], alts := [], laidByText := true, laidKinds := [.data, .data, .data, .data, .sentinel, .sentinel, .pinned], laidTests := true, laidLooks := .later }
def PatchUndoesCardSaid : Prop := Claim7.holds Tryz.pinned (.plain (OpenSpec.ofChange patchUndoesSpec)) patchUndoesCard

/-- THE TIED CARD OF 'scarflaw21.PatchCopies'. -/
def patchCopiesCard : Claim7 := { stood := { row := patchCopiesRow, standIns := [], harness := (true, "1a9e4a07c4578abbedbfb821c8723f44264d8349e0e86ba7fb363d28de445eef"), looks := true }, kinds := [], alts := [], laidByText := true, laidKinds := [.data, .data, .data, .data, .sentinel, .sentinel, .pinned], laidTests := true, laidLooks := .later }
def PatchCopiesCardSaid : Prop := Claim7.holds Tryz.pinned (.plain (OpenSpec.ofChange patchCopiesSpec)) patchCopiesCard

/-- THE TIED CARD OF 'scarflaw21.PatchTexts'. -/
def patchTextsCard : Claim7 := { stood := { row := patchTextsRow, standIns := [], harness := (true, "1a9e4a07c4578abbedbfb821c8723f44264d8349e0e86ba7fb363d28de445eef"), looks := true }, kinds := [], alts := [], laidByText := true, laidKinds := [.data, .data, .data, .data, .sentinel, .sentinel, .pinned], laidTests := true, laidLooks := .later }
def PatchTextsCardSaid : Prop := Claim7.holds Tryz.pinned (.plain (OpenSpec.ofChange patchTextsSpec)) patchTextsCard

/-- THE TIED CARD OF 'scarflaw21.PatchBack'. -/
def patchBackCard : Claim7 := { stood := { row := patchBackRow, standIns := [], harness := (true, "1a9e4a07c4578abbedbfb821c8723f44264d8349e0e86ba7fb363d28de445eef"), looks := true }, kinds := [], alts := [], laidByText := true, laidKinds := [.data, .data, .data, .data, .sentinel, .sentinel, .pinned], laidTests := true, laidLooks := .later }
def PatchBackCardSaid : Prop := Claim7.holds Tryz.pinned (.plain (OpenSpec.ofChange patchBackSpec)) patchBackCard

/-- THE SECOND FORM's CARD OF 'scarflaw21.PatchApplies'. -/
def patchAppliesUptoCard : Claim7 := { stood := { row := patchAppliesUptoRow, standIns := [], harness := (true, "1a9e4a07c4578abbedbfb821c8723f44264d8349e0e86ba7fb363d28de445eef"), looks := true }, kinds := [], alts := [], laidByText := true, laidKinds := [.data, .data, .data, .data, .sentinel, .sentinel, .pinned], laidTests := true, laidLooks := .later }
def PatchAppliesUptoCardSaid : Prop := Claim7.holds Tryz.pinned (.plain (OpenSpec.upto patchAppliesSpec)) patchAppliesUptoCard

/-- THE SECOND FORM's CARD OF 'scarflaw21.PatchParts'. -/
def patchPartsUptoCard : Claim7 := { stood := { row := patchPartsUptoRow, standIns := [], harness := (true, "1a9e4a07c4578abbedbfb821c8723f44264d8349e0e86ba7fb363d28de445eef"), looks := true }, kinds := [], alts := [], laidByText := true, laidKinds := [.data, .data, .data, .data, .sentinel, .sentinel, .pinned], laidTests := true, laidLooks := .later }
def PatchPartsUptoCardSaid : Prop := Claim7.holds Tryz.pinned (.plain (OpenSpec.upto patchPartsSpec)) patchPartsUptoCard

/-- THE SECOND FORM's CARD OF 'scarflaw21.PatchUndoes'. -/
def patchUndoesUptoCard : Claim7 := { stood := { row := patchUndoesUptoRow, standIns := [], harness := (true, "1a9e4a07c4578abbedbfb821c8723f44264d8349e0e86ba7fb363d28de445eef"), looks := true }, kinds := [], alts := [], laidByText := true, laidKinds := [.data, .data, .data, .data, .sentinel, .sentinel, .pinned], laidTests := true, laidLooks := .later }
def PatchUndoesUptoCardSaid : Prop := Claim7.holds Tryz.pinned (.plain (OpenSpec.upto patchUndoesSpec)) patchUndoesUptoCard

/-- THE SECOND FORM's CARD OF 'scarflaw21.PatchCopies'. -/
def patchCopiesUptoCard : Claim7 := { stood := { row := patchCopiesUptoRow, standIns := [], harness := (true, "1a9e4a07c4578abbedbfb821c8723f44264d8349e0e86ba7fb363d28de445eef"), looks := true }, kinds := [], alts := [], laidByText := true, laidKinds := [.data, .data, .data, .data, .sentinel, .sentinel, .pinned], laidTests := true, laidLooks := .later }
def PatchCopiesUptoCardSaid : Prop := Claim7.holds Tryz.pinned (.plain (OpenSpec.upto patchCopiesSpec)) patchCopiesUptoCard

/-- THE SECOND FORM's CARD OF 'scarflaw21.PatchTexts'. -/
def patchTextsUptoCard : Claim7 := { stood := { row := patchTextsUptoRow, standIns := [], harness := (true, "1a9e4a07c4578abbedbfb821c8723f44264d8349e0e86ba7fb363d28de445eef"), looks := true }, kinds := [], alts := [], laidByText := true, laidKinds := [.data, .data, .data, .data, .sentinel, .sentinel, .pinned], laidTests := true, laidLooks := .later }
def PatchTextsUptoCardSaid : Prop := Claim7.holds Tryz.pinned (.plain (OpenSpec.upto patchTextsSpec)) patchTextsUptoCard

/-- THE SECOND FORM's CARD OF 'scarflaw21.PatchBack'. -/
def patchBackUptoCard : Claim7 := { stood := { row := patchBackUptoRow, standIns := [], harness := (true, "1a9e4a07c4578abbedbfb821c8723f44264d8349e0e86ba7fb363d28de445eef"), looks := true }, kinds := [], alts := [], laidByText := true, laidKinds := [.data, .data, .data, .data, .sentinel, .sentinel, .pinned], laidTests := true, laidLooks := .later }
def PatchBackUptoCardSaid : Prop := Claim7.holds Tryz.pinned (.plain (OpenSpec.upto patchBackSpec)) patchBackUptoCard
end Rows
end Go.Proofs.YtbploiccompocaaGreatDoor
