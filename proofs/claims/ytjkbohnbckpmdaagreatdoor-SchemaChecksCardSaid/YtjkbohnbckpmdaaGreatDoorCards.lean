/-
  DERIVED. GIVEN WITH THE SEED: THE CARDS: each row of YtjkbohnbckpmdaaGreatDoorRows.lean that lists a variable, with what it lists TIED to the program's text (the seventh form; the later family's looks); each row that meets fmt, with fmt's text TOLD by the authors' own Lean function (tested against real Go, not proved from fmt's source: count such statements apart). THE CARD IS WHAT COUNTS. Prove the row's statement (the work); the ties are given (YtjkbohnbckpmdaaGreatDoorTie.lean); close each card by the builder's one call (the guide's Derived/Test/ToyasCard.lean, 'card_holds'). Laid BY PROGRAM, IN A SANDBOX (cutbox-door.mjs). By AI agents, Wed Nov 11 2026. No macro, syntax, notation, axiom, sorry.
-/
import Derived.Test.YtjkbohnbckpmdaaGreatDoorRows
import GoSem.ClaimSeven
namespace Go.Proofs.YtjkbohnbckpmdaaGreatDoor
namespace Rows

/-- THE TIED CARD OF 'scarflaw30.SchemaChecks'. -/
def schemaChecksCard : Claim7 := { stood := { row := schemaChecksRow, standIns := [], harness := (true, "27664e4d23140f9cf6813536d35afb6a2279e61828af9920b3399b8430198b52"), looks := true }, kinds := [], alts := [], laidByText := true, laidKinds := [.data, .data, .data, .data, .sentinel, .sentinel, .pinned], laidTests := true, laidLooks := .later }
def SchemaChecksCardSaid : Prop := Claim7.holds Tryz.pinned (.plain (OpenSpec.ofChange schemaChecksSpec)) schemaChecksCard

/-- THE TIED CARD OF 'scarflaw30.SchemaJoins'. -/
def schemaJoinsCard : Claim7 := { stood := { row := schemaJoinsRow, standIns := [], harness := (true, "27664e4d23140f9cf6813536d35afb6a2279e61828af9920b3399b8430198b52"), looks := true }, kinds := [], alts := [], laidByText := true, laidKinds := [.data, .data, .data, .data, .sentinel, .sentinel, .pinned], laidTests := true, laidLooks := .later }
def SchemaJoinsCardSaid : Prop := Claim7.holds Tryz.pinned (.plain (OpenSpec.ofChange schemaJoinsSpec)) schemaJoinsCard

/-- THE TIED CARD OF 'scarflaw30.SchemaOrders'. -/
def schemaOrdersCard : Claim7 := { stood := { row := schemaOrdersRow, standIns := [], harness := (true, "27664e4d23140f9cf6813536d35afb6a2279e61828af9920b3399b8430198b52"), looks := true }, kinds := [], alts := [], laidByText := true, laidKinds := [.data, .data, .data, .data, .sentinel, .sentinel, .pinned], laidTests := true, laidLooks := .later }
def SchemaOrdersCardSaid : Prop := Claim7.holds Tryz.pinned (.plain (OpenSpec.ofChange schemaOrdersSpec)) schemaOrdersCard

/-- THE TIED CARD OF 'scarflaw30.SchemaPlaces'. -/
def schemaPlacesCard : Claim7 := { stood := { row := schemaPlacesRow, standIns := [], harness := (true, "27664e4d23140f9cf6813536d35afb6a2279e61828af9920b3399b8430198b52"), looks := true }, kinds := [], alts := [], laidByText := true, laidKinds := [.data, .data, .data, .data, .sentinel, .sentinel, .pinned], laidTests := true, laidLooks := .later }
def SchemaPlacesCardSaid : Prop := Claim7.holds Tryz.pinned (.plain (OpenSpec.ofChange schemaPlacesSpec)) schemaPlacesCard

/-- THE TIED CARD OF 'scarflaw29.QueryBack'. -/
def queryBackCard : Claim7 := { stood := { row := queryBackRow, standIns := [], harness := (true, "27664e4d23140f9cf6813536d35afb6a2279e61828af9920b3399b8430198b52"), looks := true }, kinds := [], alts := [], laidByText := true, laidKinds := [.data, .data, .data, .data, .sentinel, .sentinel, .pinned], laidTests := true, laidLooks := .later }
def QueryBackCardSaid : Prop := Claim7.holds Tryz.pinned (.plain (OpenSpec.ofChange queryBackSpec)) queryBackCard

/-- THE TIED CARD OF 'scarflaw29.QueryParts'. -/
def queryPartsCard : Claim7 := { stood := { row := queryPartsRow, standIns := [], harness := (true, "27664e4d23140f9cf6813536d35afb6a2279e61828af9920b3399b8430198b52"), looks := true }, kinds := [], alts := [], laidByText := true, laidKinds := [.data, .data, .data, .data, .sentinel, .sentinel, .pinned], laidTests := true, laidLooks := .later }
def QueryPartsCardSaid : Prop := Claim7.holds Tryz.pinned (.plain (OpenSpec.ofChange queryPartsSpec)) queryPartsCard

/-- THE TIED CARD OF 'scarflaw29.QueryFinds'. -/
def queryFindsCard : Claim7 := { stood := { row := queryFindsRow, standIns := [], harness := (true, "27664e4d23140f9cf6813536d35afb6a2279e61828af9920b3399b8430198b52"), looks := true }, kinds := [], alts := [], laidByText := true, laidKinds := [.data, .data, .data, .data, .sentinel, .sentinel, .pinned], laidTests := true, laidLooks := .later }
def QueryFindsCardSaid : Prop := Claim7.holds Tryz.pinned (.plain (OpenSpec.ofChange queryFindsSpec)) queryFindsCard

/-- THE TIED CARD OF 'scarflaw29.QueryLeads'. -/
def queryLeadsCard : Claim7 := { stood := { row := queryLeadsRow, standIns := [], harness := (true, "27664e4d23140f9cf6813536d35afb6a2279e61828af9920b3399b8430198b52"), looks := true }, kinds := [], alts := [], laidByText := true, laidKinds := [.data, .data, .data, .data, .sentinel, .sentinel, .pinned], laidTests := true, laidLooks := .later }
def QueryLeadsCardSaid : Prop := Claim7.holds Tryz.pinned (.plain (OpenSpec.ofChange queryLeadsSpec)) queryLeadsCard

/-- THE SECOND FORM's CARD OF 'scarflaw30.SchemaChecks'. -/
def schemaChecksUptoCard : Claim7 := { stood := { row := schemaChecksUptoRow, standIns := [], harness := (true, "27664e4d23140f9cf6813536d35afb6a2279e61828af9920b3399b8430198b52"), looks := true }, kinds := [], alts := [], laidByText := true, laidKinds := [.data, .data, .data, .data, .sentinel, .sentinel, .pinned], laidTests := true, laidLooks := .later }
def SchemaChecksUptoCardSaid : Prop := Claim7.holds Tryz.pinned (.plain (OpenSpec.upto schemaChecksSpec)) schemaChecksUptoCard

/-- THE SECOND FORM's CARD OF 'scarflaw30.SchemaJoins'. -/
def schemaJoinsUptoCard : Claim7 := { stood := { row := schemaJoinsUptoRow, standIns := [], harness := (true, "27664e4d23140f9cf6813536d35afb6a2279e61828af9920b3399b8430198b52"), looks := true }, kinds := [], alts := [], laidByText := true, laidKinds := [.data, .data, .data, .data, .sentinel, .sentinel, .pinned], laidTests := true, laidLooks := .later }
def SchemaJoinsUptoCardSaid : Prop := Claim7.holds Tryz.pinned (.plain (OpenSpec.upto schemaJoinsSpec)) schemaJoinsUptoCard

/-- THE SECOND FORM's CARD OF 'scarflaw30.SchemaOrders'. -/
def schemaOrdersUptoCard : Claim7 := { stood := { row := schemaOrdersUptoRow, standIns := [], harness := (true, "27664e4d23140f9cf6813536d35afb6a2279e61828af9920b3399b8430198b52"), looks := true }, kinds := [], alts := [], laidByText := true, laidKinds := [.data, .data, .data, .data, .sentinel, .sentinel, .pinned], laidTests := true, laidLooks := .later }
def SchemaOrdersUptoCardSaid : Prop := Claim7.holds Tryz.pinned (.plain (OpenSpec.upto schemaOrdersSpec)) schemaOrdersUptoCard

/-- THE SECOND FORM's CARD OF 'scarflaw30.SchemaPlaces'. -/
def schemaPlacesUptoCard : Claim7 := { stood := { row := schemaPlacesUptoRow, standIns := [], harness := (true, "27664e4d23140f9cf6813536d35afb6a2279e61828af9920b3399b8430198b52"), looks := true }, kinds := [], alts := [], laidByText := true, laidKinds := [.data, .data, .data, .data, .sentinel, .sentinel, .pinned], laidTests := true, laidLooks := .later }
def SchemaPlacesUptoCardSaid : Prop := Claim7.holds Tryz.pinned (.plain (OpenSpec.upto schemaPlacesSpec)) schemaPlacesUptoCard

/-- THE SECOND FORM's CARD OF 'scarflaw29.QueryBack'. -/
def queryBackUptoCard : Claim7 := { stood := { row := queryBackUptoRow, standIns := [], harness := (true, "27664e4d23140f9cf6813536d35afb6a2279e61828af9920b3399b8430198b52"), looks := true }, kinds := [], alts := [], laidByText := true, laidKinds := [.data, .data, .data, .data, .sentinel, .sentinel, .pinned], laidTests := true, laidLooks := .later }
def QueryBackUptoCardSaid : Prop := Claim7.holds Tryz.pinned (.plain (OpenSpec.upto queryBackSpec)) queryBackUptoCard

/-- THE SECOND FORM's CARD OF 'scarflaw29.QueryParts'. -/
def queryPartsUptoCard : Claim7 := { stood := { row := queryPartsUptoRow, standIns := [], harness := (true, "27664e4d23140f9cf6813536d35afb6a2279e61828af9920b3399b8430198b52"), looks := true }, kinds := [], alts := [], laidByText := true, laidKinds := [.data, .data, .data, .data, .sentinel, .sentinel, .pinned], laidTests := true, laidLooks := .later }
def QueryPartsUptoCardSaid : Prop := Claim7.holds Tryz.pinned (.plain (OpenSpec.upto queryPartsSpec)) queryPartsUptoCard

/-- THE SECOND FORM's CARD OF 'scarflaw29.QueryFinds'. -/
def queryFindsUptoCard : Claim7 := { stood := { row := queryFindsUptoRow, standIns := [], harness := (true, "27664e4d23140f9cf6813536d35afb6a2279e61828af9920b3399b8430198b52"), looks := true }, kinds := [], alts := [], laidByText := true, laidKinds := [.data, .data, .data, .data, .sentinel, .sentinel, .pinned], laidTests := true, laidLooks := .later }
def QueryFindsUptoCardSaid : Prop := Claim7.holds Tryz.pinned (.plain (OpenSpec.upto queryFindsSpec)) queryFindsUptoCard

/-- THE SECOND FORM's CARD OF 'scarflaw29.QueryLeads'. -/
def queryLeadsUptoCard : Claim7 := { stood := { row := queryLeadsUptoRow, standIns := [], harness := (true, "27664e4d23140f9cf6813536d35afb6a2279e61828af9920b3399b8430198b52"), looks := true }, kinds := [], alts := [], laidByText := true, laidKinds := [.data, .data, .data, .data, .sentinel, .sentinel, .pinned], laidTests := true, laidLooks := .later }
def QueryLeadsUptoCardSaid : Prop := Claim7.holds Tryz.pinned (.plain (OpenSpec.upto queryLeadsSpec)) queryLeadsUptoCard
end Rows
end Go.Proofs.YtjkbohnbckpmdaaGreatDoor
