/-
  DERIVED. GIVEN WITH THE SEED: THE CARDS: each row of YthgjhfapnilfhaaDoorRows.lean that lists a variable, with what it lists TIED to the program's text (the seventh form; the later family's looks); each row that meets fmt, with fmt's text TOLD by the authors' own Lean function (tested against real Go, not proved from fmt's source: count such statements apart). THE CARD IS WHAT COUNTS. Prove the row's statement (the work); the ties are given (YthgjhfapnilfhaaDoorTie.lean); close each card by the builder's one call (the guide's Derived/Test/ToyasCard.lean, 'card_holds'). Laid BY PROGRAM, IN A SANDBOX (cutbox-door.mjs). By AI agents, Wed Nov 11 2026. No macro, syntax, notation, axiom, sorry.
-/
import Derived.Test.YthgjhfapnilfhaaDoorRows
import GoSem.ClaimSeven
namespace Go.Proofs.YthgjhfapnilfhaaDoor
namespace Rows

/-- THE TIED CARD OF 'bombardelaw54.CheckerHits'. -/
def checkerHitsCard : Claim7 := { stood := { row := checkerHitsRow, standIns := [], harness := (true, "cc4939d7c289a46f49b8f99d4dd4f8d844f01b3bcfb9673b0066f0053f24da01"), looks := true }, kinds := [], alts := [], laidByText := true, laidKinds := [.data], laidTests := true, laidLooks := .later }
def CheckerHitsCardSaid : Prop := Claim7.holds Tryd.pinned (.plain (OpenSpec.ofChange checkerHitsSpec)) checkerHitsCard

/-- THE TIED CARD OF 'bombardelaw54.CheckerCovers'. -/
def checkerCoversCard : Claim7 := { stood := { row := checkerCoversRow, standIns := [], harness := (true, "cc4939d7c289a46f49b8f99d4dd4f8d844f01b3bcfb9673b0066f0053f24da01"), looks := true }, kinds := [], alts := [], laidByText := true, laidKinds := [.data], laidTests := true, laidLooks := .later }
def CheckerCoversCardSaid : Prop := Claim7.holds Tryd.pinned (.plain (OpenSpec.ofChange checkerCoversSpec)) checkerCoversCard

/-- THE TIED CARD OF 'bombardelaw09.HittingLeast'. -/
def hittingLeastCard : Claim7 := { stood := { row := hittingLeastRow, standIns := [], harness := (true, "cc4939d7c289a46f49b8f99d4dd4f8d844f01b3bcfb9673b0066f0053f24da01"), looks := true }, kinds := [], alts := [], laidByText := true, laidKinds := [.data, .data, .data], laidTests := true, laidLooks := .later }
def HittingLeastCardSaid : Prop := Claim7.holds Tryd.pinned (.plain (OpenSpec.ofChange hittingLeastSpec)) hittingLeastCard

/-- THE TIED CARD OF 'bombardelaw09.HittingGrows'. -/
def hittingGrowsCard : Claim7 := { stood := { row := hittingGrowsRow, standIns := [], harness := (true, "cc4939d7c289a46f49b8f99d4dd4f8d844f01b3bcfb9673b0066f0053f24da01"), looks := true }, kinds := [], alts := [], laidByText := true, laidKinds := [.data, .data, .data, .sentinel, .sentinel], laidTests := true, laidLooks := .later }
def HittingGrowsCardSaid : Prop := Claim7.holds Tryd.pinned (.plain (OpenSpec.ofChange hittingGrowsSpec)) hittingGrowsCard

/-- THE TIED CARD OF 'bombardelaw09.HittingMany'. -/
def hittingManyCard : Claim7 := { stood := { row := hittingManyRow, standIns := [], harness := (true, "cc4939d7c289a46f49b8f99d4dd4f8d844f01b3bcfb9673b0066f0053f24da01"), looks := true }, kinds := [], alts := [], laidByText := true, laidKinds := [.data, .data, .data, .sentinel, .sentinel], laidTests := true, laidLooks := .later }
def HittingManyCardSaid : Prop := Claim7.holds Tryd.pinned (.plain (OpenSpec.ofChange hittingManySpec)) hittingManyCard

/-- THE SECOND FORM's CARD OF 'bombardelaw54.CheckerHits'. -/
def checkerHitsUptoCard : Claim7 := { stood := { row := checkerHitsUptoRow, standIns := [], harness := (true, "cc4939d7c289a46f49b8f99d4dd4f8d844f01b3bcfb9673b0066f0053f24da01"), looks := true }, kinds := [], alts := [], laidByText := true, laidKinds := [.data], laidTests := true, laidLooks := .later }
def CheckerHitsUptoCardSaid : Prop := Claim7.holds Tryd.pinned (.plain (OpenSpec.upto checkerHitsSpec)) checkerHitsUptoCard

/-- THE SECOND FORM's CARD OF 'bombardelaw54.CheckerCovers'. -/
def checkerCoversUptoCard : Claim7 := { stood := { row := checkerCoversUptoRow, standIns := [], harness := (true, "cc4939d7c289a46f49b8f99d4dd4f8d844f01b3bcfb9673b0066f0053f24da01"), looks := true }, kinds := [], alts := [], laidByText := true, laidKinds := [.data], laidTests := true, laidLooks := .later }
def CheckerCoversUptoCardSaid : Prop := Claim7.holds Tryd.pinned (.plain (OpenSpec.upto checkerCoversSpec)) checkerCoversUptoCard

/-- THE SECOND FORM's CARD OF 'bombardelaw09.HittingLeast'. -/
def hittingLeastUptoCard : Claim7 := { stood := { row := hittingLeastUptoRow, standIns := [], harness := (true, "cc4939d7c289a46f49b8f99d4dd4f8d844f01b3bcfb9673b0066f0053f24da01"), looks := true }, kinds := [], alts := [], laidByText := true, laidKinds := [.data, .data, .data], laidTests := true, laidLooks := .later }
def HittingLeastUptoCardSaid : Prop := Claim7.holds Tryd.pinned (.plain (OpenSpec.upto hittingLeastSpec)) hittingLeastUptoCard

/-- THE SECOND FORM's CARD OF 'bombardelaw09.HittingGrows'. -/
def hittingGrowsUptoCard : Claim7 := { stood := { row := hittingGrowsUptoRow, standIns := [], harness := (true, "cc4939d7c289a46f49b8f99d4dd4f8d844f01b3bcfb9673b0066f0053f24da01"), looks := true }, kinds := [], alts := [], laidByText := true, laidKinds := [.data, .data, .data, .sentinel, .sentinel], laidTests := true, laidLooks := .later }
def HittingGrowsUptoCardSaid : Prop := Claim7.holds Tryd.pinned (.plain (OpenSpec.upto hittingGrowsSpec)) hittingGrowsUptoCard

/-- THE SECOND FORM's CARD OF 'bombardelaw09.HittingMany'. -/
def hittingManyUptoCard : Claim7 := { stood := { row := hittingManyUptoRow, standIns := [], harness := (true, "cc4939d7c289a46f49b8f99d4dd4f8d844f01b3bcfb9673b0066f0053f24da01"), looks := true }, kinds := [], alts := [], laidByText := true, laidKinds := [.data, .data, .data, .sentinel, .sentinel], laidTests := true, laidLooks := .later }
def HittingManyUptoCardSaid : Prop := Claim7.holds Tryd.pinned (.plain (OpenSpec.upto hittingManySpec)) hittingManyUptoCard
end Rows
end Go.Proofs.YthgjhfapnilfhaaDoor
