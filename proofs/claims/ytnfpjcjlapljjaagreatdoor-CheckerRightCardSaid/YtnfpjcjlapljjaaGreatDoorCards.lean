/-
  DERIVED. GIVEN WITH THE SEED: THE CARDS: each row of YtnfpjcjlapljjaaGreatDoorRows.lean that lists a variable, with what it lists TIED to the program's text (the seventh form; the later family's looks); each row that meets fmt, with fmt's text TOLD by the authors' own Lean function (tested against real Go, not proved from fmt's source: count such statements apart). THE CARD IS WHAT COUNTS. Prove the row's statement (the work); the ties are given (YtnfpjcjlapljjaaGreatDoorTie.lean); close each card by the builder's one call (the guide's Derived/Test/ToyasCard.lean, 'card_holds'). Laid BY PROGRAM, IN A SANDBOX (cutbox-door.mjs). By AI agents, Wed Nov 11 2026. No macro, syntax, notation, axiom, sorry.
-/
import Derived.Test.YtnfpjcjlapljjaaGreatDoorRows
import GoSem.ClaimSeven
namespace Go.Proofs.YtnfpjcjlapljjaaGreatDoor
namespace Rows

/-- THE TIED CARD OF 'bombardelaw54.CheckerRight'. -/
def checkerRightCard : Claim7 := { stood := { row := checkerRightRow, standIns := [], harness := (true, "a988897d937ae30e522a6fe1f05377bd472ea03fd6b46f6704ea923468407314"), looks := false }, kinds := [], alts := [], laidByText := true, laidKinds := [.data, .data, .data], laidTests := true, laidLooks := .later }
def CheckerRightCardSaid : Prop := Claim7.holds Tryz.pinned (.plain (OpenSpec.ofChange checkerRightSpec)) checkerRightCard

/-- THE SECOND FORM's CARD OF 'bombardelaw54.CheckerRight'. -/
def checkerRightUptoCard : Claim7 := { stood := { row := checkerRightUptoRow, standIns := [], harness := (true, "a988897d937ae30e522a6fe1f05377bd472ea03fd6b46f6704ea923468407314"), looks := false }, kinds := [], alts := [], laidByText := true, laidKinds := [.data, .data, .data], laidTests := true, laidLooks := .later }
def CheckerRightUptoCardSaid : Prop := Claim7.holds Tryz.pinned (.plain (OpenSpec.upto checkerRightSpec)) checkerRightUptoCard
end Rows
end Go.Proofs.YtnfpjcjlapljjaaGreatDoor
