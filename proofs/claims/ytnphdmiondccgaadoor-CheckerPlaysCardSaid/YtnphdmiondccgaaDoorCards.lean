/-
  DERIVED. GIVEN WITH THE SEED: THE CARDS: each row of YtnphdmiondccgaaDoorRows.lean that lists a variable, with what it lists TIED to the program's text (the seventh form; the later family's looks); each row that meets fmt, with fmt's text TOLD by the authors' own Lean function (tested against real Go, not proved from fmt's source: count such statements apart). THE CARD IS WHAT COUNTS. Prove the row's statement (the work); the ties are given (YtnphdmiondccgaaDoorTie.lean); close each card by the builder's one call (the guide's Derived/Test/ToyasCard.lean, 'card_holds'). Laid BY PROGRAM, IN A SANDBOX (cutbox-door.mjs). By AI agents, Wed Nov 11 2026. No macro, syntax, notation, axiom, sorry.
-/
import Derived.Test.YtnphdmiondccgaaDoorRows
import GoSem.ClaimSeven
namespace Go.Proofs.YtnphdmiondccgaaDoor
namespace Rows

/-- THE TIED CARD OF 'bombardelaw54.CheckerCovers'. -/
def checkerCoversCard : Claim7 := { stood := { row := checkerCoversRow, standIns := [], harness := (true, "293ed676ba88f3ac364d5eb23ab3b07cdf9625ecb37e5a76018618c2c81e0638"), looks := false }, kinds := [], alts := [], laidByText := true, laidKinds := [.data], laidTests := true, laidLooks := .later }
def CheckerCoversCardSaid : Prop := Claim7.holds Tryd.pinned (.plain (OpenSpec.ofChange checkerCoversSpec)) checkerCoversCard

/-- THE TIED CARD OF 'bombardelaw54.CheckerPlays'. -/
def checkerPlaysCard : Claim7 := { stood := { row := checkerPlaysRow, standIns := [], harness := (true, "293ed676ba88f3ac364d5eb23ab3b07cdf9625ecb37e5a76018618c2c81e0638"), looks := false }, kinds := [], alts := [], laidByText := true, laidKinds := [.data], laidTests := true, laidLooks := .later }
def CheckerPlaysCardSaid : Prop := Claim7.holds Tryd.pinned (.plain (OpenSpec.ofChange checkerPlaysSpec)) checkerPlaysCard

/-- THE SECOND FORM's CARD OF 'bombardelaw54.CheckerCovers'. -/
def checkerCoversUptoCard : Claim7 := { stood := { row := checkerCoversUptoRow, standIns := [], harness := (true, "293ed676ba88f3ac364d5eb23ab3b07cdf9625ecb37e5a76018618c2c81e0638"), looks := false }, kinds := [], alts := [], laidByText := true, laidKinds := [.data], laidTests := true, laidLooks := .later }
def CheckerCoversUptoCardSaid : Prop := Claim7.holds Tryd.pinned (.plain (OpenSpec.upto checkerCoversSpec)) checkerCoversUptoCard

/-- THE SECOND FORM's CARD OF 'bombardelaw54.CheckerPlays'. -/
def checkerPlaysUptoCard : Claim7 := { stood := { row := checkerPlaysUptoRow, standIns := [], harness := (true, "293ed676ba88f3ac364d5eb23ab3b07cdf9625ecb37e5a76018618c2c81e0638"), looks := false }, kinds := [], alts := [], laidByText := true, laidKinds := [.data], laidTests := true, laidLooks := .later }
def CheckerPlaysUptoCardSaid : Prop := Claim7.holds Tryd.pinned (.plain (OpenSpec.upto checkerPlaysSpec)) checkerPlaysUptoCard
end Rows
end Go.Proofs.YtnphdmiondccgaaDoor
