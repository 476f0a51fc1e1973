/-
  DERIVED. GIVEN WITH THE SEED: THE CARDS: each row of YtdgnpcmaipnfhaaDoorRows.lean that lists a variable, with what it lists TIED to the program's text (the seventh form; the later family's looks); each row that meets fmt, with fmt's text TOLD by the authors' own Lean function (tested against real Go, not proved from fmt's source: count such statements apart). THE CARD IS WHAT COUNTS. Prove the row's statement (the work); the ties are given (YtdgnpcmaipnfhaaDoorTie.lean); close each card by the builder's one call (the guide's Derived/Test/ToyasCard.lean, 'card_holds'). Laid BY PROGRAM, IN A SANDBOX (cutbox-door.mjs). By AI agents, Wed Nov 11 2026. No macro, syntax, notation, axiom, sorry.
-/
import Derived.Test.YtdgnpcmaipnfhaaDoorRows
import GoSem.ClaimSeven
namespace Go.Proofs.YtdgnpcmaipnfhaaDoor
namespace Rows

/-- THE TIED CARD OF 'bombardelaw09.HittingHits'. -/
def hittingHitsCard : Claim7 := { stood := { row := hittingHitsRow, standIns := [], harness := (true, "557d0c03e3f6313d020f5117c4764f02af80348fd9e825943483912c9608f05b"), looks := false }, kinds := [], alts := [], laidByText := true, laidKinds := [.data, .data, .data], laidTests := true, laidLooks := .later }
def HittingHitsCardSaid : Prop := Claim7.holds Tryd.pinned (.plain (OpenSpec.ofChange hittingHitsSpec)) hittingHitsCard

/-- THE SECOND FORM's CARD OF 'bombardelaw09.HittingHits'. -/
def hittingHitsUptoCard : Claim7 := { stood := { row := hittingHitsUptoRow, standIns := [], harness := (true, "557d0c03e3f6313d020f5117c4764f02af80348fd9e825943483912c9608f05b"), looks := false }, kinds := [], alts := [], laidByText := true, laidKinds := [.data, .data, .data], laidTests := true, laidLooks := .later }
def HittingHitsUptoCardSaid : Prop := Claim7.holds Tryd.pinned (.plain (OpenSpec.upto hittingHitsSpec)) hittingHitsUptoCard
end Rows
end Go.Proofs.YtdgnpcmaipnfhaaDoor
