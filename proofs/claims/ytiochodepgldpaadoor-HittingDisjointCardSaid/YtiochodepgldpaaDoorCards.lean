/-
  DERIVED. GIVEN WITH THE SEED: THE CARDS: each row of YtiochodepgldpaaDoorRows.lean that lists a variable, with what it lists TIED to the program's text (the seventh form; the later family's looks); each row that meets fmt, with fmt's text TOLD by the authors' own Lean function (tested against real Go, not proved from fmt's source: count such statements apart). THE CARD IS WHAT COUNTS. Prove the row's statement (the work); the ties are given (YtiochodepgldpaaDoorTie.lean); close each card by the builder's one call (the guide's Derived/Test/ToyasCard.lean, 'card_holds'). Laid BY PROGRAM, IN A SANDBOX (cutbox-door.mjs). By AI agents, Wed Nov 11 2026. No macro, syntax, notation, axiom, sorry.
-/
import Derived.Test.YtiochodepgldpaaDoorRows
import GoSem.ClaimSeven
namespace Go.Proofs.YtiochodepgldpaaDoor
namespace Rows

/-- THE TIED CARD OF 'bombardelaw09.HittingDisjoint'. -/
def hittingDisjointCard : Claim7 := { stood := { row := hittingDisjointRow, standIns := [], harness := (true, "fccceea5ef1fcbb87e2388ad3fd2e136526692a10737ed075101c25bd6bbc00d"), looks := true }, kinds := [], alts := [], laidByText := true, laidKinds := [.data, .data, .data], laidTests := true, laidLooks := .later }
def HittingDisjointCardSaid : Prop := Claim7.holds Tryd.pinned (.plain (OpenSpec.ofChange hittingDisjointSpec)) hittingDisjointCard

/-- THE TIED CARD OF 'bombardelaw54.CheckerHits'. -/
def checkerHitsCard : Claim7 := { stood := { row := checkerHitsRow, standIns := [], harness := (true, "fccceea5ef1fcbb87e2388ad3fd2e136526692a10737ed075101c25bd6bbc00d"), looks := true }, kinds := [], alts := [], laidByText := true, laidKinds := [.data], laidTests := true, laidLooks := .later }
def CheckerHitsCardSaid : Prop := Claim7.holds Tryd.pinned (.plain (OpenSpec.ofChange checkerHitsSpec)) checkerHitsCard

/-- THE TIED CARD OF 'bombardelaw09.HittingProves'. -/
def hittingProvesCard : Claim7 := { stood := { row := hittingProvesRow, standIns := [], harness := (true, "fccceea5ef1fcbb87e2388ad3fd2e136526692a10737ed075101c25bd6bbc00d"), looks := true }, kinds := [], alts := [], laidByText := true, laidKinds := [.data, .data, .data], laidTests := true, laidLooks := .later }
def HittingProvesCardSaid : Prop := Claim7.holds Tryd.pinned (.plain (OpenSpec.ofChange hittingProvesSpec)) hittingProvesCard

/-- THE TIED CARD OF 'bombardelaw09.HittingVerifies'. -/
def hittingVerifiesCard : Claim7 := { stood := { row := hittingVerifiesRow, standIns := [], harness := (true, "fccceea5ef1fcbb87e2388ad3fd2e136526692a10737ed075101c25bd6bbc00d"), looks := true }, kinds := [], alts := [], laidByText := true, laidKinds := [.data, .data, .data], laidTests := true, laidLooks := .later }
def HittingVerifiesCardSaid : Prop := Claim7.holds Tryd.pinned (.plain (OpenSpec.ofChange hittingVerifiesSpec)) hittingVerifiesCard

/-- THE TIED CARD OF 'bombardelaw09.HittingLeast'. -/
def hittingLeastCard : Claim7 := { stood := { row := hittingLeastRow, standIns := [], harness := (true, "fccceea5ef1fcbb87e2388ad3fd2e136526692a10737ed075101c25bd6bbc00d"), looks := true }, kinds := [], alts := [], laidByText := true, laidKinds := [.data, .data, .data], laidTests := true, laidLooks := .later }
def HittingLeastCardSaid : Prop := Claim7.holds Tryd.pinned (.plain (OpenSpec.ofChange hittingLeastSpec)) hittingLeastCard

/-- THE TIED CARD OF 'bombardelaw09.HittingChecks'. -/
def hittingChecksCard : Claim7 := { stood := { row := hittingChecksRow, standIns := [], harness := (true, "fccceea5ef1fcbb87e2388ad3fd2e136526692a10737ed075101c25bd6bbc00d"), looks := true }, kinds := [], alts := [], laidByText := true, laidKinds := [.data, .data, .data], laidTests := true, laidLooks := .later }
def HittingChecksCardSaid : Prop := Claim7.holds Tryd.pinned (.plain (OpenSpec.ofChange hittingChecksSpec)) hittingChecksCard

/-- THE TIED CARD OF 'bombardelaw09.HittingGrows'. -/
def hittingGrowsCard : Claim7 := { stood := { row := hittingGrowsRow, standIns := [], harness := (true, "fccceea5ef1fcbb87e2388ad3fd2e136526692a10737ed075101c25bd6bbc00d"), looks := true }, kinds := [], alts := [], laidByText := true, laidKinds := [.data, .data, .data, .sentinel, .sentinel], laidTests := true, laidLooks := .later }
def HittingGrowsCardSaid : Prop := Claim7.holds Tryd.pinned (.plain (OpenSpec.ofChange hittingGrowsSpec)) hittingGrowsCard

/-- THE TIED CARD OF 'bombardelaw09.HittingMany'. -/
def hittingManyCard : Claim7 := { stood := { row := hittingManyRow, standIns := [], harness := (true, "fccceea5ef1fcbb87e2388ad3fd2e136526692a10737ed075101c25bd6bbc00d"), looks := true }, kinds := [], alts := [], laidByText := true, laidKinds := [.data, .data, .data, .sentinel, .sentinel], laidTests := true, laidLooks := .later }
def HittingManyCardSaid : Prop := Claim7.holds Tryd.pinned (.plain (OpenSpec.ofChange hittingManySpec)) hittingManyCard

/-- THE SECOND FORM's CARD OF 'bombardelaw09.HittingDisjoint'. -/
def hittingDisjointUptoCard : Claim7 := { stood := { row := hittingDisjointUptoRow, standIns := [], harness := (true, "fccceea5ef1fcbb87e2388ad3fd2e136526692a10737ed075101c25bd6bbc00d"), looks := true }, kinds := [], alts := [], laidByText := true, laidKinds := [.data, .data, .data], laidTests := true, laidLooks := .later }
def HittingDisjointUptoCardSaid : Prop := Claim7.holds Tryd.pinned (.plain (OpenSpec.upto hittingDisjointSpec)) hittingDisjointUptoCard

/-- THE SECOND FORM's CARD OF 'bombardelaw54.CheckerHits'. -/
def checkerHitsUptoCard : Claim7 := { stood := { row := checkerHitsUptoRow, standIns := [], harness := (true, "fccceea5ef1fcbb87e2388ad3fd2e136526692a10737ed075101c25bd6bbc00d"), looks := true }, kinds := [], alts := [], laidByText := true, laidKinds := [.data], laidTests := true, laidLooks := .later }
def CheckerHitsUptoCardSaid : Prop := Claim7.holds Tryd.pinned (.plain (OpenSpec.upto checkerHitsSpec)) checkerHitsUptoCard

/-- THE SECOND FORM's CARD OF 'bombardelaw09.HittingProves'. -/
def hittingProvesUptoCard : Claim7 := { stood := { row := hittingProvesUptoRow, standIns := [], harness := (true, "fccceea5ef1fcbb87e2388ad3fd2e136526692a10737ed075101c25bd6bbc00d"), looks := true }, kinds := [], alts := [], laidByText := true, laidKinds := [.data, .data, .data], laidTests := true, laidLooks := .later }
def HittingProvesUptoCardSaid : Prop := Claim7.holds Tryd.pinned (.plain (OpenSpec.upto hittingProvesSpec)) hittingProvesUptoCard

/-- THE SECOND FORM's CARD OF 'bombardelaw09.HittingVerifies'. -/
def hittingVerifiesUptoCard : Claim7 := { stood := { row := hittingVerifiesUptoRow, standIns := [], harness := (true, "fccceea5ef1fcbb87e2388ad3fd2e136526692a10737ed075101c25bd6bbc00d"), looks := true }, kinds := [], alts := [], laidByText := true, laidKinds := [.data, .data, .data], laidTests := true, laidLooks := .later }
def HittingVerifiesUptoCardSaid : Prop := Claim7.holds Tryd.pinned (.plain (OpenSpec.upto hittingVerifiesSpec)) hittingVerifiesUptoCard

/-- THE SECOND FORM's CARD OF 'bombardelaw09.HittingLeast'. -/
def hittingLeastUptoCard : Claim7 := { stood := { row := hittingLeastUptoRow, standIns := [], harness := (true, "fccceea5ef1fcbb87e2388ad3fd2e136526692a10737ed075101c25bd6bbc00d"), looks := true }, kinds := [], alts := [], laidByText := true, laidKinds := [.data, .data, .data], laidTests := true, laidLooks := .later }
def HittingLeastUptoCardSaid : Prop := Claim7.holds Tryd.pinned (.plain (OpenSpec.upto hittingLeastSpec)) hittingLeastUptoCard

/-- THE SECOND FORM's CARD OF 'bombardelaw09.HittingChecks'. -/
def hittingChecksUptoCard : Claim7 := { stood := { row := hittingChecksUptoRow, standIns := [], harness := (true, "fccceea5ef1fcbb87e2388ad3fd2e136526692a10737ed075101c25bd6bbc00d"), looks := true }, kinds := [], alts := [], laidByText := true, laidKinds := [.data, .data, .data], laidTests := true, laidLooks := .later }
def HittingChecksUptoCardSaid : Prop := Claim7.holds Tryd.pinned (.plain (OpenSpec.upto hittingChecksSpec)) hittingChecksUptoCard

/-- THE SECOND FORM's CARD OF 'bombardelaw09.HittingGrows'. -/
def hittingGrowsUptoCard : Claim7 := { stood := { row := hittingGrowsUptoRow, standIns := [], harness := (true, "fccceea5ef1fcbb87e2388ad3fd2e136526692a10737ed075101c25bd6bbc00d"), looks := true }, kinds := [], alts := [], laidByText := true, laidKinds := [.data, .data, .data, .sentinel, .sentinel], laidTests := true, laidLooks := .later }
def HittingGrowsUptoCardSaid : Prop := Claim7.holds Tryd.pinned (.plain (OpenSpec.upto hittingGrowsSpec)) hittingGrowsUptoCard

/-- THE SECOND FORM's CARD OF 'bombardelaw09.HittingMany'. -/
def hittingManyUptoCard : Claim7 := { stood := { row := hittingManyUptoRow, standIns := [], harness := (true, "fccceea5ef1fcbb87e2388ad3fd2e136526692a10737ed075101c25bd6bbc00d"), looks := true }, kinds := [], alts := [], laidByText := true, laidKinds := [.data, .data, .data, .sentinel, .sentinel], laidTests := true, laidLooks := .later }
def HittingManyUptoCardSaid : Prop := Claim7.holds Tryd.pinned (.plain (OpenSpec.upto hittingManySpec)) hittingManyUptoCard
end Rows
end Go.Proofs.YtiochodepgldpaaDoor
