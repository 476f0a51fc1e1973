/-
  DERIVED. GIVEN WITH THE SEED: THE CARDS: each row of YtnkjhppjjklgfaaDoorRows.lean that lists a variable, with what it lists TIED to the program's text (the seventh form; the later family's looks); each row that meets fmt, with fmt's text TOLD by the authors' own Lean function (tested against real Go, not proved from fmt's source: count such statements apart). THE CARD IS WHAT COUNTS. Prove the row's statement (the work); the ties are given (YtnkjhppjjklgfaaDoorTie.lean); close each card by the builder's one call (the guide's Derived/Test/ToyasCard.lean, 'card_holds'). Laid BY PROGRAM, IN A SANDBOX (cutbox-door.mjs). By AI agents, Wed Nov 11 2026. No macro, syntax, notation, axiom, sorry.
-/
import Derived.Test.YtnkjhppjjklgfaaDoorRows
import GoSem.ClaimSeven
namespace Go.Proofs.YtnkjhppjjklgfaaDoor
namespace Rows

/-- THE TIED CARD OF 'bombardelaw16.CouplerReaches'. -/
def couplerReachesCard : Claim7 := { stood := { row := couplerReachesRow, standIns := [], harness := (true, "77cecc6f3d10a27189ba8d58c8536153c5b4091ccb3708fe128e3c965363d60a"), looks := false }, kinds := [], alts := [], laidByText := true, laidKinds := [.data], laidTests := true, laidLooks := .later }
def CouplerReachesCardSaid : Prop := Claim7.holds Tryd.pinned (.plain (OpenSpec.ofChange couplerReachesSpec)) couplerReachesCard

/-- THE TIED CARD OF 'bombardelaw16.CouplerSteps'. -/
def couplerStepsCard : Claim7 := { stood := { row := couplerStepsRow, standIns := [], harness := (true, "77cecc6f3d10a27189ba8d58c8536153c5b4091ccb3708fe128e3c965363d60a"), looks := false }, kinds := [], alts := [], laidByText := true, laidKinds := [.data], laidTests := true, laidLooks := .later }
def CouplerStepsCardSaid : Prop := Claim7.holds Tryd.pinned (.plain (OpenSpec.ofChange couplerStepsSpec)) couplerStepsCard

/-- THE TIED CARD OF 'bombardelaw16.CouplerMatrices'. -/
def couplerMatricesCard : Claim7 := { stood := { row := couplerMatricesRow, standIns := [], harness := (true, "77cecc6f3d10a27189ba8d58c8536153c5b4091ccb3708fe128e3c965363d60a"), looks := false }, kinds := [], alts := [], laidByText := true, laidKinds := [.data], laidTests := true, laidLooks := .later }
def CouplerMatricesCardSaid : Prop := Claim7.holds Tryd.pinned (.plain (OpenSpec.ofChange couplerMatricesSpec)) couplerMatricesCard

/-- THE TIED CARD OF 'bombardelaw16.CouplerPlain'. -/
def couplerPlainCard : Claim7 := { stood := { row := couplerPlainRow, standIns := [], harness := (true, "77cecc6f3d10a27189ba8d58c8536153c5b4091ccb3708fe128e3c965363d60a"), looks := false }, kinds := [], alts := [], laidByText := true, laidKinds := [.data], laidTests := true, laidLooks := .later }
def CouplerPlainCardSaid : Prop := Claim7.holds Tryd.pinned (.plain (OpenSpec.ofChange couplerPlainSpec)) couplerPlainCard

/-- THE TIED CARD OF 'bombardelaw16.CouplerSounds'. -/
def couplerSoundsCard : Claim7 := { stood := { row := couplerSoundsRow, standIns := [], harness := (true, "77cecc6f3d10a27189ba8d58c8536153c5b4091ccb3708fe128e3c965363d60a"), looks := false }, kinds := [], alts := [], laidByText := true, laidKinds := [.data], laidTests := true, laidLooks := .later }
def CouplerSoundsCardSaid : Prop := Claim7.holds Tryd.pinned (.plain (OpenSpec.ofChange couplerSoundsSpec)) couplerSoundsCard

/-- THE TIED CARD OF 'bombardelaw16.CouplerKeys'. -/
def couplerKeysCard : Claim7 := { stood := { row := couplerKeysRow, standIns := [], harness := (true, "77cecc6f3d10a27189ba8d58c8536153c5b4091ccb3708fe128e3c965363d60a"), looks := false }, kinds := [], alts := [], laidByText := true, laidKinds := [.data], laidTests := true, laidLooks := .later }
def CouplerKeysCardSaid : Prop := Claim7.holds Tryd.pinned (.plain (OpenSpec.ofChange couplerKeysSpec)) couplerKeysCard

/-- THE TIED CARD OF 'bombardelaw16.CouplerGrows'. -/
def couplerGrowsCard : Claim7 := { stood := { row := couplerGrowsRow, standIns := [], harness := (true, "77cecc6f3d10a27189ba8d58c8536153c5b4091ccb3708fe128e3c965363d60a"), looks := false }, kinds := [], alts := [], laidByText := true, laidKinds := [.data], laidTests := true, laidLooks := .later }
def CouplerGrowsCardSaid : Prop := Claim7.holds Tryd.pinned (.plain (OpenSpec.ofChange couplerGrowsSpec)) couplerGrowsCard

/-- THE TIED CARD OF 'bombardelaw16.CouplerChecks'. -/
def couplerChecksCard : Claim7 := { stood := { row := couplerChecksRow, standIns := [], harness := (true, "77cecc6f3d10a27189ba8d58c8536153c5b4091ccb3708fe128e3c965363d60a"), looks := false }, kinds := [], alts := [], laidByText := true, laidKinds := [.data], laidTests := true, laidLooks := .later }
def CouplerChecksCardSaid : Prop := Claim7.holds Tryd.pinned (.plain (OpenSpec.ofChange couplerChecksSpec)) couplerChecksCard

/-- THE SECOND FORM's CARD OF 'bombardelaw16.CouplerReaches'. -/
def couplerReachesUptoCard : Claim7 := { stood := { row := couplerReachesUptoRow, standIns := [], harness := (true, "77cecc6f3d10a27189ba8d58c8536153c5b4091ccb3708fe128e3c965363d60a"), looks := false }, kinds := [], alts := [], laidByText := true, laidKinds := [.data], laidTests := true, laidLooks := .later }
def CouplerReachesUptoCardSaid : Prop := Claim7.holds Tryd.pinned (.plain (OpenSpec.upto couplerReachesSpec)) couplerReachesUptoCard

/-- THE SECOND FORM's CARD OF 'bombardelaw16.CouplerSteps'. -/
def couplerStepsUptoCard : Claim7 := { stood := { row := couplerStepsUptoRow, standIns := [], harness := (true, "77cecc6f3d10a27189ba8d58c8536153c5b4091ccb3708fe128e3c965363d60a"), looks := false }, kinds := [], alts := [], laidByText := true, laidKinds := [.data], laidTests := true, laidLooks := .later }
def CouplerStepsUptoCardSaid : Prop := Claim7.holds Tryd.pinned (.plain (OpenSpec.upto couplerStepsSpec)) couplerStepsUptoCard

/-- THE SECOND FORM's CARD OF 'bombardelaw16.CouplerMatrices'. -/
def couplerMatricesUptoCard : Claim7 := { stood := { row := couplerMatricesUptoRow, standIns := [], harness := (true, "77cecc6f3d10a27189ba8d58c8536153c5b4091ccb3708fe128e3c965363d60a"), looks := false }, kinds := [], alts := [], laidByText := true, laidKinds := [.data], laidTests := true, laidLooks := .later }
def CouplerMatricesUptoCardSaid : Prop := Claim7.holds Tryd.pinned (.plain (OpenSpec.upto couplerMatricesSpec)) couplerMatricesUptoCard

/-- THE SECOND FORM's CARD OF 'bombardelaw16.CouplerPlain'. -/
def couplerPlainUptoCard : Claim7 := { stood := { row := couplerPlainUptoRow, standIns := [], harness := (true, "77cecc6f3d10a27189ba8d58c8536153c5b4091ccb3708fe128e3c965363d60a"), looks := false }, kinds := [], alts := [], laidByText := true, laidKinds := [.data], laidTests := true, laidLooks := .later }
def CouplerPlainUptoCardSaid : Prop := Claim7.holds Tryd.pinned (.plain (OpenSpec.upto couplerPlainSpec)) couplerPlainUptoCard

/-- THE SECOND FORM's CARD OF 'bombardelaw16.CouplerSounds'. -/
def couplerSoundsUptoCard : Claim7 := { stood := { row := couplerSoundsUptoRow, standIns := [], harness := (true, "77cecc6f3d10a27189ba8d58c8536153c5b4091ccb3708fe128e3c965363d60a"), looks := false }, kinds := [], alts := [], laidByText := true, laidKinds := [.data], laidTests := true, laidLooks := .later }
def CouplerSoundsUptoCardSaid : Prop := Claim7.holds Tryd.pinned (.plain (OpenSpec.upto couplerSoundsSpec)) couplerSoundsUptoCard

/-- THE SECOND FORM's CARD OF 'bombardelaw16.CouplerKeys'. -/
def couplerKeysUptoCard : Claim7 := { stood := { row := couplerKeysUptoRow, standIns := [], harness := (true, "77cecc6f3d10a27189ba8d58c8536153c5b4091ccb3708fe128e3c965363d60a"), looks := false }, kinds := [], alts := [], laidByText := true, laidKinds := [.data], laidTests := true, laidLooks := .later }
def CouplerKeysUptoCardSaid : Prop := Claim7.holds Tryd.pinned (.plain (OpenSpec.upto couplerKeysSpec)) couplerKeysUptoCard

/-- THE SECOND FORM's CARD OF 'bombardelaw16.CouplerGrows'. -/
def couplerGrowsUptoCard : Claim7 := { stood := { row := couplerGrowsUptoRow, standIns := [], harness := (true, "77cecc6f3d10a27189ba8d58c8536153c5b4091ccb3708fe128e3c965363d60a"), looks := false }, kinds := [], alts := [], laidByText := true, laidKinds := [.data], laidTests := true, laidLooks := .later }
def CouplerGrowsUptoCardSaid : Prop := Claim7.holds Tryd.pinned (.plain (OpenSpec.upto couplerGrowsSpec)) couplerGrowsUptoCard

/-- THE SECOND FORM's CARD OF 'bombardelaw16.CouplerChecks'. -/
def couplerChecksUptoCard : Claim7 := { stood := { row := couplerChecksUptoRow, standIns := [], harness := (true, "77cecc6f3d10a27189ba8d58c8536153c5b4091ccb3708fe128e3c965363d60a"), looks := false }, kinds := [], alts := [], laidByText := true, laidKinds := [.data], laidTests := true, laidLooks := .later }
def CouplerChecksUptoCardSaid : Prop := Claim7.holds Tryd.pinned (.plain (OpenSpec.upto couplerChecksSpec)) couplerChecksUptoCard
end Rows
end Go.Proofs.YtnkjhppjjklgfaaDoor
