/-
  DERIVED. GIVEN WITH THE SEED: THE CARDS: each row of YtahlfndlkfoikaaDoorRows.lean that lists a variable, with what it lists TIED to the program's text (the seventh form; the later family's looks); each row that meets fmt, with fmt's text TOLD by the authors' own Lean function (tested against real Go, not proved from fmt's source: count such statements apart). THE CARD IS WHAT COUNTS. Prove the row's statement (the work); the ties are given (YtahlfndlkfoikaaDoorTie.lean); close each card by the builder's one call (the guide's Derived/Test/ToyasCard.lean, 'card_holds'). Laid BY PROGRAM, IN A SANDBOX (cutbox-door.mjs). By AI agents, Wed Nov 11 2026. No macro, syntax, notation, axiom, sorry.
-/
import Derived.Test.YtahlfndlkfoikaaDoorRows
import GoSem.ClaimSeven
namespace Go.Proofs.YtahlfndlkfoikaaDoor
namespace Rows

/-- THE TIED CARD OF 'bombardelaw24.ChainFollows'. -/
def chainFollowsCard : Claim7 := { stood := { row := chainFollowsRow, standIns := [], harness := (true, "2567674f812c990891971e66db35f40d43b5a7b5a295a99a297d4e560630e8c3"), looks := false }, kinds := [], alts := [], laidByText := true, laidKinds := [.data, .data, .data], laidTests := true, laidLooks := .later }
def ChainFollowsCardSaid : Prop := Claim7.holds Tryd.pinned (.plain (OpenSpec.ofChange chainFollowsSpec)) chainFollowsCard

/-- THE TIED CARD OF 'bombardelaw24.ChainCuts'. -/
def chainCutsCard : Claim7 := { stood := { row := chainCutsRow, standIns := [], harness := (true, "2567674f812c990891971e66db35f40d43b5a7b5a295a99a297d4e560630e8c3"), looks := false }, kinds := [], alts := [], laidByText := true, laidKinds := [.data, .data, .data], laidTests := true, laidLooks := .later }
def ChainCutsCardSaid : Prop := Claim7.holds Tryd.pinned (.plain (OpenSpec.ofChange chainCutsSpec)) chainCutsCard

/-- THE TIED CARD OF 'bombardelaw24.ChainCompares'. -/
def chainComparesCard : Claim7 := { stood := { row := chainComparesRow, standIns := [], harness := (true, "2567674f812c990891971e66db35f40d43b5a7b5a295a99a297d4e560630e8c3"), looks := false }, kinds := [], alts := [], laidByText := true, laidKinds := [.data, .data, .data], laidTests := true, laidLooks := .later }
def ChainComparesCardSaid : Prop := Claim7.holds Tryd.pinned (.plain (OpenSpec.ofChange chainComparesSpec)) chainComparesCard

/-- THE TIED CARD OF 'bombardelaw24.ChainSources'. -/
def chainSourcesCard : Claim7 := { stood := { row := chainSourcesRow, standIns := [], harness := (true, "2567674f812c990891971e66db35f40d43b5a7b5a295a99a297d4e560630e8c3"), looks := false }, kinds := [], alts := [], laidByText := true, laidKinds := [.data, .data, .data], laidTests := true, laidLooks := .later }
def ChainSourcesCardSaid : Prop := Claim7.holds Tryd.pinned (.plain (OpenSpec.ofChange chainSourcesSpec)) chainSourcesCard

/-- THE TIED CARD OF 'bombardelaw24.ChainErrors'. -/
def chainErrorsCard : Claim7 := { stood := { row := chainErrorsRow, standIns := [], harness := (true, "2567674f812c990891971e66db35f40d43b5a7b5a295a99a297d4e560630e8c3"), looks := false }, kinds := [], alts := [], laidByText := true, laidKinds := [.data, .data, .data], laidTests := true, laidLooks := .later }
def ChainErrorsCardSaid : Prop := Claim7.holds Tryd.pinned (.plain (OpenSpec.ofChange chainErrorsSpec)) chainErrorsCard

/-- THE TIED CARD OF 'bombardelaw24.ChainAll'. -/
def chainAllCard : Claim7 := { stood := { row := chainAllRow, standIns := [], harness := (true, "2567674f812c990891971e66db35f40d43b5a7b5a295a99a297d4e560630e8c3"), looks := false }, kinds := [], alts := [], laidByText := true, laidKinds := [.data, .data, .data], laidTests := true, laidLooks := .later }
def ChainAllCardSaid : Prop := Claim7.holds Tryd.pinned (.plain (OpenSpec.ofChange chainAllSpec)) chainAllCard

/-- THE TIED CARD OF 'bombardelaw24.ChainLimits'. -/
def chainLimitsCard : Claim7 := { stood := { row := chainLimitsRow, standIns := [], harness := (true, "2567674f812c990891971e66db35f40d43b5a7b5a295a99a297d4e560630e8c3"), looks := false }, kinds := [], alts := [], laidByText := true, laidKinds := [.data, .data, .data], laidTests := true, laidLooks := .later }
def ChainLimitsCardSaid : Prop := Claim7.holds Tryd.pinned (.plain (OpenSpec.ofChange chainLimitsSpec)) chainLimitsCard

/-- THE TIED CARD OF 'bombardelaw24.ChainReaches'. -/
def chainReachesCard : Claim7 := { stood := { row := chainReachesRow, standIns := [], harness := (true, "2567674f812c990891971e66db35f40d43b5a7b5a295a99a297d4e560630e8c3"), looks := false }, kinds := [], alts := [], laidByText := true, laidKinds := [.data, .data, .data], laidTests := true, laidLooks := .later }
def ChainReachesCardSaid : Prop := Claim7.holds Tryd.pinned (.plain (OpenSpec.ofChange chainReachesSpec)) chainReachesCard

/-- THE SECOND FORM's CARD OF 'bombardelaw24.ChainFollows'. -/
def chainFollowsUptoCard : Claim7 := { stood := { row := chainFollowsUptoRow, standIns := [], harness := (true, "2567674f812c990891971e66db35f40d43b5a7b5a295a99a297d4e560630e8c3"), looks := false }, kinds := [], alts := [], laidByText := true, laidKinds := [.data, .data, .data], laidTests := true, laidLooks := .later }
def ChainFollowsUptoCardSaid : Prop := Claim7.holds Tryd.pinned (.plain (OpenSpec.upto chainFollowsSpec)) chainFollowsUptoCard

/-- THE SECOND FORM's CARD OF 'bombardelaw24.ChainCuts'. -/
def chainCutsUptoCard : Claim7 := { stood := { row := chainCutsUptoRow, standIns := [], harness := (true, "2567674f812c990891971e66db35f40d43b5a7b5a295a99a297d4e560630e8c3"), looks := false }, kinds := [], alts := [], laidByText := true, laidKinds := [.data, .data, .data], laidTests := true, laidLooks := .later }
def ChainCutsUptoCardSaid : Prop := Claim7.holds Tryd.pinned (.plain (OpenSpec.upto chainCutsSpec)) chainCutsUptoCard

/-- THE SECOND FORM's CARD OF 'bombardelaw24.ChainCompares'. -/
def chainComparesUptoCard : Claim7 := { stood := { row := chainComparesUptoRow, standIns := [], harness := (true, "2567674f812c990891971e66db35f40d43b5a7b5a295a99a297d4e560630e8c3"), looks := false }, kinds := [], alts := [], laidByText := true, laidKinds := [.data, .data, .data], laidTests := true, laidLooks := .later }
def ChainComparesUptoCardSaid : Prop := Claim7.holds Tryd.pinned (.plain (OpenSpec.upto chainComparesSpec)) chainComparesUptoCard

/-- THE SECOND FORM's CARD OF 'bombardelaw24.ChainSources'. -/
def chainSourcesUptoCard : Claim7 := { stood := { row := chainSourcesUptoRow, standIns := [], harness := (true, "2567674f812c990891971e66db35f40d43b5a7b5a295a99a297d4e560630e8c3"), looks := false }, kinds := [], alts := [], laidByText := true, laidKinds := [.data, .data, .data], laidTests := true, laidLooks := .later }
def ChainSourcesUptoCardSaid : Prop := Claim7.holds Tryd.pinned (.plain (OpenSpec.upto chainSourcesSpec)) chainSourcesUptoCard

/-- THE SECOND FORM's CARD OF 'bombardelaw24.ChainErrors'. -/
def chainErrorsUptoCard : Claim7 := { stood := { row := chainErrorsUptoRow, standIns := [], harness := (true, "2567674f812c990891971e66db35f40d43b5a7b5a295a99a297d4e560630e8c3"), looks := false }, kinds := [], alts := [], laidByText := true, laidKinds := [.data, .data, .data], laidTests := true, laidLooks := .later }
def ChainErrorsUptoCardSaid : Prop := Claim7.holds Tryd.pinned (.plain (OpenSpec.upto chainErrorsSpec)) chainErrorsUptoCard

/-- THE SECOND FORM's CARD OF 'bombardelaw24.ChainAll'. -/
def chainAllUptoCard : Claim7 := { stood := { row := chainAllUptoRow, standIns := [], harness := (true, "2567674f812c990891971e66db35f40d43b5a7b5a295a99a297d4e560630e8c3"), looks := false }, kinds := [], alts := [], laidByText := true, laidKinds := [.data, .data, .data], laidTests := true, laidLooks := .later }
def ChainAllUptoCardSaid : Prop := Claim7.holds Tryd.pinned (.plain (OpenSpec.upto chainAllSpec)) chainAllUptoCard

/-- THE SECOND FORM's CARD OF 'bombardelaw24.ChainLimits'. -/
def chainLimitsUptoCard : Claim7 := { stood := { row := chainLimitsUptoRow, standIns := [], harness := (true, "2567674f812c990891971e66db35f40d43b5a7b5a295a99a297d4e560630e8c3"), looks := false }, kinds := [], alts := [], laidByText := true, laidKinds := [.data, .data, .data], laidTests := true, laidLooks := .later }
def ChainLimitsUptoCardSaid : Prop := Claim7.holds Tryd.pinned (.plain (OpenSpec.upto chainLimitsSpec)) chainLimitsUptoCard

/-- THE SECOND FORM's CARD OF 'bombardelaw24.ChainReaches'. -/
def chainReachesUptoCard : Claim7 := { stood := { row := chainReachesUptoRow, standIns := [], harness := (true, "2567674f812c990891971e66db35f40d43b5a7b5a295a99a297d4e560630e8c3"), looks := false }, kinds := [], alts := [], laidByText := true, laidKinds := [.data, .data, .data], laidTests := true, laidLooks := .later }
def ChainReachesUptoCardSaid : Prop := Claim7.holds Tryd.pinned (.plain (OpenSpec.upto chainReachesSpec)) chainReachesUptoCard
end Rows
end Go.Proofs.YtahlfndlkfoikaaDoor
