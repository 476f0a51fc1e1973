/-
  NARROWER THAN 'FOR EVERY INPUT', by the rows' own cells (each row's printed sentence says how): CouplerReaches: laid · CouplerSteps: laid · CouplerMatrices: laid · CouplerPlain: laid · CouplerSounds: laid · CouplerKeys: laid · CouplerGrows: laid · CouplerChecks: laid.
  DERIVED. THE GIVEN ROWS OF THIS SEAT. 8 by the template 'for every input the law returns true; each argument reads behind the call as it read before'; 0 by the template 'total and deterministic' (their statements: YtnkjhppjjklgfaaDoorTotals.lean).
  GIVEN WITH THE SEED: the statements are not yours to turn. If you find one false, say at which input.
  Laid BY PROGRAM, IN A SANDBOX (cutbox-rows.mjs): the forced cells as the released guide's own fill.sh prints them over the translation 6e3cec58a8bfadbe… (all of the seat's roots in one cut). By AI agents, Wed Nov 11 2026. No macro, syntax, notation, axiom, sorry.
-/
import Derived.Test.YtnkjhppjjklgfaaDoorChecked
import GoSem.Claim
import GoSem.ClaimJoined
import GoSem.ClaimMapViews
import Derived.JoinedTies
import Derived.KernelRfl
namespace Go.Proofs.YtnkjhppjjklgfaaDoor
/- THE CELL 'sum', in the pinned program and in every row, IS THE sha256 OF THE DUMP (.gsa) THAT YtnkjhppjjklgfaaDoorProg.lean LOADS. Nothing in Lean hashes anything: it is a label: what it is worth is what the hold of that sum in a sandbox is worth. -/
noncomputable def Tryd.pinned : Pinned := { name := "ytnkjhppjjklgfaadoor", sum := "6e3cec58a8bfadbe6e27dd88d4aeaa5291146d5baca3014ec64929c90aefd8eb", checked := Tryd.checked }
namespace Rows
def none {H : Type} : Left H := { results := [], args := [] }

/- WHAT THE LISTED PACKAGE-LEVEL VARIABLES READ AS WHEN THE CALL BEGINS. Each datum BY PROGRAM (the guide's laid-datum.mjs) off the statement by which the dump's own 'gosem.cut.vars' lays the variable. In a bare row this is a premise. The card (YtnkjhppjjklgfaaDoorCards.lean) ties it to the program's text. -/
def laid_math_bits_deBruijn64tab {H : Type} : DataW H := .agg [.lit (.int .u8 0), .lit (.int .u8 1), .lit (.int .u8 56), .lit (.int .u8 2), .lit (.int .u8 57), .lit (.int .u8 49), .lit (.int .u8 28), .lit (.int .u8 3), .lit (.int .u8 61), .lit (.int .u8 58), .lit (.int .u8 42), .lit (.int .u8 50), .lit (.int .u8 38), .lit (.int .u8 29), .lit (.int .u8 17), .lit (.int .u8 4), .lit (.int .u8 62), .lit (.int .u8 47), .lit (.int .u8 59), .lit (.int .u8 36), .lit (.int .u8 45), .lit (.int .u8 43), .lit (.int .u8 51), .lit (.int .u8 22), .lit (.int .u8 53), .lit (.int .u8 39), .lit (.int .u8 33), .lit (.int .u8 30), .lit (.int .u8 24), .lit (.int .u8 18), .lit (.int .u8 12), .lit (.int .u8 5), .lit (.int .u8 63), .lit (.int .u8 55), .lit (.int .u8 48), .lit (.int .u8 27), .lit (.int .u8 60), .lit (.int .u8 41), .lit (.int .u8 37), .lit (.int .u8 16), .lit (.int .u8 46), .lit (.int .u8 35), .lit (.int .u8 44), .lit (.int .u8 21), .lit (.int .u8 52), .lit (.int .u8 32), .lit (.int .u8 23), .lit (.int .u8 11), .lit (.int .u8 54), .lit (.int .u8 26), .lit (.int .u8 40), .lit (.int .u8 15), .lit (.int .u8 34), .lit (.int .u8 20), .lit (.int .u8 31), .lit (.int .u8 10), .lit (.int .u8 25), .lit (.int .u8 14), .lit (.int .u8 19), .lit (.int .u8 9), .lit (.int .u8 13), .lit (.int .u8 8), .lit (.int .u8 7), .lit (.int .u8 6)]

/-- 'bombardelaw16.CouplerReaches': WHATEVER THE INPUT: true; the input reads as it did. -/
def couplerReachesSpec : ChangeSpec := { name := "couplerReaches", fn := fun _ => fun
  | [d1, d2] => { results := [.lit (.bool true)], args := [d1, d2] }
  | _ => none }
def couplerReachesRow : OpenClaim := { program := "ytnkjhppjjklgfaadoor", sum := "6e3cec58a8bfadbe6e27dd88d4aeaa5291146d5baca3014ec64929c90aefd8eb", func := "bombarde/bombardelaw16.CouplerReaches", spec := "couplerReaches", unfollowed := true, recurses := true, named := ["math/bits.deBruijn64tab"], plainKeys := false, apart := false, laid := [("math/bits.deBruijn64tab", laid_math_bits_deBruijn64tab)] }
def CouplerReachesSaid : Prop := couplerReachesRow.holds Tryd.pinned (OpenSpec.ofChange couplerReachesSpec)

/-- ITS FALSE NEIGHBOUR: 'it returns false'. Refute it at one input. -/
def couplerReachesWrong : ChangeSpec := { name := "couplerReaches", fn := fun _ => fun
  | [d1, d2] => { results := [.lit (.bool false)], args := [d1, d2] }
  | _ => none }
def CouplerReachesWrongFalsely : Prop := couplerReachesRow.holds Tryd.pinned (OpenSpec.ofChange couplerReachesWrong)

/-- 'bombardelaw16.CouplerSteps': WHATEVER THE INPUT: true; the input reads as it did. -/
def couplerStepsSpec : ChangeSpec := { name := "couplerSteps", fn := fun _ => fun
  | [d1, d2, d3] => { results := [.lit (.bool true)], args := [d1, d2, d3] }
  | _ => none }
def couplerStepsRow : OpenClaim := { program := "ytnkjhppjjklgfaadoor", sum := "6e3cec58a8bfadbe6e27dd88d4aeaa5291146d5baca3014ec64929c90aefd8eb", func := "bombarde/bombardelaw16.CouplerSteps", spec := "couplerSteps", unfollowed := true, recurses := true, named := ["math/bits.deBruijn64tab"], plainKeys := false, apart := false, laid := [("math/bits.deBruijn64tab", laid_math_bits_deBruijn64tab)] }
def CouplerStepsSaid : Prop := couplerStepsRow.holds Tryd.pinned (OpenSpec.ofChange couplerStepsSpec)

/-- ITS FALSE NEIGHBOUR: 'it returns false'. Refute it at one input. -/
def couplerStepsWrong : ChangeSpec := { name := "couplerSteps", fn := fun _ => fun
  | [d1, d2, d3] => { results := [.lit (.bool false)], args := [d1, d2, d3] }
  | _ => none }
def CouplerStepsWrongFalsely : Prop := couplerStepsRow.holds Tryd.pinned (OpenSpec.ofChange couplerStepsWrong)

/-- 'bombardelaw16.CouplerMatrices': WHATEVER THE INPUT: true; the input reads as it did. -/
def couplerMatricesSpec : ChangeSpec := { name := "couplerMatrices", fn := fun _ => fun
  | [d] => { results := [.lit (.bool true)], args := [d] }
  | _ => none }
def couplerMatricesRow : OpenClaim := { program := "ytnkjhppjjklgfaadoor", sum := "6e3cec58a8bfadbe6e27dd88d4aeaa5291146d5baca3014ec64929c90aefd8eb", func := "bombarde/bombardelaw16.CouplerMatrices", spec := "couplerMatrices", unfollowed := true, recurses := true, named := ["math/bits.deBruijn64tab"], plainKeys := false, apart := false, laid := [("math/bits.deBruijn64tab", laid_math_bits_deBruijn64tab)] }
def CouplerMatricesSaid : Prop := couplerMatricesRow.holds Tryd.pinned (OpenSpec.ofChange couplerMatricesSpec)

/-- ITS FALSE NEIGHBOUR: 'it returns false'. Refute it at one input. -/
def couplerMatricesWrong : ChangeSpec := { name := "couplerMatrices", fn := fun _ => fun
  | [d] => { results := [.lit (.bool false)], args := [d] }
  | _ => none }
def CouplerMatricesWrongFalsely : Prop := couplerMatricesRow.holds Tryd.pinned (OpenSpec.ofChange couplerMatricesWrong)

/-- 'bombardelaw16.CouplerPlain': WHATEVER THE INPUT: true; the input reads as it did. -/
def couplerPlainSpec : ChangeSpec := { name := "couplerPlain", fn := fun _ => fun
  | [d1, d2] => { results := [.lit (.bool true)], args := [d1, d2] }
  | _ => none }
def couplerPlainRow : OpenClaim := { program := "ytnkjhppjjklgfaadoor", sum := "6e3cec58a8bfadbe6e27dd88d4aeaa5291146d5baca3014ec64929c90aefd8eb", func := "bombarde/bombardelaw16.CouplerPlain", spec := "couplerPlain", unfollowed := true, recurses := true, named := ["math/bits.deBruijn64tab"], plainKeys := false, apart := false, laid := [("math/bits.deBruijn64tab", laid_math_bits_deBruijn64tab)] }
def CouplerPlainSaid : Prop := couplerPlainRow.holds Tryd.pinned (OpenSpec.ofChange couplerPlainSpec)

/-- ITS FALSE NEIGHBOUR: 'it returns false'. Refute it at one input. -/
def couplerPlainWrong : ChangeSpec := { name := "couplerPlain", fn := fun _ => fun
  | [d1, d2] => { results := [.lit (.bool false)], args := [d1, d2] }
  | _ => none }
def CouplerPlainWrongFalsely : Prop := couplerPlainRow.holds Tryd.pinned (OpenSpec.ofChange couplerPlainWrong)

/-- 'bombardelaw16.CouplerSounds': WHATEVER THE INPUT: true; the input reads as it did. -/
def couplerSoundsSpec : ChangeSpec := { name := "couplerSounds", fn := fun _ => fun
  | [d1, d2, d3] => { results := [.lit (.bool true)], args := [d1, d2, d3] }
  | _ => none }
def couplerSoundsRow : OpenClaim := { program := "ytnkjhppjjklgfaadoor", sum := "6e3cec58a8bfadbe6e27dd88d4aeaa5291146d5baca3014ec64929c90aefd8eb", func := "bombarde/bombardelaw16.CouplerSounds", spec := "couplerSounds", unfollowed := true, recurses := true, named := ["math/bits.deBruijn64tab"], plainKeys := false, apart := false, laid := [("math/bits.deBruijn64tab", laid_math_bits_deBruijn64tab)] }
def CouplerSoundsSaid : Prop := couplerSoundsRow.holds Tryd.pinned (OpenSpec.ofChange couplerSoundsSpec)

/-- ITS FALSE NEIGHBOUR: 'it returns false'. Refute it at one input. -/
def couplerSoundsWrong : ChangeSpec := { name := "couplerSounds", fn := fun _ => fun
  | [d1, d2, d3] => { results := [.lit (.bool false)], args := [d1, d2, d3] }
  | _ => none }
def CouplerSoundsWrongFalsely : Prop := couplerSoundsRow.holds Tryd.pinned (OpenSpec.ofChange couplerSoundsWrong)

/-- 'bombardelaw16.CouplerKeys': WHATEVER THE INPUT: true; the input reads as it did. -/
def couplerKeysSpec : ChangeSpec := { name := "couplerKeys", fn := fun _ => fun
  | [d1, d2] => { results := [.lit (.bool true)], args := [d1, d2] }
  | _ => none }
def couplerKeysRow : OpenClaim := { program := "ytnkjhppjjklgfaadoor", sum := "6e3cec58a8bfadbe6e27dd88d4aeaa5291146d5baca3014ec64929c90aefd8eb", func := "bombarde/bombardelaw16.CouplerKeys", spec := "couplerKeys", unfollowed := true, recurses := true, named := ["math/bits.deBruijn64tab"], plainKeys := false, apart := false, laid := [("math/bits.deBruijn64tab", laid_math_bits_deBruijn64tab)] }
def CouplerKeysSaid : Prop := couplerKeysRow.holds Tryd.pinned (OpenSpec.ofChange couplerKeysSpec)

/-- ITS FALSE NEIGHBOUR: 'it returns false'. Refute it at one input. -/
def couplerKeysWrong : ChangeSpec := { name := "couplerKeys", fn := fun _ => fun
  | [d1, d2] => { results := [.lit (.bool false)], args := [d1, d2] }
  | _ => none }
def CouplerKeysWrongFalsely : Prop := couplerKeysRow.holds Tryd.pinned (OpenSpec.ofChange couplerKeysWrong)

/-- 'bombardelaw16.CouplerGrows': WHATEVER THE INPUT: true; the input reads as it did. -/
def couplerGrowsSpec : ChangeSpec := { name := "couplerGrows", fn := fun _ => fun
  | [d1, d2, d3] => { results := [.lit (.bool true)], args := [d1, d2, d3] }
  | _ => none }
def couplerGrowsRow : OpenClaim := { program := "ytnkjhppjjklgfaadoor", sum := "6e3cec58a8bfadbe6e27dd88d4aeaa5291146d5baca3014ec64929c90aefd8eb", func := "bombarde/bombardelaw16.CouplerGrows", spec := "couplerGrows", unfollowed := true, recurses := true, named := ["math/bits.deBruijn64tab"], plainKeys := false, apart := false, laid := [("math/bits.deBruijn64tab", laid_math_bits_deBruijn64tab)] }
def CouplerGrowsSaid : Prop := couplerGrowsRow.holds Tryd.pinned (OpenSpec.ofChange couplerGrowsSpec)

/-- ITS FALSE NEIGHBOUR: 'it returns false'. Refute it at one input. -/
def couplerGrowsWrong : ChangeSpec := { name := "couplerGrows", fn := fun _ => fun
  | [d1, d2, d3] => { results := [.lit (.bool false)], args := [d1, d2, d3] }
  | _ => none }
def CouplerGrowsWrongFalsely : Prop := couplerGrowsRow.holds Tryd.pinned (OpenSpec.ofChange couplerGrowsWrong)

/-- 'bombardelaw16.CouplerChecks': WHATEVER THE INPUT: true; the input reads as it did. -/
def couplerChecksSpec : ChangeSpec := { name := "couplerChecks", fn := fun _ => fun
  | [d] => { results := [.lit (.bool true)], args := [d] }
  | _ => none }
def couplerChecksRow : OpenClaim := { program := "ytnkjhppjjklgfaadoor", sum := "6e3cec58a8bfadbe6e27dd88d4aeaa5291146d5baca3014ec64929c90aefd8eb", func := "bombarde/bombardelaw16.CouplerChecks", spec := "couplerChecks", unfollowed := true, recurses := true, named := ["math/bits.deBruijn64tab"], plainKeys := false, apart := false, laid := [("math/bits.deBruijn64tab", laid_math_bits_deBruijn64tab)] }
def CouplerChecksSaid : Prop := couplerChecksRow.holds Tryd.pinned (OpenSpec.ofChange couplerChecksSpec)

/-- ITS FALSE NEIGHBOUR: 'it returns false'. Refute it at one input. -/
def couplerChecksWrong : ChangeSpec := { name := "couplerChecks", fn := fun _ => fun
  | [d] => { results := [.lit (.bool false)], args := [d] }
  | _ => none }
def CouplerChecksWrongFalsely : Prop := couplerChecksRow.holds Tryd.pinned (OpenSpec.ofChange couplerChecksWrong)

/- THE SECOND FORM. 'bulk': how many values and letters a reading holds, each counted each time it is reached (what is shared counts as often as it is met; a slice's spare places count too). A statement '..UptoSaid' is the law's where the arguments, and the package variables that the reading takes, are together of bulk at most 1048576: NARROWER than '..Said'. Prove '..Said' where nothing that the law and all that it calls make is longer than what came in: it says more and counts as full. Else prove '..UptoSaid'. A law counts once. -/
mutual
def uptoBulk {H : Type} : DataW H → Nat
  | .lit (.string bytes) => bytes.length + 1
  | .lit _ => 1
  | .nil => 1
  | .ptr d => uptoBulk d + 1
  | .slice elems spare => uptoBulkAll elems + uptoBulkAll spare + 1
  | .agg parts => uptoBulkAll parts + 1
  | .iface _ d => uptoBulk d + 1
  | .map entries => uptoBulkEntries entries + 1
  | .held _ => 1
def uptoBulkAll {H : Type} : List (DataW H) → Nat
  | [] => 0
  | d :: r => uptoBulk d + uptoBulkAll r
def uptoBulkEntries {H : Type} : List (Lit × DataW H) → Nat
  | [] => 0
  | x :: r => uptoBulkEntry x + uptoBulkEntries r
def uptoBulkEntry {H : Type} : Lit × DataW H → Nat
  | (.string bytes, d) => bytes.length + uptoBulk d + 1
  | (_, d) => uptoBulk d + 1
 end
def uptoSmall : (H : Type) → List (DataW H) → Bool := fun _ ds => decide (uptoBulkAll ds ≤ 1048576)
def OpenSpec.upto (s : _root_.Go.ChangeSpec) : _root_.Go.OpenSpec := { _root_.Go.OpenSpec.ofChange s with cond := some uptoSmall }

/-- 'bombardelaw16.CouplerReaches', WHERE WHAT IT READS IS OF BULK AT MOST 1048576: true; the input reads as it did. -/
def couplerReachesUptoRow : OpenClaim := { program := "ytnkjhppjjklgfaadoor", sum := "6e3cec58a8bfadbe6e27dd88d4aeaa5291146d5baca3014ec64929c90aefd8eb", func := "bombarde/bombardelaw16.CouplerReaches", spec := "couplerReaches", unfollowed := true, recurses := true, named := ["math/bits.deBruijn64tab"], plainKeys := false, apart := false, laid := [("math/bits.deBruijn64tab", laid_math_bits_deBruijn64tab)], narrowed := true }
def CouplerReachesUptoSaid : Prop := couplerReachesUptoRow.holds Tryd.pinned (OpenSpec.upto couplerReachesSpec)

/-- 'bombardelaw16.CouplerSteps', WHERE WHAT IT READS IS OF BULK AT MOST 1048576: true; the input reads as it did. -/
def couplerStepsUptoRow : OpenClaim := { program := "ytnkjhppjjklgfaadoor", sum := "6e3cec58a8bfadbe6e27dd88d4aeaa5291146d5baca3014ec64929c90aefd8eb", func := "bombarde/bombardelaw16.CouplerSteps", spec := "couplerSteps", unfollowed := true, recurses := true, named := ["math/bits.deBruijn64tab"], plainKeys := false, apart := false, laid := [("math/bits.deBruijn64tab", laid_math_bits_deBruijn64tab)], narrowed := true }
def CouplerStepsUptoSaid : Prop := couplerStepsUptoRow.holds Tryd.pinned (OpenSpec.upto couplerStepsSpec)

/-- 'bombardelaw16.CouplerMatrices', WHERE WHAT IT READS IS OF BULK AT MOST 1048576: true; the input reads as it did. -/
def couplerMatricesUptoRow : OpenClaim := { program := "ytnkjhppjjklgfaadoor", sum := "6e3cec58a8bfadbe6e27dd88d4aeaa5291146d5baca3014ec64929c90aefd8eb", func := "bombarde/bombardelaw16.CouplerMatrices", spec := "couplerMatrices", unfollowed := true, recurses := true, named := ["math/bits.deBruijn64tab"], plainKeys := false, apart := false, laid := [("math/bits.deBruijn64tab", laid_math_bits_deBruijn64tab)], narrowed := true }
def CouplerMatricesUptoSaid : Prop := couplerMatricesUptoRow.holds Tryd.pinned (OpenSpec.upto couplerMatricesSpec)

/-- 'bombardelaw16.CouplerPlain', WHERE WHAT IT READS IS OF BULK AT MOST 1048576: true; the input reads as it did. -/
def couplerPlainUptoRow : OpenClaim := { program := "ytnkjhppjjklgfaadoor", sum := "6e3cec58a8bfadbe6e27dd88d4aeaa5291146d5baca3014ec64929c90aefd8eb", func := "bombarde/bombardelaw16.CouplerPlain", spec := "couplerPlain", unfollowed := true, recurses := true, named := ["math/bits.deBruijn64tab"], plainKeys := false, apart := false, laid := [("math/bits.deBruijn64tab", laid_math_bits_deBruijn64tab)], narrowed := true }
def CouplerPlainUptoSaid : Prop := couplerPlainUptoRow.holds Tryd.pinned (OpenSpec.upto couplerPlainSpec)

/-- 'bombardelaw16.CouplerSounds', WHERE WHAT IT READS IS OF BULK AT MOST 1048576: true; the input reads as it did. -/
def couplerSoundsUptoRow : OpenClaim := { program := "ytnkjhppjjklgfaadoor", sum := "6e3cec58a8bfadbe6e27dd88d4aeaa5291146d5baca3014ec64929c90aefd8eb", func := "bombarde/bombardelaw16.CouplerSounds", spec := "couplerSounds", unfollowed := true, recurses := true, named := ["math/bits.deBruijn64tab"], plainKeys := false, apart := false, laid := [("math/bits.deBruijn64tab", laid_math_bits_deBruijn64tab)], narrowed := true }
def CouplerSoundsUptoSaid : Prop := couplerSoundsUptoRow.holds Tryd.pinned (OpenSpec.upto couplerSoundsSpec)

/-- 'bombardelaw16.CouplerKeys', WHERE WHAT IT READS IS OF BULK AT MOST 1048576: true; the input reads as it did. -/
def couplerKeysUptoRow : OpenClaim := { program := "ytnkjhppjjklgfaadoor", sum := "6e3cec58a8bfadbe6e27dd88d4aeaa5291146d5baca3014ec64929c90aefd8eb", func := "bombarde/bombardelaw16.CouplerKeys", spec := "couplerKeys", unfollowed := true, recurses := true, named := ["math/bits.deBruijn64tab"], plainKeys := false, apart := false, laid := [("math/bits.deBruijn64tab", laid_math_bits_deBruijn64tab)], narrowed := true }
def CouplerKeysUptoSaid : Prop := couplerKeysUptoRow.holds Tryd.pinned (OpenSpec.upto couplerKeysSpec)

/-- 'bombardelaw16.CouplerGrows', WHERE WHAT IT READS IS OF BULK AT MOST 1048576: true; the input reads as it did. -/
def couplerGrowsUptoRow : OpenClaim := { program := "ytnkjhppjjklgfaadoor", sum := "6e3cec58a8bfadbe6e27dd88d4aeaa5291146d5baca3014ec64929c90aefd8eb", func := "bombarde/bombardelaw16.CouplerGrows", spec := "couplerGrows", unfollowed := true, recurses := true, named := ["math/bits.deBruijn64tab"], plainKeys := false, apart := false, laid := [("math/bits.deBruijn64tab", laid_math_bits_deBruijn64tab)], narrowed := true }
def CouplerGrowsUptoSaid : Prop := couplerGrowsUptoRow.holds Tryd.pinned (OpenSpec.upto couplerGrowsSpec)

/-- 'bombardelaw16.CouplerChecks', WHERE WHAT IT READS IS OF BULK AT MOST 1048576: true; the input reads as it did. -/
def couplerChecksUptoRow : OpenClaim := { program := "ytnkjhppjjklgfaadoor", sum := "6e3cec58a8bfadbe6e27dd88d4aeaa5291146d5baca3014ec64929c90aefd8eb", func := "bombarde/bombardelaw16.CouplerChecks", spec := "couplerChecks", unfollowed := true, recurses := true, named := ["math/bits.deBruijn64tab"], plainKeys := false, apart := false, laid := [("math/bits.deBruijn64tab", laid_math_bits_deBruijn64tab)], narrowed := true }
def CouplerChecksUptoSaid : Prop := couplerChecksUptoRow.holds Tryd.pinned (OpenSpec.upto couplerChecksSpec)

end Rows
end Go.Proofs.YtnkjhppjjklgfaaDoor
