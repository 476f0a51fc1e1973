/-
  NARROWER THAN 'FOR EVERY INPUT', by the rows' own cells (each row's printed sentence says how): ChainFollows: laid · ChainCuts: laid · ChainCompares: laid · ChainSources: laid · ChainErrors: laid · ChainAll: laid · ChainLimits: laid · ChainReaches: laid.
  DERIVED. THE GIVEN ROWS OF THIS SEAT. 8 by the template 'for every input the law returns true; each argument reads behind the call as it read before'; 0 by the template 'total and deterministic' (their statements: YtahlfndlkfoikaaDoorTotals.lean).
  GIVEN WITH THE SEED: the statements are not yours to turn. If you find one false, say at which input.
  Laid BY PROGRAM, IN A SANDBOX (cutbox-rows.mjs): the forced cells as the released guide's own fill.sh prints them over the translation 71c0262a29d21b84… (all of the seat's roots in one cut). By AI agents, Wed Nov 11 2026. No macro, syntax, notation, axiom, sorry.
-/
import Derived.Test.YtahlfndlkfoikaaDoorChecked
import GoSem.Claim
import GoSem.ClaimJoined
import GoSem.ClaimMapViews
import Derived.JoinedTies
import Derived.KernelRfl
namespace Go.Proofs.YtahlfndlkfoikaaDoor
/- THE CELL 'sum', in the pinned program and in every row, IS THE sha256 OF THE DUMP (.gsa) THAT YtahlfndlkfoikaaDoorProg.lean LOADS. Nothing in Lean hashes anything: it is a label: what it is worth is what the hold of that sum in a sandbox is worth. -/
noncomputable def Tryd.pinned : Pinned := { name := "ytahlfndlkfoikaadoor", sum := "71c0262a29d21b84d1c765abbf89a7f3ed0310e1008dd13ef443c0ac6f02137e", checked := Tryd.checked }
namespace Rows
def none {H : Type} : Left H := { results := [], args := [] }

/- WHAT THE LISTED PACKAGE-LEVEL VARIABLES READ AS WHEN THE CALL BEGINS. Each datum BY PROGRAM (the guide's laid-datum.mjs) off the statement by which the dump's own 'gosem.cut.vars' lays the variable. In a bare row this is a premise. The card (YtahlfndlkfoikaaDoorCards.lean) ties it to the program's text. -/
def laid_math_bits_deBruijn32tab {H : Type} : DataW H := .agg [.lit (.int .u8 0), .lit (.int .u8 1), .lit (.int .u8 28), .lit (.int .u8 2), .lit (.int .u8 29), .lit (.int .u8 14), .lit (.int .u8 24), .lit (.int .u8 3), .lit (.int .u8 30), .lit (.int .u8 22), .lit (.int .u8 20), .lit (.int .u8 15), .lit (.int .u8 25), .lit (.int .u8 17), .lit (.int .u8 4), .lit (.int .u8 8), .lit (.int .u8 31), .lit (.int .u8 27), .lit (.int .u8 13), .lit (.int .u8 23), .lit (.int .u8 21), .lit (.int .u8 19), .lit (.int .u8 16), .lit (.int .u8 7), .lit (.int .u8 26), .lit (.int .u8 12), .lit (.int .u8 18), .lit (.int .u8 6), .lit (.int .u8 11), .lit (.int .u8 5), .lit (.int .u8 10), .lit (.int .u8 9)]
def laid_math_bits_deBruijn64tab {H : Type} : DataW H := .agg [.lit (.int .u8 0), .lit (.int .u8 1), .lit (.int .u8 56), .lit (.int .u8 2), .lit (.int .u8 57), .lit (.int .u8 49), .lit (.int .u8 28), .lit (.int .u8 3), .lit (.int .u8 61), .lit (.int .u8 58), .lit (.int .u8 42), .lit (.int .u8 50), .lit (.int .u8 38), .lit (.int .u8 29), .lit (.int .u8 17), .lit (.int .u8 4), .lit (.int .u8 62), .lit (.int .u8 47), .lit (.int .u8 59), .lit (.int .u8 36), .lit (.int .u8 45), .lit (.int .u8 43), .lit (.int .u8 51), .lit (.int .u8 22), .lit (.int .u8 53), .lit (.int .u8 39), .lit (.int .u8 33), .lit (.int .u8 30), .lit (.int .u8 24), .lit (.int .u8 18), .lit (.int .u8 12), .lit (.int .u8 5), .lit (.int .u8 63), .lit (.int .u8 55), .lit (.int .u8 48), .lit (.int .u8 27), .lit (.int .u8 60), .lit (.int .u8 41), .lit (.int .u8 37), .lit (.int .u8 16), .lit (.int .u8 46), .lit (.int .u8 35), .lit (.int .u8 44), .lit (.int .u8 21), .lit (.int .u8 52), .lit (.int .u8 32), .lit (.int .u8 23), .lit (.int .u8 11), .lit (.int .u8 54), .lit (.int .u8 26), .lit (.int .u8 40), .lit (.int .u8 15), .lit (.int .u8 34), .lit (.int .u8 20), .lit (.int .u8 31), .lit (.int .u8 10), .lit (.int .u8 25), .lit (.int .u8 14), .lit (.int .u8 19), .lit (.int .u8 9), .lit (.int .u8 13), .lit (.int .u8 8), .lit (.int .u8 7), .lit (.int .u8 6)]
def laid_internal_strconv_uint64pow10 {H : Type} : DataW H := .agg [.lit (.int .u64 1), .lit (.int .u64 10), .lit (.int .u64 100), .lit (.int .u64 1000), .lit (.int .u64 10000), .lit (.int .u64 100000), .lit (.int .u64 1000000), .lit (.int .u64 10000000), .lit (.int .u64 100000000), .lit (.int .u64 1000000000), .lit (.int .u64 10000000000), .lit (.int .u64 100000000000), .lit (.int .u64 1000000000000), .lit (.int .u64 10000000000000), .lit (.int .u64 100000000000000), .lit (.int .u64 1000000000000000), .lit (.int .u64 10000000000000000), .lit (.int .u64 100000000000000000), .lit (.int .u64 1000000000000000000), .lit (.int .u64 10000000000000000000)]

/-- 'bombardelaw24.ChainFollows': WHATEVER THE INPUT: true; the input reads as it did. -/
def chainFollowsSpec : ChangeSpec := { name := "chainFollows", fn := fun _ => fun
  | [d1, d2, d3] => { results := [.lit (.bool true)], args := [d1, d2, d3] }
  | _ => none }
def chainFollowsRow : OpenClaim := { program := "ytahlfndlkfoikaadoor", sum := "71c0262a29d21b84d1c765abbf89a7f3ed0310e1008dd13ef443c0ac6f02137e", func := "bombarde/bombardelaw24.ChainFollows", spec := "chainFollows", unfollowed := true, recurses := true, named := ["math/bits.deBruijn64tab", "internal/strconv.uint64pow10", "math/bits.deBruijn32tab"], plainKeys := false, apart := false, laid := [("math/bits.deBruijn32tab", laid_math_bits_deBruijn32tab), ("math/bits.deBruijn64tab", laid_math_bits_deBruijn64tab), ("internal/strconv.uint64pow10", laid_internal_strconv_uint64pow10)] }
def ChainFollowsSaid : Prop := chainFollowsRow.holds Tryd.pinned (OpenSpec.ofChange chainFollowsSpec)

/-- ITS FALSE NEIGHBOUR: 'it returns false'. Refute it at one input. -/
def chainFollowsWrong : ChangeSpec := { name := "chainFollows", fn := fun _ => fun
  | [d1, d2, d3] => { results := [.lit (.bool false)], args := [d1, d2, d3] }
  | _ => none }
def ChainFollowsWrongFalsely : Prop := chainFollowsRow.holds Tryd.pinned (OpenSpec.ofChange chainFollowsWrong)

/-- 'bombardelaw24.ChainCuts': WHATEVER THE INPUT: true; the input reads as it did. -/
def chainCutsSpec : ChangeSpec := { name := "chainCuts", fn := fun _ => fun
  | [d1, d2, d3] => { results := [.lit (.bool true)], args := [d1, d2, d3] }
  | _ => none }
def chainCutsRow : OpenClaim := { program := "ytahlfndlkfoikaadoor", sum := "71c0262a29d21b84d1c765abbf89a7f3ed0310e1008dd13ef443c0ac6f02137e", func := "bombarde/bombardelaw24.ChainCuts", spec := "chainCuts", unfollowed := true, recurses := true, named := ["math/bits.deBruijn64tab", "internal/strconv.uint64pow10", "math/bits.deBruijn32tab"], plainKeys := false, apart := false, laid := [("math/bits.deBruijn32tab", laid_math_bits_deBruijn32tab), ("math/bits.deBruijn64tab", laid_math_bits_deBruijn64tab), ("internal/strconv.uint64pow10", laid_internal_strconv_uint64pow10)] }
def ChainCutsSaid : Prop := chainCutsRow.holds Tryd.pinned (OpenSpec.ofChange chainCutsSpec)

/-- ITS FALSE NEIGHBOUR: 'it returns false'. Refute it at one input. -/
def chainCutsWrong : ChangeSpec := { name := "chainCuts", fn := fun _ => fun
  | [d1, d2, d3] => { results := [.lit (.bool false)], args := [d1, d2, d3] }
  | _ => none }
def ChainCutsWrongFalsely : Prop := chainCutsRow.holds Tryd.pinned (OpenSpec.ofChange chainCutsWrong)

/-- 'bombardelaw24.ChainCompares': WHATEVER THE INPUT: true; the input reads as it did. -/
def chainComparesSpec : ChangeSpec := { name := "chainCompares", fn := fun _ => fun
  | [d1, d2] => { results := [.lit (.bool true)], args := [d1, d2] }
  | _ => none }
def chainComparesRow : OpenClaim := { program := "ytahlfndlkfoikaadoor", sum := "71c0262a29d21b84d1c765abbf89a7f3ed0310e1008dd13ef443c0ac6f02137e", func := "bombarde/bombardelaw24.ChainCompares", spec := "chainCompares", unfollowed := true, recurses := true, named := ["math/bits.deBruijn64tab", "internal/strconv.uint64pow10", "math/bits.deBruijn32tab"], plainKeys := false, apart := false, laid := [("math/bits.deBruijn32tab", laid_math_bits_deBruijn32tab), ("math/bits.deBruijn64tab", laid_math_bits_deBruijn64tab), ("internal/strconv.uint64pow10", laid_internal_strconv_uint64pow10)] }
def ChainComparesSaid : Prop := chainComparesRow.holds Tryd.pinned (OpenSpec.ofChange chainComparesSpec)

/-- ITS FALSE NEIGHBOUR: 'it returns false'. Refute it at one input. -/
def chainComparesWrong : ChangeSpec := { name := "chainCompares", fn := fun _ => fun
  | [d1, d2] => { results := [.lit (.bool false)], args := [d1, d2] }
  | _ => none }
def ChainComparesWrongFalsely : Prop := chainComparesRow.holds Tryd.pinned (OpenSpec.ofChange chainComparesWrong)

/-- 'bombardelaw24.ChainSources': WHATEVER THE INPUT: true; the input reads as it did. -/
def chainSourcesSpec : ChangeSpec := { name := "chainSources", fn := fun _ => fun
  | [d1, d2] => { results := [.lit (.bool true)], args := [d1, d2] }
  | _ => none }
def chainSourcesRow : OpenClaim := { program := "ytahlfndlkfoikaadoor", sum := "71c0262a29d21b84d1c765abbf89a7f3ed0310e1008dd13ef443c0ac6f02137e", func := "bombarde/bombardelaw24.ChainSources", spec := "chainSources", unfollowed := true, recurses := true, named := ["math/bits.deBruijn64tab", "internal/strconv.uint64pow10", "math/bits.deBruijn32tab"], plainKeys := false, apart := false, laid := [("math/bits.deBruijn32tab", laid_math_bits_deBruijn32tab), ("math/bits.deBruijn64tab", laid_math_bits_deBruijn64tab), ("internal/strconv.uint64pow10", laid_internal_strconv_uint64pow10)] }
def ChainSourcesSaid : Prop := chainSourcesRow.holds Tryd.pinned (OpenSpec.ofChange chainSourcesSpec)

/-- ITS FALSE NEIGHBOUR: 'it returns false'. Refute it at one input. -/
def chainSourcesWrong : ChangeSpec := { name := "chainSources", fn := fun _ => fun
  | [d1, d2] => { results := [.lit (.bool false)], args := [d1, d2] }
  | _ => none }
def ChainSourcesWrongFalsely : Prop := chainSourcesRow.holds Tryd.pinned (OpenSpec.ofChange chainSourcesWrong)

/-- 'bombardelaw24.ChainErrors': WHATEVER THE INPUT: true; the input reads as it did. -/
def chainErrorsSpec : ChangeSpec := { name := "chainErrors", fn := fun _ => fun
  | [d1, d2, d3] => { results := [.lit (.bool true)], args := [d1, d2, d3] }
  | _ => none }
def chainErrorsRow : OpenClaim := { program := "ytahlfndlkfoikaadoor", sum := "71c0262a29d21b84d1c765abbf89a7f3ed0310e1008dd13ef443c0ac6f02137e", func := "bombarde/bombardelaw24.ChainErrors", spec := "chainErrors", unfollowed := true, recurses := true, named := ["math/bits.deBruijn64tab", "internal/strconv.uint64pow10", "math/bits.deBruijn32tab"], plainKeys := false, apart := false, laid := [("math/bits.deBruijn32tab", laid_math_bits_deBruijn32tab), ("math/bits.deBruijn64tab", laid_math_bits_deBruijn64tab), ("internal/strconv.uint64pow10", laid_internal_strconv_uint64pow10)] }
def ChainErrorsSaid : Prop := chainErrorsRow.holds Tryd.pinned (OpenSpec.ofChange chainErrorsSpec)

/-- ITS FALSE NEIGHBOUR: 'it returns false'. Refute it at one input. -/
def chainErrorsWrong : ChangeSpec := { name := "chainErrors", fn := fun _ => fun
  | [d1, d2, d3] => { results := [.lit (.bool false)], args := [d1, d2, d3] }
  | _ => none }
def ChainErrorsWrongFalsely : Prop := chainErrorsRow.holds Tryd.pinned (OpenSpec.ofChange chainErrorsWrong)

/-- 'bombardelaw24.ChainAll': WHATEVER THE INPUT: true; the input reads as it did. -/
def chainAllSpec : ChangeSpec := { name := "chainAll", fn := fun _ => fun
  | [d1, d2, d3] => { results := [.lit (.bool true)], args := [d1, d2, d3] }
  | _ => none }
def chainAllRow : OpenClaim := { program := "ytahlfndlkfoikaadoor", sum := "71c0262a29d21b84d1c765abbf89a7f3ed0310e1008dd13ef443c0ac6f02137e", func := "bombarde/bombardelaw24.ChainAll", spec := "chainAll", unfollowed := true, recurses := true, named := ["math/bits.deBruijn64tab", "internal/strconv.uint64pow10", "math/bits.deBruijn32tab"], plainKeys := false, apart := false, laid := [("math/bits.deBruijn32tab", laid_math_bits_deBruijn32tab), ("math/bits.deBruijn64tab", laid_math_bits_deBruijn64tab), ("internal/strconv.uint64pow10", laid_internal_strconv_uint64pow10)] }
def ChainAllSaid : Prop := chainAllRow.holds Tryd.pinned (OpenSpec.ofChange chainAllSpec)

/-- ITS FALSE NEIGHBOUR: 'it returns false'. Refute it at one input. -/
def chainAllWrong : ChangeSpec := { name := "chainAll", fn := fun _ => fun
  | [d1, d2, d3] => { results := [.lit (.bool false)], args := [d1, d2, d3] }
  | _ => none }
def ChainAllWrongFalsely : Prop := chainAllRow.holds Tryd.pinned (OpenSpec.ofChange chainAllWrong)

/-- 'bombardelaw24.ChainLimits': WHATEVER THE INPUT: true; the input reads as it did. -/
def chainLimitsSpec : ChangeSpec := { name := "chainLimits", fn := fun _ => fun
  | [d] => { results := [.lit (.bool true)], args := [d] }
  | _ => none }
def chainLimitsRow : OpenClaim := { program := "ytahlfndlkfoikaadoor", sum := "71c0262a29d21b84d1c765abbf89a7f3ed0310e1008dd13ef443c0ac6f02137e", func := "bombarde/bombardelaw24.ChainLimits", spec := "chainLimits", unfollowed := true, recurses := true, named := ["math/bits.deBruijn64tab", "internal/strconv.uint64pow10", "math/bits.deBruijn32tab"], plainKeys := false, apart := false, laid := [("math/bits.deBruijn32tab", laid_math_bits_deBruijn32tab), ("math/bits.deBruijn64tab", laid_math_bits_deBruijn64tab), ("internal/strconv.uint64pow10", laid_internal_strconv_uint64pow10)] }
def ChainLimitsSaid : Prop := chainLimitsRow.holds Tryd.pinned (OpenSpec.ofChange chainLimitsSpec)

/-- ITS FALSE NEIGHBOUR: 'it returns false'. Refute it at one input. -/
def chainLimitsWrong : ChangeSpec := { name := "chainLimits", fn := fun _ => fun
  | [d] => { results := [.lit (.bool false)], args := [d] }
  | _ => none }
def ChainLimitsWrongFalsely : Prop := chainLimitsRow.holds Tryd.pinned (OpenSpec.ofChange chainLimitsWrong)

/-- 'bombardelaw24.ChainReaches': WHATEVER THE INPUT: true; the input reads as it did. -/
def chainReachesSpec : ChangeSpec := { name := "chainReaches", fn := fun _ => fun
  | [d1, d2, d3] => { results := [.lit (.bool true)], args := [d1, d2, d3] }
  | _ => none }
def chainReachesRow : OpenClaim := { program := "ytahlfndlkfoikaadoor", sum := "71c0262a29d21b84d1c765abbf89a7f3ed0310e1008dd13ef443c0ac6f02137e", func := "bombarde/bombardelaw24.ChainReaches", spec := "chainReaches", unfollowed := true, recurses := true, named := ["math/bits.deBruijn64tab", "internal/strconv.uint64pow10", "math/bits.deBruijn32tab"], plainKeys := false, apart := false, laid := [("math/bits.deBruijn32tab", laid_math_bits_deBruijn32tab), ("math/bits.deBruijn64tab", laid_math_bits_deBruijn64tab), ("internal/strconv.uint64pow10", laid_internal_strconv_uint64pow10)] }
def ChainReachesSaid : Prop := chainReachesRow.holds Tryd.pinned (OpenSpec.ofChange chainReachesSpec)

/-- ITS FALSE NEIGHBOUR: 'it returns false'. Refute it at one input. -/
def chainReachesWrong : ChangeSpec := { name := "chainReaches", fn := fun _ => fun
  | [d1, d2, d3] => { results := [.lit (.bool false)], args := [d1, d2, d3] }
  | _ => none }
def ChainReachesWrongFalsely : Prop := chainReachesRow.holds Tryd.pinned (OpenSpec.ofChange chainReachesWrong)

/- THE SECOND FORM. 'bulk': how many values and letters a reading holds, each counted each time it is reached (what is shared counts as often as it is met; a slice's spare places count too). A statement '..UptoSaid' is the law's where the arguments, and the package variables that the reading takes, are together of bulk at most 1048576: NARROWER than '..Said'. Prove '..Said' where nothing that the law and all that it calls make is longer than what came in: it says more and counts as full. Else prove '..UptoSaid'. A law counts once. -/
mutual
def uptoBulk {H : Type} : DataW H → Nat
  | .lit (.string bytes) => bytes.length + 1
  | .lit _ => 1
  | .nil => 1
  | .ptr d => uptoBulk d + 1
  | .slice elems spare => uptoBulkAll elems + uptoBulkAll spare + 1
  | .agg parts => uptoBulkAll parts + 1
  | .iface _ d => uptoBulk d + 1
  | .map entries => uptoBulkEntries entries + 1
  | .held _ => 1
def uptoBulkAll {H : Type} : List (DataW H) → Nat
  | [] => 0
  | d :: r => uptoBulk d + uptoBulkAll r
def uptoBulkEntries {H : Type} : List (Lit × DataW H) → Nat
  | [] => 0
  | x :: r => uptoBulkEntry x + uptoBulkEntries r
def uptoBulkEntry {H : Type} : Lit × DataW H → Nat
  | (.string bytes, d) => bytes.length + uptoBulk d + 1
  | (_, d) => uptoBulk d + 1
 end
def uptoSmall : (H : Type) → List (DataW H) → Bool := fun _ ds => decide (uptoBulkAll ds ≤ 1048576)
def OpenSpec.upto (s : _root_.Go.ChangeSpec) : _root_.Go.OpenSpec := { _root_.Go.OpenSpec.ofChange s with cond := some uptoSmall }

/-- 'bombardelaw24.ChainFollows', WHERE WHAT IT READS IS OF BULK AT MOST 1048576: true; the input reads as it did. -/
def chainFollowsUptoRow : OpenClaim := { program := "ytahlfndlkfoikaadoor", sum := "71c0262a29d21b84d1c765abbf89a7f3ed0310e1008dd13ef443c0ac6f02137e", func := "bombarde/bombardelaw24.ChainFollows", spec := "chainFollows", unfollowed := true, recurses := true, named := ["math/bits.deBruijn64tab", "internal/strconv.uint64pow10", "math/bits.deBruijn32tab"], plainKeys := false, apart := false, laid := [("math/bits.deBruijn32tab", laid_math_bits_deBruijn32tab), ("math/bits.deBruijn64tab", laid_math_bits_deBruijn64tab), ("internal/strconv.uint64pow10", laid_internal_strconv_uint64pow10)], narrowed := true }
def ChainFollowsUptoSaid : Prop := chainFollowsUptoRow.holds Tryd.pinned (OpenSpec.upto chainFollowsSpec)

/-- 'bombardelaw24.ChainCuts', WHERE WHAT IT READS IS OF BULK AT MOST 1048576: true; the input reads as it did. -/
def chainCutsUptoRow : OpenClaim := { program := "ytahlfndlkfoikaadoor", sum := "71c0262a29d21b84d1c765abbf89a7f3ed0310e1008dd13ef443c0ac6f02137e", func := "bombarde/bombardelaw24.ChainCuts", spec := "chainCuts", unfollowed := true, recurses := true, named := ["math/bits.deBruijn64tab", "internal/strconv.uint64pow10", "math/bits.deBruijn32tab"], plainKeys := false, apart := false, laid := [("math/bits.deBruijn32tab", laid_math_bits_deBruijn32tab), ("math/bits.deBruijn64tab", laid_math_bits_deBruijn64tab), ("internal/strconv.uint64pow10", laid_internal_strconv_uint64pow10)], narrowed := true }
def ChainCutsUptoSaid : Prop := chainCutsUptoRow.holds Tryd.pinned (OpenSpec.upto chainCutsSpec)

/-- 'bombardelaw24.ChainCompares', WHERE WHAT IT READS IS OF BULK AT MOST 1048576: true; the input reads as it did. -/
def chainComparesUptoRow : OpenClaim := { program := "ytahlfndlkfoikaadoor", sum := "71c0262a29d21b84d1c765abbf89a7f3ed0310e1008dd13ef443c0ac6f02137e", func := "bombarde/bombardelaw24.ChainCompares", spec := "chainCompares", unfollowed := true, recurses := true, named := ["math/bits.deBruijn64tab", "internal/strconv.uint64pow10", "math/bits.deBruijn32tab"], plainKeys := false, apart := false, laid := [("math/bits.deBruijn32tab", laid_math_bits_deBruijn32tab), ("math/bits.deBruijn64tab", laid_math_bits_deBruijn64tab), ("internal/strconv.uint64pow10", laid_internal_strconv_uint64pow10)], narrowed := true }
def ChainComparesUptoSaid : Prop := chainComparesUptoRow.holds Tryd.pinned (OpenSpec.upto chainComparesSpec)

/-- 'bombardelaw24.ChainSources', WHERE WHAT IT READS IS OF BULK AT MOST 1048576: true; the input reads as it did. -/
def chainSourcesUptoRow : OpenClaim := { program := "ytahlfndlkfoikaadoor", sum := "71c0262a29d21b84d1c765abbf89a7f3ed0310e1008dd13ef443c0ac6f02137e", func := "bombarde/bombardelaw24.ChainSources", spec := "chainSources", unfollowed := true, recurses := true, named := ["math/bits.deBruijn64tab", "internal/strconv.uint64pow10", "math/bits.deBruijn32tab"], plainKeys := false, apart := false, laid := [("math/bits.deBruijn32tab", laid_math_bits_deBruijn32tab), ("math/bits.deBruijn64tab", laid_math_bits_deBruijn64tab), ("internal/strconv.uint64pow10", laid_internal_strconv_uint64pow10)], narrowed := true }
def ChainSourcesUptoSaid : Prop := chainSourcesUptoRow.holds Tryd.pinned (OpenSpec.upto chainSourcesSpec)

/-- 'bombardelaw24.ChainErrors', WHERE WHAT IT READS IS OF BULK AT MOST 1048576: true; the input reads as it did. -/
def chainErrorsUptoRow : OpenClaim := { program := "ytahlfndlkfoikaadoor", sum := "71c0262a29d21b84d1c765abbf89a7f3ed0310e1008dd13ef443c0ac6f02137e", func := "bombarde/bombardelaw24.ChainErrors", spec := "chainErrors", unfollowed := true, recurses := true, named := ["math/bits.deBruijn64tab", "internal/strconv.uint64pow10", "math/bits.deBruijn32tab"], plainKeys := false, apart := false, laid := [("math/bits.deBruijn32tab", laid_math_bits_deBruijn32tab), ("math/bits.deBruijn64tab", laid_math_bits_deBruijn64tab), ("internal/strconv.uint64pow10", laid_internal_strconv_uint64pow10)], narrowed := true }
def ChainErrorsUptoSaid : Prop := chainErrorsUptoRow.holds Tryd.pinned (OpenSpec.upto chainErrorsSpec)

/-- 'bombardelaw24.ChainAll', WHERE WHAT IT READS IS OF BULK AT MOST 1048576: true; the input reads as it did. -/
def chainAllUptoRow : OpenClaim := { program := "ytahlfndlkfoikaadoor", sum := "71c0262a29d21b84d1c765abbf89a7f3ed0310e1008dd13ef443c0ac6f02137e", func := "bombarde/bombardelaw24.ChainAll", spec := "chainAll", unfollowed := true, recurses := true, named := ["math/bits.deBruijn64tab", "internal/strconv.uint64pow10", "math/bits.deBruijn32tab"], plainKeys := false, apart := false, laid := [("math/bits.deBruijn32tab", laid_math_bits_deBruijn32tab), ("math/bits.deBruijn64tab", laid_math_bits_deBruijn64tab), ("internal/strconv.uint64pow10", laid_internal_strconv_uint64pow10)], narrowed := true }
def ChainAllUptoSaid : Prop := chainAllUptoRow.holds Tryd.pinned (OpenSpec.upto chainAllSpec)

/-- 'bombardelaw24.ChainLimits', WHERE WHAT IT READS IS OF BULK AT MOST 1048576: true; the input reads as it did. -/
def chainLimitsUptoRow : OpenClaim := { program := "ytahlfndlkfoikaadoor", sum := "71c0262a29d21b84d1c765abbf89a7f3ed0310e1008dd13ef443c0ac6f02137e", func := "bombarde/bombardelaw24.ChainLimits", spec := "chainLimits", unfollowed := true, recurses := true, named := ["math/bits.deBruijn64tab", "internal/strconv.uint64pow10", "math/bits.deBruijn32tab"], plainKeys := false, apart := false, laid := [("math/bits.deBruijn32tab", laid_math_bits_deBruijn32tab), ("math/bits.deBruijn64tab", laid_math_bits_deBruijn64tab), ("internal/strconv.uint64pow10", laid_internal_strconv_uint64pow10)], narrowed := true }
def ChainLimitsUptoSaid : Prop := chainLimitsUptoRow.holds Tryd.pinned (OpenSpec.upto chainLimitsSpec)

/-- 'bombardelaw24.ChainReaches', WHERE WHAT IT READS IS OF BULK AT MOST 1048576: true; the input reads as it did. -/
def chainReachesUptoRow : OpenClaim := { program := "ytahlfndlkfoikaadoor", sum := "71c0262a29d21b84d1c765abbf89a7f3ed0310e1008dd13ef443c0ac6f02137e", func := "bombarde/bombardelaw24.ChainReaches", spec := "chainReaches", unfollowed := true, recurses := true, named := ["math/bits.deBruijn64tab", "internal/strconv.uint64pow10", "math/bits.deBruijn32tab"], plainKeys := false, apart := false, laid := [("math/bits.deBruijn32tab", laid_math_bits_deBruijn32tab), ("math/bits.deBruijn64tab", laid_math_bits_deBruijn64tab), ("internal/strconv.uint64pow10", laid_internal_strconv_uint64pow10)], narrowed := true }
def ChainReachesUptoSaid : Prop := chainReachesUptoRow.holds Tryd.pinned (OpenSpec.upto chainReachesSpec)

end Rows
end Go.Proofs.YtahlfndlkfoikaaDoor
