/- The statement ChainLimits: for every input the call returns true, and the arguments read as they did, where the listed variables lie as the program's text lays them. -/
import Derived.Test.YtahlfndlkfoikaaDoorJh
import Derived.Test.YtahlfndlkfoikaaDoorFR0
namespace Go.Proofs.YtahlfndlkfoikaaDoor
open Go Go.RowKit Go.ChangeShapes Go.WideShapes
theorem chainLimits_tab {W : World} (h : laidMetH Tryd.prog Rows.chainLimitsRow.laid W) : Tab64 W := by
  rw [MakeChecks.laidMetH_plain _ _ _ (by kernel_rfl)] at h
  exact tab_of_laid (L := Rows.chainLimitsRow.laid) (n := "math/bits.deBruijn64tab") (tab := Lib.deBruijn64tab) (g := 0) (T := 112) (te := 5) (len := 64) h (List.mem_cons_of_mem _ (List.mem_cons_self ..)) (by kernel_rfl) (by kernel_rfl) Tryd.underlying112 Tryd.underlying5 cells_u8
theorem chainLimits_tabP {W : World} (h : laidMetH Tryd.prog Rows.chainLimitsRow.laid W) : TabP W := by
  rw [MakeChecks.laidMetH_plain _ _ _ (by kernel_rfl)] at h
  exact tabIs_of_laid (L := Rows.chainLimitsRow.laid) (n := "internal/strconv.uint64pow10") (k := .u64) (vals := Lib.pow10Tab) (g := 1) (T := 152) (te := 31) (len := 20) h (List.mem_cons_of_mem _ (List.mem_cons_of_mem _ (List.mem_cons_self ..))) (by kernel_rfl) (by kernel_rfl) Tryd.underlying152 Tryd.underlying31 (by kernel_rfl) (by kernel_rfl)
theorem chainLimits_wok {W : World} (h : laidMetH Tryd.prog Rows.chainLimitsRow.laid W) : WOk W := ⟨chainLimits_tab h, tab64_lt (chainLimits_tab h), chainLimits_tabP h⟩
def ByteL (_ : World) (cs : List Value) (x : Nat) : Prop := cs = [.int .u8 (x : Int)] ∧ x < 256
theorem opens_byteL {H : Type} {enc : TypeId × Value → H} {w : World} : Opens enc Tryd.prog w 5 1 ByteL := fun n cs x h1 h2 => by
  obtain ⟨q, y, hc, hy⟩ := opens_int Tryd.underlying5 n cs x h1 h2
  have hb := bounds_u8 hy
  refine ⟨q, y.toNat, ?_, by omega⟩
  rw [hc, Int.toNat_of_nonneg hb.1]
theorem chainLimits_door (os : Os) (args : Array Value) : laidMetH Tryd.prog Rows.chainLimitsRow.laid ((World.doorLaid Tryd.prog 400 os).forCall (fun _ _ => 0) ⟨#[], args, []⟩).memory :=
  laidMetH_of_parts3 (fuel := 8) (laidMet_of_run' 8 (by kernel_rfl) (by kernel_rfl)) (by kernel_rfl) (by kernel_rfl)
set_option maxRecDepth 100000 in
theorem chainLimits_walk {H : Type} {enc : TypeId × Value → H} (W : World) (base : Nat) (args : Array Value) (ds : List (DataW H)) (p : List MemPlace) (hL : laidMetH Tryd.prog Rows.chainLimitsRow.laid W)
    (hval : ∀ (j : Nat) t v, Tryd.f9.params[j]? = some t → args[j]? = some v → Value.okWide Tryd.prog W .any base t v)
    (hA : DataW.TrodAll enc Tryd.prog W 0 (fun _ => true) true Tryd.f9.params.toList args.toList ds p)
    (hw : ∀ (j : Nat) t d, Tryd.f9.params.toList[j]? = some t → ds[j]? = some d → ∀ m ∈ d.weights Tryd.prog t, m ≤ reachBytes) :
    Calls Tryd.prog 9 args W fun e W' => e = .returned (.bool true) ∧ Below W.heap.size W W' := by
  rw [Tryd.params9] at hA hval hw
  obtain ⟨v0, d0, rfl, rfl, h0⟩ := trodAll_one hA
  obtain ⟨_, n, e1, -⟩ := opens_arg opens_byteL h0 (hw 0 5 d0 rfl rfl)
  have a0 := int_of_cells Tryd.underlying5 (hval 0 5 v0 rfl rfl) e1
  subst a0
  exact law_limits n W (chainLimits_wok hL)
set_option maxRecDepth 100000 in
theorem chainLimits_lifted (os : Os) (started : os.Started) (H : Type) (enc : TypeId × Value → H) :
    ReturnsInHanded {} Tryd.checked os 9 .any (fun w args => (Rows.chainLimitsSpec.pre enc Tryd.prog Tryd.f9 [] false w args ∧ laidMetH Tryd.prog Rows.chainLimitsRow.laid w) ∧ sizedMet enc Tryd.prog Tryd.f9 (OpenSpec.ofChange Rows.chainLimitsSpec) false w args)
      (Rows.chainLimitsSpec.post enc Tryd.prog Tryd.f9 false true false false) :=
  law_lifted_laid (C := Tryd.checked) own started (by kernel_rfl) Tryd.func9
    (ChangeSpec.witness_shaped (enc := enc) (C := Tryd.checked) (os := os) (X := fun w _ => laidMetH Tryd.prog Rows.chainLimitsRow.laid w) false (World.doorLaid Tryd.prog 400 os) #[.int .u8 0] 8 rfl (World.shaped_of_RefB (by kernel_rfl) (by kernel_rfl)) (by kernel_rfl) (by kernel_rfl) (by kernel_rfl) (chainLimits_door os _))
    rfl (by kernel_rfl) Tryd.underlying4 laidOut
    (fun t ht => by
      have ht' : t ∈ [5] := ht
      simp only [List.mem_cons, List.not_mem_nil, or_false] at ht'
      rcases ht' with rfl
      all_goals exact ⟨by kernel_rfl, of_decide_eq_true (by kernel_rfl)⟩)
    (fun ds hds => by
      have hds' : ds.length = 1 := hds
      match ds, hds' with
      | [_], _ => rfl)
    chainLimits_walk
theorem chainLimits_row : Rows.ChainLimitsSaid :=
  OpenClaim.holds_of_wide 9 Tryd.f9 rfl rfl rfl rfl rfl rfl rfl ⟨rfl, rfl, rfl, rfl, rfl⟩ rfl rfl rfl rfl rfl (by kernel_rfl) Tryd.func9 (by kernel_rfl)
    (of_decide_eq_true (by kernel_rfl)) (by unfold Func.isWrapper; first | (rw [if_pos (by decide +kernel)]; kernel_rfl) | (rw [if_neg (by decide +kernel)]; exact ⟨rfl, rfl⟩))
    (fun os started H enc _ => chainLimits_lifted os started H enc)
theorem chainLimits_holds : Rows.ChainLimitsCardSaid :=
  Claim7.holds_tied_plain_at .later [] [.data, .data, .data] true Rows.chainLimitsCard.stood.harness false
    chainLimits_row (fun _ h => by cases h) (by kernel_rfl) (fun _ h => by cases h) chainLimits_row_tie rfl ⟨rfl, rfl⟩ (by kernel_rfl) rfl
    (fun f fn hf hfn => by
      obtain rfl : f = 9 := Option.some.inj ((show Tryd.prog.funcNamed "bombarde/bombardelaw24.ChainLimits" = some 9 by kernel_rfl).symm.trans hf) |>.symm
      obtain rfl : fn = Tryd.f9 := (Option.some.inj (Tryd.func9.symm.trans hfn)).symm
      exact ⟨by kernel_rfl, fun j t ht => by
        rw [Tryd.params9] at ht
        have hm : t ∈ [5] := by simpa using Array.mem_of_getElem? ht
        have hall : ([5].all fun u => !Tryd.prog.wantsStandIn u) = true := by kernel_rfl
        exact (show Tryd.prog.wantsStandIn t = false by simpa using List.all_eq_true.1 hall t hm)⟩)
    (by kernel_rfl)
#print axioms chainLimits_holds
end Go.Proofs.YtahlfndlkfoikaaDoor
