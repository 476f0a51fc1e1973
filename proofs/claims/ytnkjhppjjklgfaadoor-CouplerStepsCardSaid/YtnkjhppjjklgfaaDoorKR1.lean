/- The statement CouplerSteps: for every input the call returns true, and the arguments read as they did, where the listed variables lie as the program's text lays them. -/
import Derived.Test.YtnkjhppjjklgfaaDoorKC
import Derived.Test.YtnkjhppjjklgfaaDoorKR0
namespace Go.Proofs.YtnkjhppjjklgfaaDoor
open Go Go.RowKit Go.ChangeShapes Go.WideShapes
theorem couplerSteps_tab {W : World} (h : laidMetH Tryd.prog Rows.couplerStepsRow.laid W) : Tab64 W := by
  rw [MakeChecks.laidMetH_plain _ _ _ (by kernel_rfl)] at h
  exact tab_of_laid (L := Rows.couplerStepsRow.laid) (n := "math/bits.deBruijn64tab") (tab := Lib.deBruijn64tab) (g := 0) (T := 132) (te := 5) (len := 64) h (List.mem_cons_self ..) (by kernel_rfl) (by kernel_rfl) Tryd.underlying132 Tryd.underlying5 cells_u8
theorem couplerSteps_door (os : Os) (args : Array Value) : laidMetH Tryd.prog Rows.couplerStepsRow.laid ((World.doorLaid Tryd.prog 400 os).forCall (fun _ _ => 0) ⟨#[], args, []⟩).memory :=
  laidMetH_of_parts3 (fuel := 8) (laidMet_of_run' 8 (by kernel_rfl) (by kernel_rfl)) (by kernel_rfl) (by kernel_rfl)
set_option maxRecDepth 100000 in
theorem couplerSteps_walk {H : Type} {enc : TypeId × Value → H} (W : World) (base : Nat) (args : Array Value) (ds : List (DataW H)) (p : List MemPlace) (hL : laidMetH Tryd.prog Rows.couplerStepsRow.laid W)
    (hval : ∀ (j : Nat) t v, Tryd.f4.params[j]? = some t → args[j]? = some v → Value.okWide Tryd.prog W .any base t v)
    (hA : DataW.TrodAll enc Tryd.prog W 0 (fun _ => true) true Tryd.f4.params.toList args.toList ds p)
    (hw : ∀ (j : Nat) t d, Tryd.f4.params.toList[j]? = some t → ds[j]? = some d → ∀ m ∈ d.weights Tryd.prog t, m ≤ reachBytes) :
    Calls Tryd.prog 4 args W fun e W' => e = .returned (.bool true) ∧ Below W.heap.size W W' := by
  rw [Tryd.params4] at hA hval hw
  obtain ⟨v0, v1, v2, d0, d1, d2, p0, p1, p2, rfl, rfl, rfl, h0, h1, h2⟩ := trodAll_three hA
  obtain ⟨_, pl, vl, hv, hpl, hs⟩ := opens_arg opens_plan h0 (hw 0 26 d0 rfl rfl)
  obtain ⟨_, y, e1, _⟩ := opens_arg (opens_int Tryd.underlying3) h1 (hw 1 3 d1 rfl rfl)
  obtain ⟨_, ⟨c1, c2⟩, e2, _⟩ := opens_arg opens_ct h2 (hw 2 28 d2 rfl rfl)
  have a0 := agg_of_cells Tryd.underlying26 (hval 0 26 v0 rfl rfl) hv
  rw [Array.toArray_toList] at a0
  have a1 := int_of_cells Tryd.underlying3 (hval 1 3 v1 rfl rfl) e1
  have a2 := agg_of_cells Tryd.underlying28 (hval 2 28 v2 rfl rfl) e2
  subst a0; subst a1; subst a2
  exact law_steps pl hpl vl y (c1, c2) W _ (fun b h => h) hs (couplerSteps_tab hL) (tab64_lt (couplerSteps_tab hL))
set_option maxRecDepth 100000 in
theorem couplerSteps_lifted (os : Os) (started : os.Started) (H : Type) (enc : TypeId × Value → H) :
    ReturnsInHanded {} Tryd.checked os 4 .any (fun w args => (Rows.couplerStepsSpec.pre enc Tryd.prog Tryd.f4 [] false w args ∧ laidMetH Tryd.prog Rows.couplerStepsRow.laid w) ∧ sizedMet enc Tryd.prog Tryd.f4 (OpenSpec.ofChange Rows.couplerStepsSpec) false w args)
      (Rows.couplerStepsSpec.post enc Tryd.prog Tryd.f4 false true false false) :=
  law_lifted_laid (C := Tryd.checked) own started (by kernel_rfl) Tryd.func4
    (ChangeSpec.witness_shaped (enc := enc) (C := Tryd.checked) (os := os) (X := fun w _ => laidMetH Tryd.prog Rows.couplerStepsRow.laid w) false (World.doorLaid Tryd.prog 400 os) #[.agg #[.int .u8 0, .int .u8 0, .int .u8 0, .int .u8 0, .int .u8 0, .int .u8 0, .int .u8 0, .slice none 0 0, .int .u8 0], .int .i64 0, .agg #[.int .i64 0, .int .i64 0]] 8 rfl (World.shaped_of_RefB (by kernel_rfl) (by kernel_rfl)) (by kernel_rfl) (by kernel_rfl) (by kernel_rfl) (couplerSteps_door os _))
    rfl (by kernel_rfl) Tryd.underlying4 laidOut
    (fun t ht => by
      have ht' : t ∈ [26, 3, 28] := ht
      simp only [List.mem_cons, List.not_mem_nil, or_false] at ht'
      rcases ht' with rfl | rfl | rfl
      all_goals exact ⟨by kernel_rfl, of_decide_eq_true (by kernel_rfl)⟩)
    (fun ds hds => by
      have hds' : ds.length = 3 := hds
      match ds, hds' with
      | [_, _, _], _ => rfl)
    couplerSteps_walk
theorem couplerSteps_row : Rows.CouplerStepsSaid :=
  OpenClaim.holds_of_wide 4 Tryd.f4 rfl rfl rfl rfl rfl rfl rfl ⟨rfl, rfl, rfl, rfl, rfl⟩ rfl rfl rfl rfl rfl (by kernel_rfl) Tryd.func4 (by kernel_rfl)
    (of_decide_eq_true (by kernel_rfl)) (by unfold Func.isWrapper; first | (rw [if_pos (by decide +kernel)]; kernel_rfl) | (rw [if_neg (by decide +kernel)]; exact ⟨rfl, rfl⟩))
    (fun os started H enc _ => couplerSteps_lifted os started H enc)
theorem couplerSteps_holds : Rows.CouplerStepsCardSaid :=
  Claim7.holds_tied_plain_at .later [] [.data] true Rows.couplerStepsCard.stood.harness false
    couplerSteps_row (fun _ h => by cases h) (by kernel_rfl) (fun _ h => by cases h) couplerSteps_row_tie rfl ⟨rfl, rfl⟩ (by kernel_rfl) rfl
    (fun f fn hf hfn => by
      obtain rfl : f = 4 := Option.some.inj ((show Tryd.prog.funcNamed "bombarde/bombardelaw16.CouplerSteps" = some 4 by kernel_rfl).symm.trans hf) |>.symm
      obtain rfl : fn = Tryd.f4 := (Option.some.inj (Tryd.func4.symm.trans hfn)).symm
      exact ⟨by kernel_rfl, fun j t ht => by
        rw [Tryd.params4] at ht
        have hm : t ∈ [26, 3, 28] := by simpa using Array.mem_of_getElem? ht
        have hall : ([26, 3, 28].all fun u => !Tryd.prog.wantsStandIn u) = true := by kernel_rfl
        exact (show Tryd.prog.wantsStandIn t = false by simpa using List.all_eq_true.1 hall t hm)⟩)
    (by kernel_rfl)
#print axioms couplerSteps_holds
end Go.Proofs.YtnkjhppjjklgfaaDoor
