/- The statement CouplerMatrices: for every input the call returns true, and the arguments read as they did, where the listed variables lie as the program's text lays them. -/
import Derived.Test.YtnkjhppjjklgfaaDoorVh
import Derived.Test.YtnkjhppjjklgfaaDoorKR0
namespace Go.Proofs.YtnkjhppjjklgfaaDoor
open Go Go.RowKit Go.ChangeShapes Go.WideShapes
theorem couplerMatrices_tab {W : World} (h : laidMetH Tryd.prog Rows.couplerMatricesRow.laid W) : Tab64 W := by
  rw [MakeChecks.laidMetH_plain _ _ _ (by kernel_rfl)] at h
  exact tab_of_laid (L := Rows.couplerMatricesRow.laid) (n := "math/bits.deBruijn64tab") (tab := Lib.deBruijn64tab) (g := 0) (T := 132) (te := 5) (len := 64) h (List.mem_cons_self ..) (by kernel_rfl) (by kernel_rfl) Tryd.underlying132 Tryd.underlying5 cells_u8
theorem couplerMatrices_door (os : Os) (args : Array Value) : laidMetH Tryd.prog Rows.couplerMatricesRow.laid ((World.doorLaid Tryd.prog 400 os).forCall (fun _ _ => 0) ⟨#[], args, []⟩).memory :=
  laidMetH_of_parts3 (fuel := 8) (laidMet_of_run' 8 (by kernel_rfl) (by kernel_rfl)) (by kernel_rfl) (by kernel_rfl)
set_option maxRecDepth 100000 in
theorem couplerMatrices_walk {H : Type} {enc : TypeId × Value → H} (W : World) (base : Nat) (args : Array Value) (ds : List (DataW H)) (p : List MemPlace) (hL : laidMetH Tryd.prog Rows.couplerMatricesRow.laid W)
    (hval : ∀ (j : Nat) t v, Tryd.f5.params[j]? = some t → args[j]? = some v → Value.okWide Tryd.prog W .any base t v)
    (hA : DataW.TrodAll enc Tryd.prog W 0 (fun _ => true) true Tryd.f5.params.toList args.toList ds p)
    (hw : ∀ (j : Nat) t d, Tryd.f5.params.toList[j]? = some t → ds[j]? = some d → ∀ m ∈ d.weights Tryd.prog t, m ≤ reachBytes) :
    Calls Tryd.prog 5 args W fun e W' => e = .returned (.bool true) ∧ Below W.heap.size W W' := by
  rw [Tryd.params5] at hA hval hw
  obtain ⟨v0, d0, rfl, rfl, h0⟩ := trodAll_one hA
  obtain ⟨_, pl, vl, hv, hpl, hs⟩ := opens_arg opens_plan h0 (hw 0 26 d0 rfl rfl)
  have a0 := agg_of_cells Tryd.underlying26 (hval 0 26 v0 rfl rfl) hv
  rw [Array.toArray_toList] at a0
  subst a0
  exact law_matrices pl hpl vl W _ (fun b h => h) hs (couplerMatrices_tab hL) (tab64_lt (couplerMatrices_tab hL))
set_option maxRecDepth 100000 in
theorem couplerMatrices_lifted (os : Os) (started : os.Started) (H : Type) (enc : TypeId × Value → H) :
    ReturnsInHanded {} Tryd.checked os 5 .any (fun w args => (Rows.couplerMatricesSpec.pre enc Tryd.prog Tryd.f5 [] false w args ∧ laidMetH Tryd.prog Rows.couplerMatricesRow.laid w) ∧ sizedMet enc Tryd.prog Tryd.f5 (OpenSpec.ofChange Rows.couplerMatricesSpec) false w args)
      (Rows.couplerMatricesSpec.post enc Tryd.prog Tryd.f5 false true false false) :=
  law_lifted_laid (C := Tryd.checked) own started (by kernel_rfl) Tryd.func5
    (ChangeSpec.witness_shaped (enc := enc) (C := Tryd.checked) (os := os) (X := fun w _ => laidMetH Tryd.prog Rows.couplerMatricesRow.laid w) false (World.doorLaid Tryd.prog 400 os) #[.agg #[.int .u8 0, .int .u8 0, .int .u8 0, .int .u8 0, .int .u8 0, .int .u8 0, .int .u8 0, .slice none 0 0, .int .u8 0]] 8 rfl (World.shaped_of_RefB (by kernel_rfl) (by kernel_rfl)) (by kernel_rfl) (by kernel_rfl) (by kernel_rfl) (couplerMatrices_door os _))
    rfl (by kernel_rfl) Tryd.underlying4 laidOut
    (fun t ht => by
      have ht' : t ∈ [26] := ht
      simp only [List.mem_cons, List.not_mem_nil, or_false] at ht'
      rcases ht' with rfl
      all_goals exact ⟨by kernel_rfl, of_decide_eq_true (by kernel_rfl)⟩)
    (fun ds hds => by
      have hds' : ds.length = 1 := hds
      match ds, hds' with
      | [_], _ => rfl)
    couplerMatrices_walk
theorem couplerMatrices_row : Rows.CouplerMatricesSaid :=
  OpenClaim.holds_of_wide 5 Tryd.f5 rfl rfl rfl rfl rfl rfl rfl ⟨rfl, rfl, rfl, rfl, rfl⟩ rfl rfl rfl rfl rfl (by kernel_rfl) Tryd.func5 (by kernel_rfl)
    (of_decide_eq_true (by kernel_rfl)) (by unfold Func.isWrapper; first | (rw [if_pos (by decide +kernel)]; kernel_rfl) | (rw [if_neg (by decide +kernel)]; exact ⟨rfl, rfl⟩))
    (fun os started H enc _ => couplerMatrices_lifted os started H enc)
theorem couplerMatrices_holds : Rows.CouplerMatricesCardSaid :=
  Claim7.holds_tied_plain_at .later [] [.data] true Rows.couplerMatricesCard.stood.harness false
    couplerMatrices_row (fun _ h => by cases h) (by kernel_rfl) (fun _ h => by cases h) couplerMatrices_row_tie rfl ⟨rfl, rfl⟩ (by kernel_rfl) rfl
    (fun f fn hf hfn => by
      obtain rfl : f = 5 := Option.some.inj ((show Tryd.prog.funcNamed "bombarde/bombardelaw16.CouplerMatrices" = some 5 by kernel_rfl).symm.trans hf) |>.symm
      obtain rfl : fn = Tryd.f5 := (Option.some.inj (Tryd.func5.symm.trans hfn)).symm
      exact ⟨by kernel_rfl, fun j t ht => by
        rw [Tryd.params5] at ht
        have hm : t ∈ [26] := by simpa using Array.mem_of_getElem? ht
        have hall : ([26].all fun u => !Tryd.prog.wantsStandIn u) = true := by kernel_rfl
        exact (show Tryd.prog.wantsStandIn t = false by simpa using List.all_eq_true.1 hall t hm)⟩)
    (by kernel_rfl)
#print axioms couplerMatrices_holds
end Go.Proofs.YtnkjhppjjklgfaaDoor
