/- The statement HittingChecks: for every input the call returns true, and the arguments read as they did, where the listed variables lie as the program's text lays them. -/
import Derived.Test.YtiochodepgldpaaDoorCl
import Derived.Test.YtiochodepgldpaaDoorRow
namespace Go.Proofs.YtiochodepgldpaaDoor
open Go Go.RowKit Go.ChangeShapes Go.WideShapes
theorem hittingChecks_tab {W : World} (h : laidMetH Tryd.prog Rows.hittingChecksRow.laid W) : Tab32 W := by
  rw [MakeChecks.laidMetH_plain _ _ _ (by kernel_rfl)] at h
  exact tab_of_laid (L := Rows.hittingChecksRow.laid) (n := "math/bits.deBruijn32tab") (tab := Lib.deBruijn32tab) (g := 0) (T := 163) (te := 5) (len := 32) h (List.mem_cons_self ..) (by kernel_rfl) (by kernel_rfl) Tryd.underlying163 Tryd.underlying5 cells_u8
theorem hittingChecks_door (os : Os) (args : Array Value) : laidMetH Tryd.prog Rows.hittingChecksRow.laid ((World.doorLaid Tryd.prog 400 os).forCall (fun _ _ => 0) ⟨#[], args, []⟩).memory :=
  laidMetH_of_parts3 (fuel := 8) (laidMet_of_run' 8 (by kernel_rfl) (by kernel_rfl)) (by kernel_rfl) (by kernel_rfl)
set_option maxRecDepth 100000 in
theorem hittingChecks_walk {H : Type} {enc : TypeId × Value → H} (W : World) (base : Nat) (args : Array Value) (ds : List (DataW H)) (p : List MemPlace) (hL : laidMetH Tryd.prog Rows.hittingChecksRow.laid W)
    (hval : ∀ (j : Nat) t v, Tryd.f8.params[j]? = some t → args[j]? = some v → Value.okWide Tryd.prog W .any base t v)
    (hA : DataW.TrodAll enc Tryd.prog W 0 (fun _ => true) true Tryd.f8.params.toList args.toList ds p)
    (hw : ∀ (j : Nat) t d, Tryd.f8.params.toList[j]? = some t → ds[j]? = some d → ∀ m ∈ d.weights Tryd.prog t, m ≤ reachBytes) :
    Calls Tryd.prog 8 args W fun e W' => e = .returned (.bool true) ∧ Below W.heap.size W W' := by
  rw [Tryd.params8] at hA hval hw
  obtain ⟨v0, d0, rfl, rfl, h0⟩ := trodAll_one hA
  obtain ⟨_, ⟨n, ls⟩, vs, e0, hs⟩ := opens_arg opens_problem h0 (hw 0 28 d0 rfl rfl)
  have a0 := agg_of_cells Tryd.underlying28 (hval 0 28 v0 rfl rfl) e0
  subst a0
  exact law_checks n vs ls W _ (fun b h => h) hs (hittingChecks_tab hL)
set_option maxRecDepth 100000 in
theorem hittingChecks_lifted (os : Os) (started : os.Started) (H : Type) (enc : TypeId × Value → H) :
    ReturnsInHanded {} Tryd.checked os 8 .any (fun w args => (Rows.hittingChecksSpec.pre enc Tryd.prog Tryd.f8 [] false w args ∧ laidMetH Tryd.prog Rows.hittingChecksRow.laid w) ∧ sizedMet enc Tryd.prog Tryd.f8 (OpenSpec.ofChange Rows.hittingChecksSpec) false w args)
      (Rows.hittingChecksSpec.post enc Tryd.prog Tryd.f8 false true false false) :=
  law_lifted_laid (C := Tryd.checked) own started (by kernel_rfl) Tryd.func8
    (ChangeSpec.witness_shaped (enc := enc) (C := Tryd.checked) (os := os) (X := fun w _ => laidMetH Tryd.prog Rows.hittingChecksRow.laid w) false (World.doorLaid Tryd.prog 400 os) #[.agg #[.int .i64 0, .slice none 0 0]] 8 rfl (World.shaped_of_RefB (by kernel_rfl) (by kernel_rfl)) (by kernel_rfl) (by kernel_rfl) (by kernel_rfl) (hittingChecks_door os _))
    rfl (by kernel_rfl) Tryd.underlying4 laidOut
    (fun t ht => by
      have ht' : t ∈ [28] := ht
      simp only [List.mem_cons, List.not_mem_nil, or_false] at ht'
      rcases ht' with rfl
      all_goals exact ⟨by kernel_rfl, of_decide_eq_true (by kernel_rfl)⟩)
    (fun ds hds => by
      have hds' : ds.length = 1 := hds
      match ds, hds' with
      | [_], _ => rfl)
    hittingChecks_walk
theorem hittingChecks_row : Rows.HittingChecksSaid :=
  OpenClaim.holds_of_wide 8 Tryd.f8 rfl rfl rfl rfl rfl rfl rfl ⟨rfl, rfl, rfl, rfl, rfl⟩ rfl rfl rfl rfl rfl (by kernel_rfl) Tryd.func8 (by kernel_rfl)
    (of_decide_eq_true (by kernel_rfl)) (by unfold Func.isWrapper; first | (rw [if_pos (by decide +kernel)]; kernel_rfl) | (rw [if_neg (by decide +kernel)]; exact ⟨rfl, rfl⟩))
    (fun os started H enc _ => hittingChecks_lifted os started H enc)
theorem hittingChecks_holds : Rows.HittingChecksCardSaid :=
  Claim7.holds_tied_plain_at .later [] [.data, .data, .data] true Rows.hittingChecksCard.stood.harness true
    hittingChecks_row (fun _ h => by cases h) (by kernel_rfl) (fun _ h => by cases h) hittingChecks_row_tie rfl ⟨rfl, rfl⟩ (by kernel_rfl) rfl
    (fun f fn hf hfn => by
      obtain rfl : f = 8 := Option.some.inj ((show Tryd.prog.funcNamed "bombarde/bombardelaw09.HittingChecks" = some 8 by kernel_rfl).symm.trans hf) |>.symm
      obtain rfl : fn = Tryd.f8 := (Option.some.inj (Tryd.func8.symm.trans hfn)).symm
      exact ⟨by kernel_rfl, fun j t ht => by
        rw [Tryd.params8] at ht
        have hm : t ∈ [28] := by simpa using Array.mem_of_getElem? ht
        have hall : ([28].all fun u => !Tryd.prog.wantsStandIn u) = true := by kernel_rfl
        exact (show Tryd.prog.wantsStandIn t = false by simpa using List.all_eq_true.1 hall t hm)⟩)
    (by kernel_rfl)
#print axioms hittingChecks_holds
end Go.Proofs.YtiochodepgldpaaDoor
