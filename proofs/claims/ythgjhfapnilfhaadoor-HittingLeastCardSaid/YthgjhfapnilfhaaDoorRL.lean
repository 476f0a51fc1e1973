/- The statement HittingLeast: for every input the call returns true, and the arguments read as they did, where the listed variables lie as the program's text lays them. -/
import Derived.Test.YthgjhfapnilfhaaDoorLe
import Derived.Test.YthgjhfapnilfhaaDoorRow
namespace Go.Proofs.YthgjhfapnilfhaaDoor
open Go Go.RowKit Go.ChangeShapes Go.WideShapes
theorem hittingLeast_tab {W : World} (h : laidMetH Tryd.prog Rows.hittingLeastRow.laid W) : Tab32 W := by
  rw [MakeChecks.laidMetH_plain _ _ _ (by kernel_rfl)] at h
  exact tab_of_laid (L := Rows.hittingLeastRow.laid) (n := "math/bits.deBruijn32tab") (tab := Lib.deBruijn32tab) (g := 0) (T := 194) (te := 5) (len := 32) h (List.mem_cons_self ..) (by kernel_rfl) (by kernel_rfl) Tryd.underlying194 Tryd.underlying5 cells_u8
theorem hittingLeast_tabP {W : World} (h : laidMetH Tryd.prog Rows.hittingLeastRow.laid W) : TabP W := by
  rw [MakeChecks.laidMetH_plain _ _ _ (by kernel_rfl)] at h
  exact tabIs_of_laid (L := Rows.hittingLeastRow.laid) (n := "internal/strconv.uint64pow10") (k := .u64) (vals := Lib.pow10Tab) (g := 2) (T := 240) (te := 107) (len := 20) h (List.mem_cons_of_mem _ (List.mem_cons_of_mem _ (List.mem_cons_self ..))) (by kernel_rfl) (by kernel_rfl) Tryd.underlying240 Tryd.underlying107 (by kernel_rfl) (by kernel_rfl)
theorem hittingLeast_door (os : Os) (args : Array Value) : laidMetH Tryd.prog Rows.hittingLeastRow.laid ((World.doorLaid Tryd.prog 400 os).forCall (fun _ _ => 0) ⟨#[], args, []⟩).memory :=
  laidMetH_of_parts3 (fuel := 8) (laidMet_of_run' 8 (by kernel_rfl) (by kernel_rfl)) (by kernel_rfl) (by kernel_rfl)
set_option maxRecDepth 100000 in
theorem hittingLeast_walk {H : Type} {enc : TypeId × Value → H} (W : World) (base : Nat) (args : Array Value) (ds : List (DataW H)) (p : List MemPlace) (hL : laidMetH Tryd.prog Rows.hittingLeastRow.laid W)
    (hval : ∀ (j : Nat) t v, Tryd.f5.params[j]? = some t → args[j]? = some v → Value.okWide Tryd.prog W .any base t v)
    (hA : DataW.TrodAll enc Tryd.prog W 0 (fun _ => true) true Tryd.f5.params.toList args.toList ds p)
    (hw : ∀ (j : Nat) t d, Tryd.f5.params.toList[j]? = some t → ds[j]? = some d → ∀ m ∈ d.weights Tryd.prog t, m ≤ reachBytes) :
    Calls Tryd.prog 5 args W fun e W' => e = .returned (.bool true) ∧ Below W.heap.size W W' := by
  rw [Tryd.params5] at hA hval hw
  obtain ⟨v0, v1, d0, d1, p0, p1, rfl, rfl, rfl, h0, h1⟩ := trodAll_two hA
  obtain ⟨_, ⟨N, sets⟩, vs, e0, hN, hs⟩ := opens_arg opens_plan h0 (hw 0 24 d0 rfl rfl)
  obtain ⟨_, y, e1, _⟩ := opens_arg (opens_int Tryd.underlying3) h1 (hw 1 3 d1 rfl rfl)
  have a0 := agg_of_cells Tryd.underlying24 (hval 0 24 v0 rfl rfl) e0
  have a1 := int_of_cells Tryd.underlying3 (hval 1 3 v1 rfl rfl) e1
  subst a0; subst a1
  obtain ⟨q1, q2⟩ := bytes_all hs
  exact law_least N hN vs sets q2 y W _ (fun b h => h) q1 (hittingLeast_tab hL) (hittingLeast_tabP hL)
set_option maxRecDepth 100000 in
theorem hittingLeast_lifted (os : Os) (started : os.Started) (H : Type) (enc : TypeId × Value → H) :
    ReturnsInHanded {} Tryd.checked os 5 .any (fun w args => (Rows.hittingLeastSpec.pre enc Tryd.prog Tryd.f5 [] false w args ∧ laidMetH Tryd.prog Rows.hittingLeastRow.laid w) ∧ sizedMet enc Tryd.prog Tryd.f5 (OpenSpec.ofChange Rows.hittingLeastSpec) false w args)
      (Rows.hittingLeastSpec.post enc Tryd.prog Tryd.f5 false true false false) :=
  law_lifted_laid (C := Tryd.checked) own started (by kernel_rfl) Tryd.func5
    (ChangeSpec.witness_shaped (enc := enc) (C := Tryd.checked) (os := os) (X := fun w _ => laidMetH Tryd.prog Rows.hittingLeastRow.laid w) false (World.doorLaid Tryd.prog 400 os) #[.agg #[.int .u8 0, .slice none 0 0], .int .i64 0] 8 rfl (World.shaped_of_RefB (by kernel_rfl) (by kernel_rfl)) (by kernel_rfl) (by kernel_rfl) (by kernel_rfl) (hittingLeast_door os _))
    rfl (by kernel_rfl) Tryd.underlying4 laidOut
    (fun t ht => by
      have ht' : t ∈ [24, 3] := ht
      simp only [List.mem_cons, List.not_mem_nil, or_false] at ht'
      rcases ht' with rfl | rfl
      all_goals exact ⟨by kernel_rfl, of_decide_eq_true (by kernel_rfl)⟩)
    (fun ds hds => by
      have hds' : ds.length = 2 := hds
      match ds, hds' with
      | [_, _], _ => rfl)
    hittingLeast_walk
theorem hittingLeast_row : Rows.HittingLeastSaid :=
  OpenClaim.holds_of_wide 5 Tryd.f5 rfl rfl rfl rfl rfl rfl rfl ⟨rfl, rfl, rfl, rfl, rfl⟩ rfl rfl rfl rfl rfl (by kernel_rfl) Tryd.func5 (by kernel_rfl)
    (of_decide_eq_true (by kernel_rfl)) (by unfold Func.isWrapper; first | (rw [if_pos (by decide +kernel)]; kernel_rfl) | (rw [if_neg (by decide +kernel)]; exact ⟨rfl, rfl⟩))
    (fun os started H enc _ => hittingLeast_lifted os started H enc)
theorem hittingLeast_holds : Rows.HittingLeastCardSaid :=
  Claim7.holds_tied_plain_at .later [] [.data, .data, .data] true Rows.hittingLeastCard.stood.harness true
    hittingLeast_row (fun _ h => by cases h) (by kernel_rfl) (fun _ h => by cases h) hittingLeast_row_tie rfl ⟨rfl, rfl⟩ (by kernel_rfl) rfl
    (fun f fn hf hfn => by
      obtain rfl : f = 5 := Option.some.inj ((show Tryd.prog.funcNamed "bombarde/bombardelaw09.HittingLeast" = some 5 by kernel_rfl).symm.trans hf) |>.symm
      obtain rfl : fn = Tryd.f5 := (Option.some.inj (Tryd.func5.symm.trans hfn)).symm
      exact ⟨by kernel_rfl, fun j t ht => by
        rw [Tryd.params5] at ht
        have hm : t ∈ [24, 3] := by simpa using Array.mem_of_getElem? ht
        have hall : ([24, 3].all fun u => !Tryd.prog.wantsStandIn u) = true := by kernel_rfl
        exact (show Tryd.prog.wantsStandIn t = false by simpa using List.all_eq_true.1 hall t hm)⟩)
    (by kernel_rfl)
#print axioms hittingLeast_holds
end Go.Proofs.YthgjhfapnilfhaaDoor
