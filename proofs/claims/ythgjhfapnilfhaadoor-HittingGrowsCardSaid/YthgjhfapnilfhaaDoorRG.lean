/- The statement HittingGrows: for every input the call returns true, and the arguments read as they did, where the listed variables lie as the program's text lays them. -/
import Derived.Test.YthgjhfapnilfhaaDoorGc
import Derived.Test.YthgjhfapnilfhaaDoorRow
namespace Go.Proofs.YthgjhfapnilfhaaDoor
open Go Go.RowKit Go.ChangeShapes Go.WideShapes
theorem hittingGrows_tab {W : World} (h : laidMetH Tryd.prog Rows.hittingGrowsRow.laid W) : Tab32 W := by
  rw [MakeChecks.laidMetH_plain _ _ _ (by kernel_rfl)] at h
  exact tab_of_laid (L := Rows.hittingGrowsRow.laid) (n := "math/bits.deBruijn32tab") (tab := Lib.deBruijn32tab) (g := 0) (T := 194) (te := 5) (len := 32) h (List.mem_cons_self ..) (by kernel_rfl) (by kernel_rfl) Tryd.underlying194 Tryd.underlying5 cells_u8
theorem hittingGrows_tabP {W : World} (h : laidMetH Tryd.prog Rows.hittingGrowsRow.laid W) : TabP W := by
  rw [MakeChecks.laidMetH_plain _ _ _ (by kernel_rfl)] at h
  exact tabIs_of_laid (L := Rows.hittingGrowsRow.laid) (n := "internal/strconv.uint64pow10") (k := .u64) (vals := Lib.pow10Tab) (g := 2) (T := 240) (te := 107) (len := 20) h (List.mem_cons_of_mem _ (List.mem_cons_of_mem _ (List.mem_cons_self ..))) (by kernel_rfl) (by kernel_rfl) Tryd.underlying240 Tryd.underlying107 (by kernel_rfl) (by kernel_rfl)
theorem hittingGrows_door (os : Os) (args : Array Value) : laidMetH Tryd.prog Rows.hittingGrowsRow.laid ((World.doorLaid Tryd.prog 400 os).forCall (fun _ _ => 0) ⟨#[], args, []⟩).memory :=
  laidMetH_of_parts3 (fuel := 8) (laidMet_of_run' 8 (by kernel_rfl) (by kernel_rfl)) (by kernel_rfl) (by kernel_rfl)
set_option maxRecDepth 100000 in
theorem hittingGrows_walk {H : Type} {enc : TypeId × Value → H} (W : World) (base : Nat) (args : Array Value) (ds : List (DataW H)) (p : List MemPlace) (hL : laidMetH Tryd.prog Rows.hittingGrowsRow.laid W)
    (hval : ∀ (j : Nat) t v, Tryd.f6.params[j]? = some t → args[j]? = some v → Value.okWide Tryd.prog W .any base t v)
    (hA : DataW.TrodAll enc Tryd.prog W 0 (fun _ => true) true Tryd.f6.params.toList args.toList ds p)
    (hw : ∀ (j : Nat) t d, Tryd.f6.params.toList[j]? = some t → ds[j]? = some d → ∀ m ∈ d.weights Tryd.prog t, m ≤ reachBytes) :
    Calls Tryd.prog 6 args W fun e W' => e = .returned (.bool true) ∧ Below W.heap.size W W' := by
  rw [Tryd.params6] at hA hval hw
  obtain ⟨v0, v1, d0, d1, p0, p1, rfl, rfl, rfl, h0, h1⟩ := trodAll_two hA
  obtain ⟨_, ⟨N, sets⟩, vs, e0, hN, hs⟩ := opens_arg opens_plan h0 (hw 0 24 d0 rfl rfl)
  obtain ⟨_, y, e1, hy⟩ := opens_arg (opens_int Tryd.underlying5) h1 (hw 1 5 d1 rfl rfl)
  have a0 := agg_of_cells Tryd.underlying24 (hval 0 24 v0 rfl rfl) e0
  have a1 := int_of_cells Tryd.underlying5 (hval 1 5 v1 rfl rfl) e1
  subst a0; subst a1
  obtain ⟨q1, q2⟩ := bytes_all hs
  have hb := bounds_u8 hy
  obtain ⟨m, rfl⟩ : ∃ m : Nat, y = m := ⟨y.toNat, by omega⟩
  exact law_grows N hN vs sets q2 m (by omega) W _ (fun b h => h) q1 (hittingGrows_tab hL) (hittingGrows_tabP hL)
set_option maxRecDepth 100000 in
theorem hittingGrows_lifted (os : Os) (started : os.Started) (H : Type) (enc : TypeId × Value → H) :
    ReturnsInHanded {} Tryd.checked os 6 .any (fun w args => (Rows.hittingGrowsSpec.pre enc Tryd.prog Tryd.f6 [] false w args ∧ laidMetH Tryd.prog Rows.hittingGrowsRow.laid w) ∧ sizedMet enc Tryd.prog Tryd.f6 (OpenSpec.ofChange Rows.hittingGrowsSpec) false w args)
      (Rows.hittingGrowsSpec.post enc Tryd.prog Tryd.f6 false true false false) :=
  law_lifted_laid (C := Tryd.checked) own started (by kernel_rfl) Tryd.func6
    (ChangeSpec.witness_shaped (enc := enc) (C := Tryd.checked) (os := os) (X := fun w _ => laidMetH Tryd.prog Rows.hittingGrowsRow.laid w) false (World.doorLaid Tryd.prog 400 os) #[.agg #[.int .u8 0, .slice none 0 0], .int .u8 0] 8 rfl (World.shaped_of_RefB (by kernel_rfl) (by kernel_rfl)) (by kernel_rfl) (by kernel_rfl) (by kernel_rfl) (hittingGrows_door os _))
    rfl (by kernel_rfl) Tryd.underlying4 laidOut
    (fun t ht => by
      have ht' : t ∈ [24, 5] := ht
      simp only [List.mem_cons, List.not_mem_nil, or_false] at ht'
      rcases ht' with rfl | rfl
      all_goals exact ⟨by kernel_rfl, of_decide_eq_true (by kernel_rfl)⟩)
    (fun ds hds => by
      have hds' : ds.length = 2 := hds
      match ds, hds' with
      | [_, _], _ => rfl)
    hittingGrows_walk
theorem hittingGrows_row : Rows.HittingGrowsSaid :=
  OpenClaim.holds_of_wide 6 Tryd.f6 rfl rfl rfl rfl rfl rfl rfl ⟨rfl, rfl, rfl, rfl, rfl⟩ rfl rfl rfl rfl rfl (by kernel_rfl) Tryd.func6 (by kernel_rfl)
    (of_decide_eq_true (by kernel_rfl)) (by unfold Func.isWrapper; first | (rw [if_pos (by decide +kernel)]; kernel_rfl) | (rw [if_neg (by decide +kernel)]; exact ⟨rfl, rfl⟩))
    (fun os started H enc _ => hittingGrows_lifted os started H enc)
theorem hittingGrows_holds : Rows.HittingGrowsCardSaid :=
  Claim7.holds_tied_plain_at .later [] [.data, .data, .data, .sentinel, .sentinel] true Rows.hittingGrowsCard.stood.harness true
    hittingGrows_row (fun _ h => by cases h) (by kernel_rfl) (fun _ h => by cases h) hittingGrows_row_tie rfl ⟨rfl, rfl⟩ (by kernel_rfl) rfl
    (fun f fn hf hfn => by
      obtain rfl : f = 6 := Option.some.inj ((show Tryd.prog.funcNamed "bombarde/bombardelaw09.HittingGrows" = some 6 by kernel_rfl).symm.trans hf) |>.symm
      obtain rfl : fn = Tryd.f6 := (Option.some.inj (Tryd.func6.symm.trans hfn)).symm
      exact ⟨by kernel_rfl, fun j t ht => by
        rw [Tryd.params6] at ht
        have hm : t ∈ [24, 5] := by simpa using Array.mem_of_getElem? ht
        have hall : ([24, 5].all fun u => !Tryd.prog.wantsStandIn u) = true := by kernel_rfl
        exact (show Tryd.prog.wantsStandIn t = false by simpa using List.all_eq_true.1 hall t hm)⟩)
    (by kernel_rfl)
#print axioms hittingGrows_holds
end Go.Proofs.YthgjhfapnilfhaaDoor
