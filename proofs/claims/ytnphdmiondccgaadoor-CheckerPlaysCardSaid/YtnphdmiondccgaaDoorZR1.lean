/- The statement CheckerPlays: for every input the call returns true, and the arguments read as they did, where the listed variables lie as the program's text lays them. -/
import Derived.Test.YtnphdmiondccgaaDoorZR
import Derived.Test.YtnphdmiondccgaaDoorZR
namespace Go.Proofs.YtnphdmiondccgaaDoor
open Go Go.RowKit Go.ChangeShapes Go.WideShapes
theorem checkerPlays_tab {W : World} (h : laidMetH Tryd.prog Rows.checkerPlaysRow.laid W) : Tab64 W := by
  rw [MakeChecks.laidMetH_plain _ _ _ (by kernel_rfl)] at h
  exact tab_of_laid (L := Rows.checkerPlaysRow.laid) (n := "math/bits.deBruijn64tab") (tab := Lib.deBruijn64tab) (g := 0) (T := 146) (te := 5) (len := 64) h (List.mem_cons_self ..) (by kernel_rfl) (by kernel_rfl) Tryd.underlying146 Tryd.underlying5 cells_u8
theorem checkerPlays_door (os : Os) (args : Array Value) : laidMetH Tryd.prog Rows.checkerPlaysRow.laid ((World.doorLaid Tryd.prog 400 os).forCall (fun _ _ => 0) ⟨#[], args, []⟩).memory :=
  laidMetH_of_parts3 (fuel := 8) (laidMet_of_run' 8 (by kernel_rfl) (by kernel_rfl)) (by kernel_rfl) (by kernel_rfl)
set_option maxRecDepth 100000 in
theorem checkerPlays_walk {H : Type} {enc : TypeId × Value → H} (W : World) (base : Nat) (args : Array Value) (ds : List (DataW H)) (p : List MemPlace) (hL : laidMetH Tryd.prog Rows.checkerPlaysRow.laid W)
    (hval : ∀ (j : Nat) t v, Tryd.f4.params[j]? = some t → args[j]? = some v → Value.okWide Tryd.prog W .any base t v)
    (hA : DataW.TrodAll enc Tryd.prog W 0 (fun _ => true) true Tryd.f4.params.toList args.toList ds p)
    (hw : ∀ (j : Nat) t d, Tryd.f4.params.toList[j]? = some t → ds[j]? = some d → ∀ m ∈ d.weights Tryd.prog t, m ≤ reachBytes) :
    Calls Tryd.prog 4 args W fun e W' => e = .returned (.bool true) ∧ Below W.heap.size W W' := by
  rw [Tryd.params4] at hA hval hw
  obtain ⟨v0, v1, v2, d0, d1, d2, p0, p1, p2, rfl, rfl, rfl, h0, h1, h2⟩ := trodAll_three hA
  obtain ⟨_, ⟨hn, hs, fn, fs⟩, hv⟩ := opens_arg opens_pl h0 (hw 0 43 d0 rfl rfl)
  obtain ⟨_, ds, vd, e1, hd⟩ := opens_arg opens_dvs h1 (hw 1 44 d1 rfl rfl)
  obtain ⟨_, ks, vk, e2, hk⟩ := opens_arg opens_nts h2 (hw 2 45 d2 rfl rfl)
  obtain ⟨hk1, hk2⟩ := nts_all hk
  have a0 := agg_of_cells Tryd.underlying43 (hval 0 43 v0 rfl rfl) hv
  have a1 := slice_of_cells Tryd.underlying44 (hval 1 44 v1 rfl rfl) e1
  have a2 := slice_of_cells Tryd.underlying45 (hval 2 45 v2 rfl rfl) e2
  subst a0; subst a1; subst a2
  exact law_plays hn hs fn fs ds ks hk2 _ _ _ W (fun b h => h) hd hk1 (checkerPlays_tab hL) (tab64_lt (checkerPlays_tab hL))
set_option maxRecDepth 100000 in
theorem checkerPlays_lifted (os : Os) (started : os.Started) (H : Type) (enc : TypeId × Value → H) :
    ReturnsInHanded {} Tryd.checked os 4 .any (fun w args => (Rows.checkerPlaysSpec.pre enc Tryd.prog Tryd.f4 [] false w args ∧ laidMetH Tryd.prog Rows.checkerPlaysRow.laid w) ∧ sizedMet enc Tryd.prog Tryd.f4 (OpenSpec.ofChange Rows.checkerPlaysSpec) false w args)
      (Rows.checkerPlaysSpec.post enc Tryd.prog Tryd.f4 false true false false) :=
  law_lifted_laid (C := Tryd.checked) own started (by kernel_rfl) Tryd.func4
    (ChangeSpec.witness_shaped (enc := enc) (C := Tryd.checked) (os := os) (X := fun w _ => laidMetH Tryd.prog Rows.checkerPlaysRow.laid w) false (World.doorLaid Tryd.prog 400 os) #[.agg #[.int .i64 0, .int .i64 0, .int .i64 0, .int .i64 0], .slice none 0 0, .slice none 0 0] 8 rfl (World.shaped_of_RefB (by kernel_rfl) (by kernel_rfl)) (by kernel_rfl) (by kernel_rfl) (by kernel_rfl) (checkerPlays_door os _))
    rfl (by kernel_rfl) Tryd.underlying4 laidOut
    (fun t ht => by
      have ht' : t ∈ [43, 44, 45] := ht
      simp only [List.mem_cons, List.not_mem_nil, or_false] at ht'
      rcases ht' with rfl | rfl | rfl
      all_goals exact ⟨by kernel_rfl, of_decide_eq_true (by kernel_rfl)⟩)
    (fun ds hds => by
      have hds' : ds.length = 3 := hds
      match ds, hds' with
      | [_, _, _], _ => rfl)
    checkerPlays_walk
theorem checkerPlays_row : Rows.CheckerPlaysSaid :=
  OpenClaim.holds_of_wide 4 Tryd.f4 rfl rfl rfl rfl rfl rfl rfl ⟨rfl, rfl, rfl, rfl, rfl⟩ rfl rfl rfl rfl rfl (by kernel_rfl) Tryd.func4 (by kernel_rfl)
    (of_decide_eq_true (by kernel_rfl)) (by unfold Func.isWrapper; first | (rw [if_pos (by decide +kernel)]; kernel_rfl) | (rw [if_neg (by decide +kernel)]; exact ⟨rfl, rfl⟩))
    (fun os started H enc _ => checkerPlays_lifted os started H enc)
theorem checkerPlays_holds : Rows.CheckerPlaysCardSaid :=
  Claim7.holds_tied_plain_at .later [] [.data] true Rows.checkerPlaysCard.stood.harness false
    checkerPlays_row (fun _ h => by cases h) (by kernel_rfl) (fun _ h => by cases h) checkerPlays_row_tie rfl ⟨rfl, rfl⟩ (by kernel_rfl) rfl
    (fun f fn hf hfn => by
      obtain rfl : f = 4 := Option.some.inj ((show Tryd.prog.funcNamed "bombarde/bombardelaw54.CheckerPlays" = some 4 by kernel_rfl).symm.trans hf) |>.symm
      obtain rfl : fn = Tryd.f4 := (Option.some.inj (Tryd.func4.symm.trans hfn)).symm
      exact ⟨by kernel_rfl, fun j t ht => by
        rw [Tryd.params4] at ht
        have hm : t ∈ [43, 44, 45] := by simpa using Array.mem_of_getElem? ht
        have hall : ([43, 44, 45].all fun u => !Tryd.prog.wantsStandIn u) = true := by kernel_rfl
        exact (show Tryd.prog.wantsStandIn t = false by simpa using List.all_eq_true.1 hall t hm)⟩)
    (by kernel_rfl)
#print axioms checkerPlays_holds
end Go.Proofs.YtnphdmiondccgaaDoor
