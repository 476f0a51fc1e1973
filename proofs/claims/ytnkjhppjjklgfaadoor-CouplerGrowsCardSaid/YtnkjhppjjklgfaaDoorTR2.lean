/- The statement CouplerGrows: for every input the call returns true, and the arguments read as they did, where the listed variables lie as the program's text lays them. -/
import Derived.Test.YtnkjhppjjklgfaaDoorTe
import Derived.Test.YtnkjhppjjklgfaaDoorSR
namespace Go.Proofs.YtnkjhppjjklgfaaDoor
open Go Go.RowKit Go.ChangeShapes Go.WideShapes
theorem couplerGrows_tab {W : World} (h : laidMetH Tryd.prog Rows.couplerGrowsRow.laid W) : Tab64 W := by
  rw [MakeChecks.laidMetH_plain _ _ _ (by kernel_rfl)] at h
  exact tab_of_laid (L := Rows.couplerGrowsRow.laid) (n := "math/bits.deBruijn64tab") (tab := Lib.deBruijn64tab) (g := 0) (T := 132) (te := 5) (len := 64) h (List.mem_cons_self ..) (by kernel_rfl) (by kernel_rfl) Tryd.underlying132 Tryd.underlying5 cells_u8
theorem couplerGrows_door (os : Os) (args : Array Value) : laidMetH Tryd.prog Rows.couplerGrowsRow.laid ((World.doorLaid Tryd.prog 400 os).forCall (fun _ _ => 0) ⟨#[], args, []⟩).memory :=
  laidMetH_of_parts3 (fuel := 8) (laidMet_of_run' 8 (by kernel_rfl) (by kernel_rfl)) (by kernel_rfl) (by kernel_rfl)
set_option maxRecDepth 100000 in
theorem couplerGrows_walk {H : Type} {enc : TypeId × Value → H} (W : World) (base : Nat) (args : Array Value) (ds : List (DataW H)) (p : List MemPlace) (hL : laidMetH Tryd.prog Rows.couplerGrowsRow.laid W)
    (hval : ∀ (j : Nat) t v, Tryd.f9.params[j]? = some t → args[j]? = some v → Value.okWide Tryd.prog W .any base t v)
    (hA : DataW.TrodAll enc Tryd.prog W 0 (fun _ => true) true Tryd.f9.params.toList args.toList ds p)
    (hw : ∀ (j : Nat) t d, Tryd.f9.params.toList[j]? = some t → ds[j]? = some d → ∀ m ∈ d.weights Tryd.prog t, m ≤ reachBytes) :
    Calls Tryd.prog 9 args W fun e W' => e = .returned (.bool true) ∧ Below W.heap.size W W' := by
  rw [Tryd.params9] at hA hval hw
  obtain ⟨v0, v1, v2, d0, d1, d2, p0, p1, p2, rfl, rfl, rfl, h0, h1, h2⟩ := trodAll_three hA
  obtain ⟨_, pl, vl, hv, hpl, hs⟩ := opens_arg opens_plan h0 (hw 0 26 d0 rfl rfl)
  obtain ⟨_, ⟨b0, b1, b2⟩, e1, hb0, hb1, hb2⟩ := opens_arg opens_bits h1 (hw 1 62 d1 rfl rfl)
  obtain ⟨_, ⟨m0, m1, m2⟩, e2, hm0, hm1, hm2⟩ := opens_arg opens_bits h2 (hw 2 62 d2 rfl rfl)
  have a0 := agg_of_cells Tryd.underlying26 (hval 0 26 v0 rfl rfl) hv
  rw [Array.toArray_toList] at a0
  have a1 := agg_of_array Tryd.underlying62 (hval 1 62 v1 rfl rfl) e1
  have a2 := agg_of_array Tryd.underlying62 (hval 2 62 v2 rfl rfl) e2
  subst a0; subst a1; subst a2
  exact law_grows pl hpl vl b0 b1 b2 hb0 hb1 hb2 m0 m1 m2 hm0 hm1 hm2 W _ (fun b h => h) hs (couplerGrows_tab hL) (tab64_lt (couplerGrows_tab hL))
set_option maxRecDepth 100000 in
theorem couplerGrows_lifted (os : Os) (started : os.Started) (H : Type) (enc : TypeId × Value → H) :
    ReturnsInHanded {} Tryd.checked os 9 .any (fun w args => (Rows.couplerGrowsSpec.pre enc Tryd.prog Tryd.f9 [] false w args ∧ laidMetH Tryd.prog Rows.couplerGrowsRow.laid w) ∧ sizedMet enc Tryd.prog Tryd.f9 (OpenSpec.ofChange Rows.couplerGrowsSpec) false w args)
      (Rows.couplerGrowsSpec.post enc Tryd.prog Tryd.f9 false true false false) :=
  law_lifted_laid (C := Tryd.checked) own started (by kernel_rfl) Tryd.func9
    (ChangeSpec.witness_shaped (enc := enc) (C := Tryd.checked) (os := os) (X := fun w _ => laidMetH Tryd.prog Rows.couplerGrowsRow.laid w) false (World.doorLaid Tryd.prog 400 os) #[.agg #[.int .u8 0, .int .u8 0, .int .u8 0, .int .u8 0, .int .u8 0, .int .u8 0, .int .u8 0, .slice none 0 0, .int .u8 0], .agg #[.int .u16 0, .int .u16 0, .int .u16 0], .agg #[.int .u16 0, .int .u16 0, .int .u16 0]] 8 rfl (World.shaped_of_RefB (by kernel_rfl) (by kernel_rfl)) (by kernel_rfl) (by kernel_rfl) (by kernel_rfl) (couplerGrows_door os _))
    rfl (by kernel_rfl) Tryd.underlying4 laidOut
    (fun t ht => by
      have ht' : t ∈ [26, 62, 62] := ht
      simp only [List.mem_cons, List.not_mem_nil, or_false] at ht'
      rcases ht' with rfl | rfl | rfl
      all_goals exact ⟨by kernel_rfl, of_decide_eq_true (by kernel_rfl)⟩)
    (fun ds hds => by
      have hds' : ds.length = 3 := hds
      match ds, hds' with
      | [_, _, _], _ => rfl)
    couplerGrows_walk
theorem couplerGrows_row : Rows.CouplerGrowsSaid :=
  OpenClaim.holds_of_wide 9 Tryd.f9 rfl rfl rfl rfl rfl rfl rfl ⟨rfl, rfl, rfl, rfl, rfl⟩ rfl rfl rfl rfl rfl (by kernel_rfl) Tryd.func9 (by kernel_rfl)
    (of_decide_eq_true (by kernel_rfl)) (by unfold Func.isWrapper; first | (rw [if_pos (by decide +kernel)]; kernel_rfl) | (rw [if_neg (by decide +kernel)]; exact ⟨rfl, rfl⟩))
    (fun os started H enc _ => couplerGrows_lifted os started H enc)
theorem couplerGrows_holds : Rows.CouplerGrowsCardSaid :=
  Claim7.holds_tied_plain_at .later [] [.data] true Rows.couplerGrowsCard.stood.harness false
    couplerGrows_row (fun _ h => by cases h) (by kernel_rfl) (fun _ h => by cases h) couplerGrows_row_tie rfl ⟨rfl, rfl⟩ (by kernel_rfl) rfl
    (fun f fn hf hfn => by
      obtain rfl : f = 9 := Option.some.inj ((show Tryd.prog.funcNamed "bombarde/bombardelaw16.CouplerGrows" = some 9 by kernel_rfl).symm.trans hf) |>.symm
      obtain rfl : fn = Tryd.f9 := (Option.some.inj (Tryd.func9.symm.trans hfn)).symm
      exact ⟨by kernel_rfl, fun j t ht => by
        rw [Tryd.params9] at ht
        have hm : t ∈ [26, 62, 62] := by simpa using Array.mem_of_getElem? ht
        have hall : ([26, 62, 62].all fun u => !Tryd.prog.wantsStandIn u) = true := by kernel_rfl
        exact (show Tryd.prog.wantsStandIn t = false by simpa using List.all_eq_true.1 hall t hm)⟩)
    (by kernel_rfl)
#print axioms couplerGrows_holds
end Go.Proofs.YtnkjhppjjklgfaaDoor
