/- The statement CouplerSounds: for every input the call returns true, and the arguments read as they did, where the listed variables lie as the program's text lays them. -/
import Derived.Test.YtnkjhppjjklgfaaDoorSf
import Derived.Test.YtnkjhppjjklgfaaDoorSR
namespace Go.Proofs.YtnkjhppjjklgfaaDoor
open Go Go.RowKit Go.ChangeShapes Go.WideShapes
theorem couplerSounds_tab {W : World} (h : laidMetH Tryd.prog Rows.couplerSoundsRow.laid W) : Tab64 W := by
  rw [MakeChecks.laidMetH_plain _ _ _ (by kernel_rfl)] at h
  exact tab_of_laid (L := Rows.couplerSoundsRow.laid) (n := "math/bits.deBruijn64tab") (tab := Lib.deBruijn64tab) (g := 0) (T := 132) (te := 5) (len := 64) h (List.mem_cons_self ..) (by kernel_rfl) (by kernel_rfl) Tryd.underlying132 Tryd.underlying5 cells_u8
theorem couplerSounds_door (os : Os) (args : Array Value) : laidMetH Tryd.prog Rows.couplerSoundsRow.laid ((World.doorLaid Tryd.prog 400 os).forCall (fun _ _ => 0) ⟨#[], args, []⟩).memory :=
  laidMetH_of_parts3 (fuel := 8) (laidMet_of_run' 8 (by kernel_rfl) (by kernel_rfl)) (by kernel_rfl) (by kernel_rfl)
set_option maxRecDepth 100000 in
theorem couplerSounds_walk {H : Type} {enc : TypeId × Value → H} (W : World) (base : Nat) (args : Array Value) (ds : List (DataW H)) (p : List MemPlace) (hL : laidMetH Tryd.prog Rows.couplerSoundsRow.laid W)
    (hval : ∀ (j : Nat) t v, Tryd.f7.params[j]? = some t → args[j]? = some v → Value.okWide Tryd.prog W .any base t v)
    (hA : DataW.TrodAll enc Tryd.prog W 0 (fun _ => true) true Tryd.f7.params.toList args.toList ds p)
    (hw : ∀ (j : Nat) t d, Tryd.f7.params.toList[j]? = some t → ds[j]? = some d → ∀ m ∈ d.weights Tryd.prog t, m ≤ reachBytes) :
    Calls Tryd.prog 7 args W fun e W' => e = .returned (.bool true) ∧ Below W.heap.size W W' := by
  rw [Tryd.params7] at hA hval hw
  obtain ⟨v0, v1, v2, d0, d1, d2, p0, p1, p2, rfl, rfl, rfl, h0, h1, h2⟩ := trodAll_three hA
  obtain ⟨_, pl, vl, hv, hpl, hs⟩ := opens_arg opens_plan h0 (hw 0 26 d0 rfl rfl)
  obtain ⟨_, ⟨b0, b1, b2⟩, e1, hb0, hb1, hb2⟩ := opens_arg opens_bits h1 (hw 1 62 d1 rfl rfl)
  obtain ⟨_, off, e2, ho⟩ := opens_arg opens_u64C h2 (hw 2 32 d2 rfl rfl)
  have a0 := agg_of_cells Tryd.underlying26 (hval 0 26 v0 rfl rfl) hv
  rw [Array.toArray_toList] at a0
  have a1 := agg_of_array Tryd.underlying62 (hval 1 62 v1 rfl rfl) e1
  have a2 := int_of_cells Tryd.underlying32 (hval 2 32 v2 rfl rfl) e2
  subst a0; subst a1; subst a2
  exact law_sounds pl hpl vl b0 b1 b2 hb0 hb1 hb2 off ho W _ (fun b h => h) hs (couplerSounds_tab hL) (tab64_lt (couplerSounds_tab hL))
set_option maxRecDepth 100000 in
theorem couplerSounds_lifted (os : Os) (started : os.Started) (H : Type) (enc : TypeId × Value → H) :
    ReturnsInHanded {} Tryd.checked os 7 .any (fun w args => (Rows.couplerSoundsSpec.pre enc Tryd.prog Tryd.f7 [] false w args ∧ laidMetH Tryd.prog Rows.couplerSoundsRow.laid w) ∧ sizedMet enc Tryd.prog Tryd.f7 (OpenSpec.ofChange Rows.couplerSoundsSpec) false w args)
      (Rows.couplerSoundsSpec.post enc Tryd.prog Tryd.f7 false true false false) :=
  law_lifted_laid (C := Tryd.checked) own started (by kernel_rfl) Tryd.func7
    (ChangeSpec.witness_shaped (enc := enc) (C := Tryd.checked) (os := os) (X := fun w _ => laidMetH Tryd.prog Rows.couplerSoundsRow.laid w) false (World.doorLaid Tryd.prog 400 os) #[.agg #[.int .u8 0, .int .u8 0, .int .u8 0, .int .u8 0, .int .u8 0, .int .u8 0, .int .u8 0, .slice none 0 0, .int .u8 0], .agg #[.int .u16 0, .int .u16 0, .int .u16 0], .int .u64 0] 8 rfl (World.shaped_of_RefB (by kernel_rfl) (by kernel_rfl)) (by kernel_rfl) (by kernel_rfl) (by kernel_rfl) (couplerSounds_door os _))
    rfl (by kernel_rfl) Tryd.underlying4 laidOut
    (fun t ht => by
      have ht' : t ∈ [26, 62, 32] := ht
      simp only [List.mem_cons, List.not_mem_nil, or_false] at ht'
      rcases ht' with rfl | rfl | rfl
      all_goals exact ⟨by kernel_rfl, of_decide_eq_true (by kernel_rfl)⟩)
    (fun ds hds => by
      have hds' : ds.length = 3 := hds
      match ds, hds' with
      | [_, _, _], _ => rfl)
    couplerSounds_walk
theorem couplerSounds_row : Rows.CouplerSoundsSaid :=
  OpenClaim.holds_of_wide 7 Tryd.f7 rfl rfl rfl rfl rfl rfl rfl ⟨rfl, rfl, rfl, rfl, rfl⟩ rfl rfl rfl rfl rfl (by kernel_rfl) Tryd.func7 (by kernel_rfl)
    (of_decide_eq_true (by kernel_rfl)) (by unfold Func.isWrapper; first | (rw [if_pos (by decide +kernel)]; kernel_rfl) | (rw [if_neg (by decide +kernel)]; exact ⟨rfl, rfl⟩))
    (fun os started H enc _ => couplerSounds_lifted os started H enc)
theorem couplerSounds_holds : Rows.CouplerSoundsCardSaid :=
  Claim7.holds_tied_plain_at .later [] [.data] true Rows.couplerSoundsCard.stood.harness false
    couplerSounds_row (fun _ h => by cases h) (by kernel_rfl) (fun _ h => by cases h) couplerSounds_row_tie rfl ⟨rfl, rfl⟩ (by kernel_rfl) rfl
    (fun f fn hf hfn => by
      obtain rfl : f = 7 := Option.some.inj ((show Tryd.prog.funcNamed "bombarde/bombardelaw16.CouplerSounds" = some 7 by kernel_rfl).symm.trans hf) |>.symm
      obtain rfl : fn = Tryd.f7 := (Option.some.inj (Tryd.func7.symm.trans hfn)).symm
      exact ⟨by kernel_rfl, fun j t ht => by
        rw [Tryd.params7] at ht
        have hm : t ∈ [26, 62, 32] := by simpa using Array.mem_of_getElem? ht
        have hall : ([26, 62, 32].all fun u => !Tryd.prog.wantsStandIn u) = true := by kernel_rfl
        exact (show Tryd.prog.wantsStandIn t = false by simpa using List.all_eq_true.1 hall t hm)⟩)
    (by kernel_rfl)
#print axioms couplerSounds_holds
end Go.Proofs.YtnkjhppjjklgfaaDoor
