/- The statement CheckerRight: for every input the call returns true, and the arguments read as they did, where the listed variables lie as the program's text lays them. -/
import Derived.Test.YtnfpjcjlapljjaaGreatDoorDv
import Derived.Test.YtnfpjcjlapljjaaGreatDoorDw
namespace Go.Proofs.YtnfpjcjlapljjaaGreatDoor
open Go Go.RowKit Go.ChangeShapes Go.WideShapes
theorem checkerRight_tab {W : World} (h : laidMetH Tryz.prog Rows.checkerRightRow.laid W) : Tab64 W := by
  rw [MakeChecks.laidMetH_plain _ _ _ (by kernel_rfl)] at h
  exact tab_of_laid (L := Rows.checkerRightRow.laid) (n := "math/bits.deBruijn64tab") (tab := Lib.deBruijn64tab) (g := 3) (T := 222) (te := 5) (len := 64) h (List.mem_cons_of_mem _ (List.mem_cons_self ..)) (by kernel_rfl) (by kernel_rfl) Tryz.underlying222 Tryz.underlying5 cells_u8
theorem checkerRight_tabP {W : World} (h : laidMetH Tryz.prog Rows.checkerRightRow.laid W) : TabP W := by
  rw [MakeChecks.laidMetH_plain _ _ _ (by kernel_rfl)] at h
  exact tabIs_of_laid (L := Rows.checkerRightRow.laid) (n := "internal/strconv.uint64pow10") (k := .u64) (vals := Lib.pow10Tab) (g := 1) (T := 216) (te := 42) (len := 20) h (List.mem_cons_of_mem _ (List.mem_cons_of_mem _ (List.mem_cons_self ..))) (by kernel_rfl) (by kernel_rfl) Tryz.underlying216 Tryz.underlying42 (by kernel_rfl) (by kernel_rfl)
theorem checkerRight_door (os : Os) (args : Array Value) : laidMetH Tryz.prog Rows.checkerRightRow.laid ((World.doorLaid Tryz.prog 400 os).forCall (fun _ _ => 0) ⟨#[], args, []⟩).memory :=
  laidMetH_of_parts3 (fuel := 8) (laidMet_of_run' 8 (by kernel_rfl) (by kernel_rfl)) (by kernel_rfl) (by kernel_rfl)
set_option maxRecDepth 100000 in
theorem checkerRight_walk {H : Type} {enc : TypeId × Value → H} (W : World) (base : Nat) (args : Array Value) (ds : List (DataW H)) (p : List MemPlace) (hL : laidMetH Tryz.prog Rows.checkerRightRow.laid W)
    (hval : ∀ (j : Nat) t v, Tryz.f3.params[j]? = some t → args[j]? = some v → Value.okWide Tryz.prog W .any base t v)
    (hA : DataW.TrodAll enc Tryz.prog W 0 (fun _ => true) true Tryz.f3.params.toList args.toList ds p)
    (hw : ∀ (j : Nat) t d, Tryz.f3.params.toList[j]? = some t → ds[j]? = some d → ∀ m ∈ d.weights Tryz.prog t, m ≤ reachBytes) :
    Calls Tryz.prog 3 args W fun e W' => e = .returned (.bool true) ∧ Below W.heap.size W W' := by
  rw [Tryz.params3] at hA hval hw
  obtain ⟨v0, v1, v2, d0, d1, d2, p0, p1, p2, rfl, rfl, rfl, h0, h1, h2⟩ := trodAll_three hA
  obtain ⟨_, x, ⟨vr, vd, vc, e0, hx1, hx2, hx3⟩, hxo⟩ := opens_arg opens_pn h0 (hw 0 26 d0 rfl rfl)
  obtain ⟨_, y, e1, hyo⟩ := opens_arg opens_bt h1 (hw 1 31 d1 rfl rfl)
  obtain ⟨_, ⟨ho, att, byy⟩, e2, hz1, hz2, hz3⟩ := opens_arg opens_sp h2 (hw 2 33 d2 rfl rfl)
  have a0 := agg_of_cells Tryz.underlying26 (hval 0 26 v0 rfl rfl) e0
  have a1 := agg_of_cells Tryz.underlying31 (hval 1 31 v1 rfl rfl) e1
  have a2 := agg_of_cells Tryz.underlying33 (hval 2 33 v2 rfl rfl) e2
  subst a0; subst a1; subst a2
  exact law_right x y hxo hyo ho att hz1 hz2 byy hz3 _ _ _ W (checkerRight_tabP hL) _ (fun b h => h) hx1 hx2 hx3
set_option maxRecDepth 100000 in
theorem checkerRight_lifted (os : Os) (started : os.Started) (H : Type) (enc : TypeId × Value → H) :
    ReturnsInHanded {} Tryz.checked os 3 .any (fun w args => (Rows.checkerRightSpec.pre enc Tryz.prog Tryz.f3 [] false w args ∧ laidMetH Tryz.prog Rows.checkerRightRow.laid w) ∧ sizedMet enc Tryz.prog Tryz.f3 (OpenSpec.ofChange Rows.checkerRightSpec) false w args)
      (Rows.checkerRightSpec.post enc Tryz.prog Tryz.f3 false true false false) :=
  law_lifted_laid (C := Tryz.checked) own started (by kernel_rfl) Tryz.func3
    (ChangeSpec.witness_shaped (enc := enc) (C := Tryz.checked) (os := os) (X := fun w _ => laidMetH Tryz.prog Rows.checkerRightRow.laid w) false (World.doorLaid Tryz.prog 400 os) #[.agg #[.slice none 0 0, .slice none 0 0, .slice none 0 0], .agg #[.int .u8 0, .int .u8 0, .int .u8 0, .int .u8 0, .int .u8 0, .int .u16 0, .int .u16 0, .int .u16 0, .int .u8 0, .int .u8 0], .agg #[.int .u8 0, .int .u8 0, .int .i64 0]] 8 rfl (World.shaped_of_RefB (by kernel_rfl) (by kernel_rfl)) (by kernel_rfl) (by kernel_rfl) (by kernel_rfl) (checkerRight_door os _))
    rfl (by kernel_rfl) Tryz.underlying4 laidOut
    (fun t ht => by
      have ht' : t ∈ [26, 31, 33] := ht
      simp only [List.mem_cons, List.not_mem_nil, or_false] at ht'
      rcases ht' with rfl | rfl | rfl
      all_goals exact ⟨by kernel_rfl, of_decide_eq_true (by kernel_rfl)⟩)
    (fun ds hds => by
      have hds' : ds.length = 3 := hds
      match ds, hds' with
      | [_, _, _], _ => rfl)
    checkerRight_walk
theorem checkerRight_row : Rows.CheckerRightSaid :=
  OpenClaim.holds_of_wide 3 Tryz.f3 rfl rfl rfl rfl rfl rfl rfl ⟨rfl, rfl, rfl, rfl, rfl⟩ rfl rfl rfl rfl rfl (by kernel_rfl) Tryz.func3 (by kernel_rfl)
    (of_decide_eq_true (by kernel_rfl)) (by unfold Func.isWrapper; first | (rw [if_pos (by decide +kernel)]; kernel_rfl) | (rw [if_neg (by decide +kernel)]; exact ⟨rfl, rfl⟩))
    (fun os started H enc _ => checkerRight_lifted os started H enc)
theorem checkerRight_holds : Rows.CheckerRightCardSaid :=
  Claim7.holds_tied_plain_at .later [] [.data, .data, .data] true Rows.checkerRightCard.stood.harness false
    checkerRight_row (fun _ h => by cases h) (by kernel_rfl) (fun _ h => by cases h) checkerRight_row_tie rfl ⟨rfl, rfl⟩ (by kernel_rfl) rfl
    (fun f fn hf hfn => by
      obtain rfl : f = 3 := Option.some.inj ((show Tryz.prog.funcNamed "bombarde/bombardelaw54.CheckerRight" = some 3 by kernel_rfl).symm.trans hf) |>.symm
      obtain rfl : fn = Tryz.f3 := (Option.some.inj (Tryz.func3.symm.trans hfn)).symm
      exact ⟨by kernel_rfl, fun j t ht => by
        rw [Tryz.params3] at ht
        have hm : t ∈ [26, 31, 33] := by simpa using Array.mem_of_getElem? ht
        have hall : ([26, 31, 33].all fun u => !Tryz.prog.wantsStandIn u) = true := by kernel_rfl
        exact (show Tryz.prog.wantsStandIn t = false by simpa using List.all_eq_true.1 hall t hm)⟩)
    (by kernel_rfl)
#print axioms checkerRight_holds
end Go.Proofs.YtnfpjcjlapljjaaGreatDoor
