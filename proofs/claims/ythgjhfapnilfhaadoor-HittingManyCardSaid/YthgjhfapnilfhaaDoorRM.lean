/- The statement HittingMany: for every input the call returns true, and the arguments read as they did, where the listed variables lie as the program's text lays them. -/
import Derived.Test.YthgjhfapnilfhaaDoorMc
import Derived.Test.YthgjhfapnilfhaaDoorRow
namespace Go.Proofs.YthgjhfapnilfhaaDoor
open Go Go.RowKit Go.ChangeShapes Go.WideShapes
theorem hittingMany_tab {W : World} (h : laidMetH Tryd.prog Rows.hittingManyRow.laid W) : Tab32 W := by
  rw [MakeChecks.laidMetH_plain _ _ _ (by kernel_rfl)] at h
  exact tab_of_laid (L := Rows.hittingManyRow.laid) (n := "math/bits.deBruijn32tab") (tab := Lib.deBruijn32tab) (g := 0) (T := 194) (te := 5) (len := 32) h (List.mem_cons_self ..) (by kernel_rfl) (by kernel_rfl) Tryd.underlying194 Tryd.underlying5 cells_u8
theorem hittingMany_tabP {W : World} (h : laidMetH Tryd.prog Rows.hittingManyRow.laid W) : TabP W := by
  rw [MakeChecks.laidMetH_plain _ _ _ (by kernel_rfl)] at h
  exact tabIs_of_laid (L := Rows.hittingManyRow.laid) (n := "internal/strconv.uint64pow10") (k := .u64) (vals := Lib.pow10Tab) (g := 2) (T := 240) (te := 107) (len := 20) h (List.mem_cons_of_mem _ (List.mem_cons_of_mem _ (List.mem_cons_self ..))) (by kernel_rfl) (by kernel_rfl) Tryd.underlying240 Tryd.underlying107 (by kernel_rfl) (by kernel_rfl)
theorem hittingMany_door (os : Os) (args : Array Value) : laidMetH Tryd.prog Rows.hittingManyRow.laid ((World.doorLaid Tryd.prog 400 os).forCall (fun _ _ => 0) ⟨#[], args, []⟩).memory :=
  laidMetH_of_parts3 (fuel := 8) (laidMet_of_run' 8 (by kernel_rfl) (by kernel_rfl)) (by kernel_rfl) (by kernel_rfl)
set_option maxRecDepth 100000 in
theorem hittingMany_walk {H : Type} {enc : TypeId × Value → H} (W : World) (base : Nat) (args : Array Value) (ds : List (DataW H)) (p : List MemPlace) (hL : laidMetH Tryd.prog Rows.hittingManyRow.laid W)
    (hval : ∀ (j : Nat) t v, Tryd.f7.params[j]? = some t → args[j]? = some v → Value.okWide Tryd.prog W .any base t v)
    (hA : DataW.TrodAll enc Tryd.prog W 0 (fun _ => true) true Tryd.f7.params.toList args.toList ds p)
    (hw : ∀ (j : Nat) t d, Tryd.f7.params.toList[j]? = some t → ds[j]? = some d → ∀ m ∈ d.weights Tryd.prog t, m ≤ reachBytes) :
    Calls Tryd.prog 7 args W fun e W' => e = .returned (.bool true) ∧ Below W.heap.size W W' := by
  rw [Tryd.params7] at hA hval hw
  obtain ⟨v0, v1, d0, d1, p0, p1, rfl, rfl, rfl, h0, h1⟩ := trodAll_two hA
  obtain ⟨_, x, e0, hx⟩ := opens_arg (opens_int Tryd.underlying5) h0 (hw 0 5 d0 rfl rfl)
  obtain ⟨_, y, e1, hy⟩ := opens_arg (opens_int Tryd.underlying80) h1 (hw 1 80 d1 rfl rfl)
  have a0 := int_of_cells Tryd.underlying5 (hval 0 5 v0 rfl rfl) e0
  have a1 := int_of_cells Tryd.underlying80 (hval 1 80 v1 rfl rfl) e1
  subst a0; subst a1
  have hb := bounds_u8 hx
  have hc := bounds_u16 hy
  obtain ⟨p, rfl⟩ : ∃ p : Nat, x = p := ⟨x.toNat, by omega⟩
  obtain ⟨m, rfl⟩ : ∃ m : Nat, y = m := ⟨y.toNat, by omega⟩
  exact law_many p m W (hittingMany_tab hL) (hittingMany_tabP hL)
set_option maxRecDepth 100000 in
theorem hittingMany_lifted (os : Os) (started : os.Started) (H : Type) (enc : TypeId × Value → H) :
    ReturnsInHanded {} Tryd.checked os 7 .any (fun w args => (Rows.hittingManySpec.pre enc Tryd.prog Tryd.f7 [] false w args ∧ laidMetH Tryd.prog Rows.hittingManyRow.laid w) ∧ sizedMet enc Tryd.prog Tryd.f7 (OpenSpec.ofChange Rows.hittingManySpec) false w args)
      (Rows.hittingManySpec.post enc Tryd.prog Tryd.f7 false true false false) :=
  law_lifted_laid (C := Tryd.checked) own started (by kernel_rfl) Tryd.func7
    (ChangeSpec.witness_shaped (enc := enc) (C := Tryd.checked) (os := os) (X := fun w _ => laidMetH Tryd.prog Rows.hittingManyRow.laid w) false (World.doorLaid Tryd.prog 400 os) #[.int .u8 0, .int .u16 0] 8 rfl (World.shaped_of_RefB (by kernel_rfl) (by kernel_rfl)) (by kernel_rfl) (by kernel_rfl) (by kernel_rfl) (hittingMany_door os _))
    rfl (by kernel_rfl) Tryd.underlying4 laidOut
    (fun t ht => by
      have ht' : t ∈ [5, 80] := ht
      simp only [List.mem_cons, List.not_mem_nil, or_false] at ht'
      rcases ht' with rfl | rfl
      all_goals exact ⟨by kernel_rfl, of_decide_eq_true (by kernel_rfl)⟩)
    (fun ds hds => by
      have hds' : ds.length = 2 := hds
      match ds, hds' with
      | [_, _], _ => rfl)
    hittingMany_walk
theorem hittingMany_row : Rows.HittingManySaid :=
  OpenClaim.holds_of_wide 7 Tryd.f7 rfl rfl rfl rfl rfl rfl rfl ⟨rfl, rfl, rfl, rfl, rfl⟩ rfl rfl rfl rfl rfl (by kernel_rfl) Tryd.func7 (by kernel_rfl)
    (of_decide_eq_true (by kernel_rfl)) (by unfold Func.isWrapper; first | (rw [if_pos (by decide +kernel)]; kernel_rfl) | (rw [if_neg (by decide +kernel)]; exact ⟨rfl, rfl⟩))
    (fun os started H enc _ => hittingMany_lifted os started H enc)
theorem hittingMany_holds : Rows.HittingManyCardSaid :=
  Claim7.holds_tied_plain_at .later [] [.data, .data, .data, .sentinel, .sentinel] true Rows.hittingManyCard.stood.harness true
    hittingMany_row (fun _ h => by cases h) (by kernel_rfl) (fun _ h => by cases h) hittingMany_row_tie rfl ⟨rfl, rfl⟩ (by kernel_rfl) rfl
    (fun f fn hf hfn => by
      obtain rfl : f = 7 := Option.some.inj ((show Tryd.prog.funcNamed "bombarde/bombardelaw09.HittingMany" = some 7 by kernel_rfl).symm.trans hf) |>.symm
      obtain rfl : fn = Tryd.f7 := (Option.some.inj (Tryd.func7.symm.trans hfn)).symm
      exact ⟨by kernel_rfl, fun j t ht => by
        rw [Tryd.params7] at ht
        have hm : t ∈ [5, 80] := by simpa using Array.mem_of_getElem? ht
        have hall : ([5, 80].all fun u => !Tryd.prog.wantsStandIn u) = true := by kernel_rfl
        exact (show Tryd.prog.wantsStandIn t = false by simpa using List.all_eq_true.1 hall t hm)⟩)
    (by kernel_rfl)
#print axioms hittingMany_holds
end Go.Proofs.YthgjhfapnilfhaaDoor
