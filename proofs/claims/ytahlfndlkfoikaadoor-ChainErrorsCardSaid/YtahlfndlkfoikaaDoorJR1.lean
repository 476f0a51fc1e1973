/- The statement ChainErrors: for every input the call returns true, and the arguments read as they did, where the listed variables lie as the program's text lays them. -/
import Derived.Test.YtahlfndlkfoikaaDoorJb
import Derived.Test.YtahlfndlkfoikaaDoorJR
namespace Go.Proofs.YtahlfndlkfoikaaDoor
open Go Go.RowKit Go.ChangeShapes Go.WideShapes
theorem chainErrors_tab {W : World} (h : laidMetH Tryd.prog Rows.chainErrorsRow.laid W) : Tab64 W := by
  rw [MakeChecks.laidMetH_plain _ _ _ (by kernel_rfl)] at h
  exact tab_of_laid (L := Rows.chainErrorsRow.laid) (n := "math/bits.deBruijn64tab") (tab := Lib.deBruijn64tab) (g := 0) (T := 112) (te := 5) (len := 64) h (List.mem_cons_of_mem _ (List.mem_cons_self ..)) (by kernel_rfl) (by kernel_rfl) Tryd.underlying112 Tryd.underlying5 cells_u8
theorem chainErrors_tabP {W : World} (h : laidMetH Tryd.prog Rows.chainErrorsRow.laid W) : TabP W := by
  rw [MakeChecks.laidMetH_plain _ _ _ (by kernel_rfl)] at h
  exact tabIs_of_laid (L := Rows.chainErrorsRow.laid) (n := "internal/strconv.uint64pow10") (k := .u64) (vals := Lib.pow10Tab) (g := 1) (T := 152) (te := 31) (len := 20) h (List.mem_cons_of_mem _ (List.mem_cons_of_mem _ (List.mem_cons_self ..))) (by kernel_rfl) (by kernel_rfl) Tryd.underlying152 Tryd.underlying31 (by kernel_rfl) (by kernel_rfl)
theorem chainErrors_wok {W : World} (h : laidMetH Tryd.prog Rows.chainErrorsRow.laid W) : WOk W := ⟨chainErrors_tab h, tab64_lt (chainErrors_tab h), chainErrors_tabP h⟩
theorem chainErrors_door (os : Os) (args : Array Value) : laidMetH Tryd.prog Rows.chainErrorsRow.laid ((World.doorLaid Tryd.prog 400 os).forCall (fun _ _ => 0) ⟨#[], args, []⟩).memory :=
  laidMetH_of_parts3 (fuel := 8) (laidMet_of_run' 8 (by kernel_rfl) (by kernel_rfl)) (by kernel_rfl) (by kernel_rfl)
set_option maxRecDepth 100000 in
theorem chainErrors_walk {H : Type} {enc : TypeId × Value → H} (W : World) (base : Nat) (args : Array Value) (ds : List (DataW H)) (p : List MemPlace) (hL : laidMetH Tryd.prog Rows.chainErrorsRow.laid W)
    (hval : ∀ (j : Nat) t v, Tryd.f7.params[j]? = some t → args[j]? = some v → Value.okWide Tryd.prog W .any base t v)
    (hA : DataW.TrodAll enc Tryd.prog W 0 (fun _ => true) true Tryd.f7.params.toList args.toList ds p)
    (hw : ∀ (j : Nat) t d, Tryd.f7.params.toList[j]? = some t → ds[j]? = some d → ∀ m ∈ d.weights Tryd.prog t, m ≤ reachBytes) :
    Calls Tryd.prog 7 args W fun e W' => e = .returned (.bool true) ∧ Below W.heap.size W W' := by
  rw [Tryd.params7] at hA hval hw
  obtain ⟨v0, v1, v2, d0, d1, d2, p0, p1, p2, rfl, rfl, rfl, h0, h1, h2⟩ := trodAll_three hA
  obtain ⟨_, a, vd, vc, hv, hdr, hAc⟩ := opens_arg opens_act h0 (hw 0 33 d0 rfl rfl)
  obtain ⟨_, y, hy, -, -⟩ := opens_arg opens_ct h1 (hw 1 36 d1 rfl rfl)
  obtain ⟨_, z, hz, -, -⟩ := opens_arg opens_ct h2 (hw 2 36 d2 rfl rfl)
  have a0 := agg_of_cells Tryd.underlying33 (hval 0 33 v0 rfl rfl) hv
  have a1 := agg_of_cells Tryd.underlying36 (hval 1 36 v1 rfl rfl) hy
  have a2 := agg_of_cells Tryd.underlying36 (hval 2 36 v2 rfl rfl) hz
  subst a0; subst a1; subst a2
  exact law_errors a vd vc hdr y z W hAc (chainErrors_wok hL)
set_option maxRecDepth 100000 in
theorem chainErrors_lifted (os : Os) (started : os.Started) (H : Type) (enc : TypeId × Value → H) :
    ReturnsInHanded {} Tryd.checked os 7 .any (fun w args => (Rows.chainErrorsSpec.pre enc Tryd.prog Tryd.f7 [] false w args ∧ laidMetH Tryd.prog Rows.chainErrorsRow.laid w) ∧ sizedMet enc Tryd.prog Tryd.f7 (OpenSpec.ofChange Rows.chainErrorsSpec) false w args)
      (Rows.chainErrorsSpec.post enc Tryd.prog Tryd.f7 false true false false) :=
  law_lifted_laid (C := Tryd.checked) own started (by kernel_rfl) Tryd.func7
    (ChangeSpec.witness_shaped (enc := enc) (C := Tryd.checked) (os := os) (X := fun w _ => laidMetH Tryd.prog Rows.chainErrorsRow.laid w) false (World.doorLaid Tryd.prog 400 os) #[.agg #[.slice none 0 0, .slice none 0 0, .int .u64 0], .agg #[.int .i64 0, .int .i64 0], .agg #[.int .i64 0, .int .i64 0]] 8 rfl (World.shaped_of_RefB (by kernel_rfl) (by kernel_rfl)) (by kernel_rfl) (by kernel_rfl) (by kernel_rfl) (chainErrors_door os _))
    rfl (by kernel_rfl) Tryd.underlying4 laidOut
    (fun t ht => by
      have ht' : t ∈ [33, 36, 36] := ht
      simp only [List.mem_cons, List.not_mem_nil, or_false] at ht'
      rcases ht' with rfl | rfl | rfl
      all_goals exact ⟨by kernel_rfl, of_decide_eq_true (by kernel_rfl)⟩)
    (fun ds hds => by
      have hds' : ds.length = 3 := hds
      match ds, hds' with
      | [_, _, _], _ => rfl)
    chainErrors_walk
theorem chainErrors_row : Rows.ChainErrorsSaid :=
  OpenClaim.holds_of_wide 7 Tryd.f7 rfl rfl rfl rfl rfl rfl rfl ⟨rfl, rfl, rfl, rfl, rfl⟩ rfl rfl rfl rfl rfl (by kernel_rfl) Tryd.func7 (by kernel_rfl)
    (of_decide_eq_true (by kernel_rfl)) (by unfold Func.isWrapper; first | (rw [if_pos (by decide +kernel)]; kernel_rfl) | (rw [if_neg (by decide +kernel)]; exact ⟨rfl, rfl⟩))
    (fun os started H enc _ => chainErrors_lifted os started H enc)
theorem chainErrors_holds : Rows.ChainErrorsCardSaid :=
  Claim7.holds_tied_plain_at .later [] [.data, .data, .data] true Rows.chainErrorsCard.stood.harness false
    chainErrors_row (fun _ h => by cases h) (by kernel_rfl) (fun _ h => by cases h) chainErrors_row_tie rfl ⟨rfl, rfl⟩ (by kernel_rfl) rfl
    (fun f fn hf hfn => by
      obtain rfl : f = 7 := Option.some.inj ((show Tryd.prog.funcNamed "bombarde/bombardelaw24.ChainErrors" = some 7 by kernel_rfl).symm.trans hf) |>.symm
      obtain rfl : fn = Tryd.f7 := (Option.some.inj (Tryd.func7.symm.trans hfn)).symm
      exact ⟨by kernel_rfl, fun j t ht => by
        rw [Tryd.params7] at ht
        have hm : t ∈ [33, 36, 36] := by simpa using Array.mem_of_getElem? ht
        have hall : ([33, 36, 36].all fun u => !Tryd.prog.wantsStandIn u) = true := by kernel_rfl
        exact (show Tryd.prog.wantsStandIn t = false by simpa using List.all_eq_true.1 hall t hm)⟩)
    (by kernel_rfl)
#print axioms chainErrors_holds
end Go.Proofs.YtahlfndlkfoikaaDoor
