/- The statement ChainFollows: for every input the call returns true, and the arguments read as they did, where the listed variables lie as the program's text lays them. -/
import Derived.Test.YtahlfndlkfoikaaDoorHc
import Derived.Test.YtahlfndlkfoikaaDoorKR0
namespace Go.Proofs.YtahlfndlkfoikaaDoor
open Go Go.RowKit Go.ChangeShapes Go.WideShapes
theorem chainFollows_tab {W : World} (h : laidMetH Tryd.prog Rows.chainFollowsRow.laid W) : Tab64 W := by
  rw [MakeChecks.laidMetH_plain _ _ _ (by kernel_rfl)] at h
  exact tab_of_laid (L := Rows.chainFollowsRow.laid) (n := "math/bits.deBruijn64tab") (tab := Lib.deBruijn64tab) (g := 0) (T := 112) (te := 5) (len := 64) h (List.mem_cons_of_mem _ (List.mem_cons_self ..)) (by kernel_rfl) (by kernel_rfl) Tryd.underlying112 Tryd.underlying5 cells_u8
theorem chainFollows_tabP {W : World} (h : laidMetH Tryd.prog Rows.chainFollowsRow.laid W) : TabP W := by
  rw [MakeChecks.laidMetH_plain _ _ _ (by kernel_rfl)] at h
  exact tabIs_of_laid (L := Rows.chainFollowsRow.laid) (n := "internal/strconv.uint64pow10") (k := .u64) (vals := Lib.pow10Tab) (g := 1) (T := 152) (te := 31) (len := 20) h (List.mem_cons_of_mem _ (List.mem_cons_of_mem _ (List.mem_cons_self ..))) (by kernel_rfl) (by kernel_rfl) Tryd.underlying152 Tryd.underlying31 (by kernel_rfl) (by kernel_rfl)
theorem chainFollows_wok {W : World} (h : laidMetH Tryd.prog Rows.chainFollowsRow.laid W) : WOk W := ⟨chainFollows_tab h, tab64_lt (chainFollows_tab h), chainFollows_tabP h⟩
theorem opens_intsF {H : Type} {enc : TypeId × Value → H} {w : World} : Opens enc Tryd.prog w 27 1 (AnySl 1 IntC) := opens_slice Tryd.underlying27 (show Tryd.prog.cellsOf 3 = 1 by kernel_rfl) (by rw [show Tryd.prog.bytesOf 3 = 8 by kernel_rfl]; decide) (by decide) ((opens_int Tryd.underlying3).mono fun cs y h => h.1)
theorem chainFollows_door (os : Os) (args : Array Value) : laidMetH Tryd.prog Rows.chainFollowsRow.laid ((World.doorLaid Tryd.prog 400 os).forCall (fun _ _ => 0) ⟨#[], args, []⟩).memory :=
  laidMetH_of_parts3 (fuel := 8) (laidMet_of_run' 8 (by kernel_rfl) (by kernel_rfl)) (by kernel_rfl) (by kernel_rfl)
set_option maxRecDepth 100000 in
theorem chainFollows_walk {H : Type} {enc : TypeId × Value → H} (W : World) (base : Nat) (args : Array Value) (ds : List (DataW H)) (p : List MemPlace) (hL : laidMetH Tryd.prog Rows.chainFollowsRow.laid W)
    (hval : ∀ (j : Nat) t v, Tryd.f3.params[j]? = some t → args[j]? = some v → Value.okWide Tryd.prog W .any base t v)
    (hA : DataW.TrodAll enc Tryd.prog W 0 (fun _ => true) true Tryd.f3.params.toList args.toList ds p)
    (hw : ∀ (j : Nat) t d, Tryd.f3.params.toList[j]? = some t → ds[j]? = some d → ∀ m ∈ d.weights Tryd.prog t, m ≤ reachBytes) :
    Calls Tryd.prog 3 args W fun e W' => e = .returned (.bool true) ∧ Below W.heap.size W W' := by
  rw [Tryd.params3] at hA hval hw
  obtain ⟨v0, v1, v2, d0, d1, d2, p0, p1, p2, rfl, rfl, rfl, h0, h1, h2⟩ := trodAll_three hA
  obtain ⟨_, pl, vl, hv, hpl, hs⟩ := opens_arg opens_plan h0 (hw 0 26 d0 rfl rfl)
  obtain ⟨_, key, e1, hkey⟩ := opens_arg opens_byteC h1 (hw 1 5 d1 rfl rfl)
  obtain ⟨_, cs, cv, e2, hc⟩ := opens_arg opens_intsF h2 (hw 2 27 d2 rfl rfl)
  have a0 := agg_of_cells Tryd.underlying26 (hval 0 26 v0 rfl rfl) hv
  rw [Array.toArray_toList] at a0
  have a1 := int_of_cells Tryd.underlying5 (hval 1 5 v1 rfl rfl) e1
  have a2 := slice_of_cells Tryd.underlying27 (hval 2 27 v2 rfl rfl) e2
  subst a0; subst a1; subst a2
  exact law_follows pl hpl vl key hkey _ cs W _ (fun b h => h) hs (chainFollows_wok hL) hc
set_option maxRecDepth 100000 in
theorem chainFollows_lifted (os : Os) (started : os.Started) (H : Type) (enc : TypeId × Value → H) :
    ReturnsInHanded {} Tryd.checked os 3 .any (fun w args => (Rows.chainFollowsSpec.pre enc Tryd.prog Tryd.f3 [] false w args ∧ laidMetH Tryd.prog Rows.chainFollowsRow.laid w) ∧ sizedMet enc Tryd.prog Tryd.f3 (OpenSpec.ofChange Rows.chainFollowsSpec) false w args)
      (Rows.chainFollowsSpec.post enc Tryd.prog Tryd.f3 false true false false) :=
  law_lifted_laid (C := Tryd.checked) own started (by kernel_rfl) Tryd.func3
    (ChangeSpec.witness_shaped (enc := enc) (C := Tryd.checked) (os := os) (X := fun w _ => laidMetH Tryd.prog Rows.chainFollowsRow.laid w) false (World.doorLaid Tryd.prog 400 os) #[.agg #[.int .u8 0, .int .u8 0, .int .u8 0, .int .u8 0, .int .u8 0, .int .u8 0, .int .u8 0, .slice none 0 0, .int .u8 0], .int .u8 0, .slice none 0 0] 8 rfl (World.shaped_of_RefB (by kernel_rfl) (by kernel_rfl)) (by kernel_rfl) (by kernel_rfl) (by kernel_rfl) (chainFollows_door os _))
    rfl (by kernel_rfl) Tryd.underlying4 laidOut
    (fun t ht => by
      have ht' : t ∈ [26, 5, 27] := ht
      simp only [List.mem_cons, List.not_mem_nil, or_false] at ht'
      rcases ht' with rfl | rfl | rfl
      all_goals exact ⟨by kernel_rfl, of_decide_eq_true (by kernel_rfl)⟩)
    (fun ds hds => by
      have hds' : ds.length = 3 := hds
      match ds, hds' with
      | [_, _, _], _ => rfl)
    chainFollows_walk
theorem chainFollows_row : Rows.ChainFollowsSaid :=
  OpenClaim.holds_of_wide 3 Tryd.f3 rfl rfl rfl rfl rfl rfl rfl ⟨rfl, rfl, rfl, rfl, rfl⟩ rfl rfl rfl rfl rfl (by kernel_rfl) Tryd.func3 (by kernel_rfl)
    (of_decide_eq_true (by kernel_rfl)) (by unfold Func.isWrapper; first | (rw [if_pos (by decide +kernel)]; kernel_rfl) | (rw [if_neg (by decide +kernel)]; exact ⟨rfl, rfl⟩))
    (fun os started H enc _ => chainFollows_lifted os started H enc)
theorem chainFollows_holds : Rows.ChainFollowsCardSaid :=
  Claim7.holds_tied_plain_at .later [] [.data, .data, .data] true Rows.chainFollowsCard.stood.harness false
    chainFollows_row (fun _ h => by cases h) (by kernel_rfl) (fun _ h => by cases h) chainFollows_row_tie rfl ⟨rfl, rfl⟩ (by kernel_rfl) rfl
    (fun f fn hf hfn => by
      obtain rfl : f = 3 := Option.some.inj ((show Tryd.prog.funcNamed "bombarde/bombardelaw24.ChainFollows" = some 3 by kernel_rfl).symm.trans hf) |>.symm
      obtain rfl : fn = Tryd.f3 := (Option.some.inj (Tryd.func3.symm.trans hfn)).symm
      exact ⟨by kernel_rfl, fun j t ht => by
        rw [Tryd.params3] at ht
        have hm : t ∈ [26, 5, 27] := by simpa using Array.mem_of_getElem? ht
        have hall : ([26, 5, 27].all fun u => !Tryd.prog.wantsStandIn u) = true := by kernel_rfl
        exact (show Tryd.prog.wantsStandIn t = false by simpa using List.all_eq_true.1 hall t hm)⟩)
    (by kernel_rfl)
#print axioms chainFollows_holds
end Go.Proofs.YtahlfndlkfoikaaDoor
