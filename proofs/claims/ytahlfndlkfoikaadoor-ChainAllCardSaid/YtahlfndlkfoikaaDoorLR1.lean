/- The statement ChainAll: for every input the call returns true, and the arguments read as they did, where the listed variables lie as the program's text lays them. -/
import Derived.Test.YtahlfndlkfoikaaDoorLw
import Derived.Test.YtahlfndlkfoikaaDoorKR0
namespace Go.Proofs.YtahlfndlkfoikaaDoor
open Go Go.RowKit Go.ChangeShapes Go.WideShapes
theorem chainAll_tab {W : World} (h : laidMetH Tryd.prog Rows.chainAllRow.laid W) : Tab64 W := by
  rw [MakeChecks.laidMetH_plain _ _ _ (by kernel_rfl)] at h
  exact tab_of_laid (L := Rows.chainAllRow.laid) (n := "math/bits.deBruijn64tab") (tab := Lib.deBruijn64tab) (g := 0) (T := 112) (te := 5) (len := 64) h (List.mem_cons_of_mem _ (List.mem_cons_self ..)) (by kernel_rfl) (by kernel_rfl) Tryd.underlying112 Tryd.underlying5 cells_u8
theorem chainAll_tabP {W : World} (h : laidMetH Tryd.prog Rows.chainAllRow.laid W) : TabP W := by
  rw [MakeChecks.laidMetH_plain _ _ _ (by kernel_rfl)] at h
  exact tabIs_of_laid (L := Rows.chainAllRow.laid) (n := "internal/strconv.uint64pow10") (k := .u64) (vals := Lib.pow10Tab) (g := 1) (T := 152) (te := 31) (len := 20) h (List.mem_cons_of_mem _ (List.mem_cons_of_mem _ (List.mem_cons_self ..))) (by kernel_rfl) (by kernel_rfl) Tryd.underlying152 Tryd.underlying31 (by kernel_rfl) (by kernel_rfl)
theorem chainAll_wok {W : World} (h : laidMetH Tryd.prog Rows.chainAllRow.laid W) : WOk W := ⟨chainAll_tab h, tab64_lt (chainAll_tab h), chainAll_tabP h⟩
theorem chainAll_door (os : Os) (args : Array Value) : laidMetH Tryd.prog Rows.chainAllRow.laid ((World.doorLaid Tryd.prog 400 os).forCall (fun _ _ => 0) ⟨#[], args, []⟩).memory :=
  laidMetH_of_parts3 (fuel := 8) (laidMet_of_run' 8 (by kernel_rfl) (by kernel_rfl)) (by kernel_rfl) (by kernel_rfl)
set_option maxRecDepth 100000 in
theorem chainAll_walk {H : Type} {enc : TypeId × Value → H} (W : World) (base : Nat) (args : Array Value) (ds : List (DataW H)) (p : List MemPlace) (hL : laidMetH Tryd.prog Rows.chainAllRow.laid W)
    (hval : ∀ (j : Nat) t v, Tryd.f8.params[j]? = some t → args[j]? = some v → Value.okWide Tryd.prog W .any base t v)
    (hA : DataW.TrodAll enc Tryd.prog W 0 (fun _ => true) true Tryd.f8.params.toList args.toList ds p)
    (hw : ∀ (j : Nat) t d, Tryd.f8.params.toList[j]? = some t → ds[j]? = some d → ∀ m ∈ d.weights Tryd.prog t, m ≤ reachBytes) :
    Calls Tryd.prog 8 args W fun e W' => e = .returned (.bool true) ∧ Below W.heap.size W W' := by
  rw [Tryd.params8] at hA hval hw
  obtain ⟨v0, v1, v2, d0, d1, d2, p0, p1, p2, rfl, rfl, rfl, h0, h1, h2⟩ := trodAll_three hA
  obtain ⟨_, pl, vl, hv, hpl, hs⟩ := opens_arg opens_plan h0 (hw 0 26 d0 rfl rfl)
  obtain ⟨_, key, e1, hkey⟩ := opens_arg opens_byteC h1 (hw 1 5 d1 rfl rfl)
  obtain ⟨_, other, e2, hother⟩ := opens_arg opens_byteC h2 (hw 2 5 d2 rfl rfl)
  have a0 := agg_of_cells Tryd.underlying26 (hval 0 26 v0 rfl rfl) hv
  rw [Array.toArray_toList] at a0
  have a1 := int_of_cells Tryd.underlying5 (hval 1 5 v1 rfl rfl) e1
  have a2 := int_of_cells Tryd.underlying5 (hval 2 5 v2 rfl rfl) e2
  subst a0; subst a1; subst a2
  exact law_all pl hpl vl key hkey other hother W _ (fun b h => h) hs (chainAll_wok hL)
set_option maxRecDepth 100000 in
theorem chainAll_lifted (os : Os) (started : os.Started) (H : Type) (enc : TypeId × Value → H) :
    ReturnsInHanded {} Tryd.checked os 8 .any (fun w args => (Rows.chainAllSpec.pre enc Tryd.prog Tryd.f8 [] false w args ∧ laidMetH Tryd.prog Rows.chainAllRow.laid w) ∧ sizedMet enc Tryd.prog Tryd.f8 (OpenSpec.ofChange Rows.chainAllSpec) false w args)
      (Rows.chainAllSpec.post enc Tryd.prog Tryd.f8 false true false false) :=
  law_lifted_laid (C := Tryd.checked) own started (by kernel_rfl) Tryd.func8
    (ChangeSpec.witness_shaped (enc := enc) (C := Tryd.checked) (os := os) (X := fun w _ => laidMetH Tryd.prog Rows.chainAllRow.laid w) false (World.doorLaid Tryd.prog 400 os) #[.agg #[.int .u8 0, .int .u8 0, .int .u8 0, .int .u8 0, .int .u8 0, .int .u8 0, .int .u8 0, .slice none 0 0, .int .u8 0], .int .u8 0, .int .u8 0] 8 rfl (World.shaped_of_RefB (by kernel_rfl) (by kernel_rfl)) (by kernel_rfl) (by kernel_rfl) (by kernel_rfl) (chainAll_door os _))
    rfl (by kernel_rfl) Tryd.underlying4 laidOut
    (fun t ht => by
      have ht' : t ∈ [26, 5, 5] := ht
      simp only [List.mem_cons, List.not_mem_nil, or_false] at ht'
      rcases ht' with rfl | rfl | rfl
      all_goals exact ⟨by kernel_rfl, of_decide_eq_true (by kernel_rfl)⟩)
    (fun ds hds => by
      have hds' : ds.length = 3 := hds
      match ds, hds' with
      | [_, _, _], _ => rfl)
    chainAll_walk
theorem chainAll_row : Rows.ChainAllSaid :=
  OpenClaim.holds_of_wide 8 Tryd.f8 rfl rfl rfl rfl rfl rfl rfl ⟨rfl, rfl, rfl, rfl, rfl⟩ rfl rfl rfl rfl rfl (by kernel_rfl) Tryd.func8 (by kernel_rfl)
    (of_decide_eq_true (by kernel_rfl)) (by unfold Func.isWrapper; first | (rw [if_pos (by decide +kernel)]; kernel_rfl) | (rw [if_neg (by decide +kernel)]; exact ⟨rfl, rfl⟩))
    (fun os started H enc _ => chainAll_lifted os started H enc)
theorem chainAll_holds : Rows.ChainAllCardSaid :=
  Claim7.holds_tied_plain_at .later [] [.data, .data, .data] true Rows.chainAllCard.stood.harness false
    chainAll_row (fun _ h => by cases h) (by kernel_rfl) (fun _ h => by cases h) chainAll_row_tie rfl ⟨rfl, rfl⟩ (by kernel_rfl) rfl
    (fun f fn hf hfn => by
      obtain rfl : f = 8 := Option.some.inj ((show Tryd.prog.funcNamed "bombarde/bombardelaw24.ChainAll" = some 8 by kernel_rfl).symm.trans hf) |>.symm
      obtain rfl : fn = Tryd.f8 := (Option.some.inj (Tryd.func8.symm.trans hfn)).symm
      exact ⟨by kernel_rfl, fun j t ht => by
        rw [Tryd.params8] at ht
        have hm : t ∈ [26, 5, 5] := by simpa using Array.mem_of_getElem? ht
        have hall : ([26, 5, 5].all fun u => !Tryd.prog.wantsStandIn u) = true := by kernel_rfl
        exact (show Tryd.prog.wantsStandIn t = false by simpa using List.all_eq_true.1 hall t hm)⟩)
    (by kernel_rfl)
#print axioms chainAll_holds
end Go.Proofs.YtahlfndlkfoikaaDoor
