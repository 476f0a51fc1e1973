/- The statement HittingHits: for every input the call returns true, and the arguments read as they did, where the listed tables lie as the program's text lays them. -/
import Derived.Test.YtdgnpcmaipnfhaaDoorHL
import Derived.Test.YtdgnpcmaipnfhaaDoorLaid
import Derived.Test.YtdgnpcmaipnfhaaDoorCards
import Derived.Test.YtdgnpcmaipnfhaaDoorTie
namespace Go.Proofs.YtdgnpcmaipnfhaaDoor
open Go Go.RowKit Go.ChangeShapes Go.WideShapes
theorem own : ownKnob Tryd.prog.godebug = none := by kernel_rfl
theorem laidOut : laidOutB Tryd.prog = true := by kernel_rfl
theorem cells_u8 : Tryd.prog.cellsOf 5 = 1 := by kernel_rfl
theorem bytes_u8 : Tryd.prog.bytesOf 5 = 1 := by kernel_rfl
theorem cells_bs : Tryd.prog.cellsOf 22 = 1 := by kernel_rfl
theorem cells_int : Tryd.prog.cellsOf 3 = 1 := by kernel_rfl
theorem bytes_int : Tryd.prog.bytesOf 3 = 8 := by kernel_rfl
theorem cells_plan : Tryd.prog.cellsOf 24 = 2 := by kernel_rfl
/-- A cell that is a byte. -/
def ByteU (w : World) (cs : List Value) (x : Nat) : Prop := UCell .u8 w cs x ∧ x < 256
theorem agg_of_cells {v : Value} {t : TypeId} {P : Program} {W : World} {base : Nat} {fs : Array Field} (ht : P.underlying t = some (.struct fs)) (h : Value.okWide P W .any base t v) {l : List Value} (hl : v.cells.toList = l) : v = .agg l.toArray := by
  simp only [Value.okWide, ht] at h
  obtain ⟨cs, rfl, _⟩ := h
  subst hl
  rfl
theorem slice_of_cells {v : Value} {t e : TypeId} {P : Program} {W : World} {base : Nat} (ht : P.underlying t = some (.slice e)) (h : Value.okWide P W .any base t v) {u : Value} (hl : v.cells.toList = [u]) : v = u := by
  simp only [Value.okWide, ht] at h
  cases v <;> simp_all [Value.cells, Cell.okWide, Cell.ok]
section
variable {H : Type} {enc : TypeId × Value → H} {w : World}
theorem opens_byteU : Opens enc Tryd.prog w 5 1 ByteU := fun n cs x h1 h2 => by
  obtain ⟨q, y, hc, hy⟩ := opens_int Tryd.underlying5 n cs x h1 h2
  have hb := bounds_u8 hy
  refine ⟨q, y.toNat, ?_, by omega⟩
  show cs = _
  rw [hc, Int.toNat_of_nonneg hb.1]
theorem opens_bytesU : Opens enc Tryd.prog w 22 1 (AnySl 1 ByteU) := opens_slice Tryd.underlying22 cells_u8 (by rw [bytes_u8]; decide) (by decide) opens_byteU
theorem opens_ints : Opens enc Tryd.prog w 25 1 (AnySl 1 IntC) := opens_slice Tryd.underlying25 cells_int (by rw [bytes_int]; decide) (by decide) ((opens_int Tryd.underlying3).mono fun cs y h => h.1)
theorem opens_plan : Opens enc Tryd.prog w 24 2 (fun w cs (y : Nat × List Nat) => ∃ v, cs = [.int .u8 (y.1 : Int), v] ∧ y.1 < 256 ∧ Sl (fun b => b < w.heap.size) 1 ByteU w v y.2) := fun n cs x h1 h2 => by
  obtain ⟨hl, hf⟩ := opens_struct Tryd.underlying24 h1 h2
  rw [cells_plan] at hl
  match cs, hl with
  | [a, b], _ =>
    obtain ⟨k, hk, hk2⟩ := hf 0 _ _ _ rfl opens_byteU
    obtain ⟨l, v, hv, hs⟩ := hf 1 _ _ _ rfl opens_bytesU
    simp [cells_u8, cells_bs, UCell] at hk hv
    subst hk; subst hv
    exact ⟨rfl, (k, l), _, rfl, hk2, hs⟩
end
theorem bytes_all {F : Nat → Prop} {w : World} {v : Value} {l : List Nat} (h : Sl F 1 ByteU w v l) : SlU .u8 F w v l ∧ ∀ s ∈ l, s < 256 := by
  refine ⟨Sl.monoR h fun cs x hx => hx.1, fun s hs => ?_⟩
  obtain ⟨i, hi, rfl⟩ := List.getElem_of_mem hs
  obtain ⟨A, c, _, _, _, hat⟩ := h
  obtain ⟨_, _, _, _, _, hr, _⟩ := hat i hi
  exact hr.2
theorem tab_laid {W : World} (h : laidMetH Tryd.prog Rows.hittingHitsRow.laid W) : Tab32 W := by
  rw [MakeChecks.laidMetH_plain _ _ _ (by kernel_rfl)] at h
  exact tab_of_laid (L := Rows.hittingHitsRow.laid) (n := "math/bits.deBruijn32tab") (tab := Lib.deBruijn32tab) (g := 0) (T := 80) (te := 5) (len := 32) h (List.mem_cons_self ..) (by kernel_rfl) (by kernel_rfl) Tryd.underlying80 Tryd.underlying5 cells_u8
theorem door_met (os : Os) (args : Array Value) : laidMetH Tryd.prog Rows.hittingHitsRow.laid ((World.doorLaid Tryd.prog 400 os).forCall (fun _ _ => 0) ⟨#[], args, []⟩).memory :=
  laidMetH_of_parts3 (fuel := 8) (laidMet_of_run' 8 (by kernel_rfl) (by kernel_rfl)) (by kernel_rfl) (by kernel_rfl)
theorem hits_walk {H : Type} {enc : TypeId × Value → H} (W : World) (base : Nat) (args : Array Value) (ds : List (DataW H)) (p : List MemPlace) (hL : laidMetH Tryd.prog Rows.hittingHitsRow.laid W)
    (hval : ∀ (j : Nat) t v, Tryd.f3.params[j]? = some t → args[j]? = some v → Value.okWide Tryd.prog W .any base t v)
    (hA : DataW.TrodAll enc Tryd.prog W 0 (fun _ => true) true Tryd.f3.params.toList args.toList ds p)
    (hw : ∀ (j : Nat) t d, Tryd.f3.params.toList[j]? = some t → ds[j]? = some d → ∀ m ∈ d.weights Tryd.prog t, m ≤ reachBytes) :
    Calls Tryd.prog 3 args W fun e W' => e = .returned (.bool true) ∧ Below W.heap.size W W' := by
  rw [Tryd.params3] at hA hval hw
  obtain ⟨v0, v1, d0, d1, p0, p1, rfl, rfl, rfl, h0, h1⟩ := trodAll_two hA
  obtain ⟨_, ⟨N, sets⟩, vs, e0, hN, hs⟩ := opens_arg opens_plan h0 (hw 0 24 d0 rfl rfl)
  obtain ⟨_, l, vl, e1, hl⟩ := opens_arg opens_ints h1 (hw 1 25 d1 rfl rfl)
  have a0 := agg_of_cells Tryd.underlying24 (hval 0 24 v0 rfl rfl) e0
  have a1 := slice_of_cells Tryd.underlying25 (hval 1 25 v1 rfl rfl) e1
  subst a0; subst a1
  obtain ⟨q1, q2⟩ := bytes_all hs
  exact law_hits N hN vs _ sets q2 l W _ _ (fun b h => h) (fun b h => h) q1 hl (tab_laid hL)
set_option maxRecDepth 100000 in
theorem hits_lifted (os : Os) (started : os.Started) (H : Type) (enc : TypeId × Value → H) :
    ReturnsInHanded {} Tryd.checked os 3 .any (fun w args => (Rows.hittingHitsSpec.pre enc Tryd.prog Tryd.f3 [] false w args ∧ laidMetH Tryd.prog Rows.hittingHitsRow.laid w) ∧ sizedMet enc Tryd.prog Tryd.f3 (OpenSpec.ofChange Rows.hittingHitsSpec) false w args)
      (Rows.hittingHitsSpec.post enc Tryd.prog Tryd.f3 false true false false) :=
  law_lifted_laid (C := Tryd.checked) own started (by kernel_rfl) Tryd.func3
    (ChangeSpec.witness_shaped (enc := enc) (C := Tryd.checked) (os := os) (X := fun w _ => laidMetH Tryd.prog Rows.hittingHitsRow.laid w) false (World.doorLaid Tryd.prog 400 os) #[.agg #[.int .u8 0, .slice none 0 0], .slice none 0 0] 8 rfl (World.shaped_of_RefB (by kernel_rfl) (by kernel_rfl)) (by kernel_rfl) (by kernel_rfl) (by kernel_rfl) (door_met os _))
    rfl (by kernel_rfl) Tryd.underlying4 laidOut
    (fun t ht => by
      have ht' : t ∈ [24, 25] := ht
      simp only [List.mem_cons, List.not_mem_nil, or_false] at ht'
      rcases ht' with rfl | rfl
      · exact ⟨by kernel_rfl, of_decide_eq_true (by kernel_rfl)⟩
      · exact ⟨by kernel_rfl, of_decide_eq_true (by kernel_rfl)⟩)
    (fun ds hds => by
      have hds' : ds.length = 2 := hds
      match ds, hds' with
      | [d0, d1], _ => rfl)
    hits_walk
theorem hittingHits_row : Rows.HittingHitsSaid :=
  OpenClaim.holds_of_wide 3 Tryd.f3 rfl rfl rfl rfl rfl rfl rfl ⟨rfl, rfl, rfl, rfl, rfl⟩ rfl rfl rfl rfl rfl (by kernel_rfl) Tryd.func3 (by kernel_rfl)
    (of_decide_eq_true (by kernel_rfl)) (by unfold Func.isWrapper; first | (rw [if_pos (by decide +kernel)]; kernel_rfl) | (rw [if_neg (by decide +kernel)]; exact ⟨rfl, rfl⟩))
    (fun os started H enc _ => hits_lifted os started H enc)
theorem hittingHits_holds : Rows.HittingHitsCardSaid :=
  Claim7.holds_tied_plain_at .later [] [.data, .data, .data] true Rows.hittingHitsCard.stood.harness false
    hittingHits_row (fun _ h => by cases h) (by kernel_rfl) (fun _ h => by cases h) hittingHits_row_tie rfl ⟨rfl, rfl⟩ (by kernel_rfl) rfl
    (fun f fn hf hfn => by
      obtain rfl : f = 3 := Option.some.inj ((show Tryd.prog.funcNamed "bombarde/bombardelaw09.HittingHits" = some 3 by kernel_rfl).symm.trans hf) |>.symm
      obtain rfl : fn = Tryd.f3 := (Option.some.inj (Tryd.func3.symm.trans hfn)).symm
      exact ⟨by kernel_rfl, fun j t ht => by
        rw [Tryd.params3] at ht
        have hm : t ∈ [24, 25] := by simpa using Array.mem_of_getElem? ht
        have hall : ([24, 25].all fun u => !Tryd.prog.wantsStandIn u) = true := by kernel_rfl
        exact (show Tryd.prog.wantsStandIn t = false by simpa using List.all_eq_true.1 hall t hm)⟩)
    (by kernel_rfl)
#print axioms hittingHits_holds
end Go.Proofs.YtdgnpcmaipnfhaaDoor
