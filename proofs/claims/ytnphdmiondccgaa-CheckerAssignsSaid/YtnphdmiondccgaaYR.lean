/- The statement CheckerAssigns: for every input the call returns true, and the arguments read as they did. -/
import Derived.Test.YtnphdmiondccgaaYl
import Derived.Test.YtnphdmiondccgaaOpen
namespace Go.Proofs.Ytnphdmiondccgaa
open Go Go.RowKit Go.ChangeShapes Go.WideShapes
theorem own : ownKnob Try.prog.godebug = none := by kernel_rfl
theorem laidOut : laidOutB Try.prog = true := by kernel_rfl
theorem cells_u8 : Try.prog.cellsOf 5 = 1 := by kernel_rfl
theorem bytes_u8 : Try.prog.bytesOf 5 = 1 := by kernel_rfl
theorem cells_int : Try.prog.cellsOf 3 = 1 := by kernel_rfl
theorem bytes_int : Try.prog.bytesOf 3 = 8 := by kernel_rfl
/-- A cell that is a number of a kind; a cell that is a byte. -/
def UCell (k : IntKind) (_ : World) (cs : List Value) (x : Nat) : Prop := cs = [.int k (x : Int)]
def ByteU (w : World) (cs : List Value) (x : Nat) : Prop := UCell .u8 w cs x ∧ x < 256
theorem agg_of_cells {v : Value} {t : TypeId} {P : Program} {W : World} {base : Nat} {fs : Array Field} (ht : P.underlying t = some (.struct fs)) (h : Value.okWide P W .any base t v) {l : List Value} (hl : v.cells.toList = l) : v = .agg l.toArray := by
  simp only [Value.okWide, ht] at h
  obtain ⟨cs, rfl, _⟩ := h
  subst hl
  rfl
theorem slice_of_cells {v : Value} {t e : TypeId} {P : Program} {W : World} {base : Nat} (ht : P.underlying t = some (.slice e)) (h : Value.okWide P W .any base t v) {u : Value} (hl : v.cells.toList = [u]) : v = u := by
  simp only [Value.okWide, ht] at h
  cases v <;> simp_all [Value.cells, Cell.okWide, Cell.ok]
section
variable {H : Type} {enc : TypeId × Value → H} {w : World}
theorem opens_byteU : Opens enc Try.prog w 5 1 ByteU := fun n cs x h1 h2 => by
  obtain ⟨q, y, hc, hy⟩ := opens_int Try.underlying5 n cs x h1 h2
  have hb := bounds_u8 hy
  refine ⟨q, y.toNat, ?_, by omega⟩
  show cs = _
  rw [hc, Int.toNat_of_nonneg hb.1]
theorem opens_ints : Opens enc Try.prog w 26 1 (AnySl 1 IntC) := opens_slice Try.underlying26 cells_int (by rw [bytes_int]; decide) (by decide) ((opens_int Try.underlying3).mono fun cs y h => h.1)
theorem cells_ints : Try.prog.cellsOf 26 = 1 := by kernel_rfl
theorem bytes_ints : Try.prog.bytesOf 26 = 24 := by kernel_rfl
theorem opens_lists : Opens enc Try.prog w 22 1 (AnySl 1 (SlC fun b => b < w.heap.size)) := opens_slice Try.underlying22 cells_ints (by rw [bytes_ints]; decide) (by decide) opens_ints
end
theorem cells_bend : Try.prog.cellsOf 24 = 4 := by kernel_rfl
set_option maxRecDepth 100000 in
theorem opens_bend {H : Type} {enc : TypeId × Value → H} {w : World} : Opens enc Try.prog w 24 4 (fun _ cs (y : Nat × Nat × Int × Nat) => cs = [.int .u8 (y.1 : Int), .int .u8 (y.2.1 : Int), .int .i64 y.2.2.1, .int .u8 (y.2.2.2 : Int)] ∧ y.1 < 256 ∧ y.2.1 < 256 ∧ y.2.2.2 < 256) := fun n cs x h1 h2 => by
  obtain ⟨hl, hf⟩ := opens_struct Try.underlying24 h1 h2
  rw [cells_bend] at hl
  match cs, hl with
  | [a, b, c, d], _ =>
    obtain ⟨k, hk, hk2⟩ := hf 0 _ _ _ rfl opens_byteU
    obtain ⟨l, hl, hl2⟩ := hf 1 _ _ _ rfl opens_byteU
    obtain ⟨m, hm, _⟩ := hf 2 _ _ _ rfl (opens_int Try.underlying3)
    obtain ⟨o, ho, ho2⟩ := hf 3 _ _ _ rfl opens_byteU
    simp [cells_u8, cells_int, UCell] at hk hl hm ho
    subst hk; subst hl; subst hm; subst ho
    exact ⟨rfl, (k, l, m, o), rfl, hk2, hl2, ho2⟩
set_option maxRecDepth 100000 in
theorem asg_walk {H : Type} {enc : TypeId × Value → H} (W : World) (base : Nat) (args : Array Value) (ds : List (DataW H)) (p : List MemPlace)
    (hval : ∀ (j : Nat) t v, Try.f3.params[j]? = some t → args[j]? = some v → Value.okWide Try.prog W .any base t v)
    (hA : DataW.TrodAll enc Try.prog W 0 (fun _ => true) true Try.f3.params.toList args.toList ds p)
    (hw : ∀ (j : Nat) t d, Try.f3.params.toList[j]? = some t → ds[j]? = some d → ∀ m ∈ d.weights Try.prog t, m ≤ reachBytes) :
    Calls Try.prog 3 args W fun e W' => e = .returned (.bool true) ∧ Below W.heap.size W W' := by
  rw [Try.params3] at hA hval hw
  obtain ⟨v0, v1, d0, d1, p0, p1, rfl, rfl, rfl, h0, h1⟩ := trodAll_two hA
  obtain ⟨_, costs, vs, e0, hs⟩ := opens_arg opens_lists h0 (hw 0 22 d0 rfl rfl)
  obtain ⟨_, ⟨kd, at_, by_, sz⟩, e1, hkd, hat, -⟩ := opens_arg opens_bend h1 (hw 1 24 d1 rfl rfl)
  have a0 := slice_of_cells Try.underlying22 (hval 0 22 v0 rfl rfl) e0
  have a1 := agg_of_cells Try.underlying24 (hval 1 24 v1 rfl rfl) e1
  subst a0; subst a1
  obtain ⟨A, c, rfl, -, -, -⟩ := SlII.open hs
  exact law_assigns A c costs.length costs rfl kd at_ sz by_ hkd hat W hs
set_option maxRecDepth 100000 in
theorem asg_lifted (os : Os) (started : os.Started) (H : Type) (enc : TypeId × Value → H) :
    ReturnsInHanded {} Try.checked os 3 .any (Rows.checkerAssignsSpec.pre6 enc Try.prog Try.f3 Rows.checkerAssignsRow.domain false) (Rows.checkerAssignsSpec.post enc Try.prog Try.f3 false true false false) :=
  law_lifted (C := Try.checked) own started (by kernel_rfl) Try.func3
    (ChangeSpec.witness6 (enc := enc) (C := Try.checked) false ⟨#[], #[.slice none 0 0, .agg #[.int .u8 0, .int .u8 0, .int .i64 0, .int .u8 0]], []⟩ 8 (by kernel_rfl) (by kernel_rfl) (by kernel_rfl) (by kernel_rfl))
    rfl (by kernel_rfl) Try.underlying4 laidOut
    (fun t ht => by
      have ht' : t ∈ [22, 24] := ht
      simp only [List.mem_cons, List.not_mem_nil, or_false] at ht'
      rcases ht' with rfl | rfl
      all_goals exact ⟨by kernel_rfl, of_decide_eq_true (by kernel_rfl)⟩)
    (fun ds hds => by
      have hds' : ds.length = 2 := hds
      match ds, hds' with
      | [_, _], _ => rfl)
    asg_walk
theorem checkerAssigns_holds : Rows.CheckerAssignsSaid :=
  OpenClaim.holds_of_wide 3 Try.f3 rfl rfl rfl rfl rfl rfl rfl ⟨rfl, rfl, rfl, rfl, rfl⟩ rfl rfl rfl rfl rfl (by kernel_rfl) Try.func3 (by kernel_rfl)
    (of_decide_eq_true (by kernel_rfl)) (by unfold Func.isWrapper; first | (rw [if_pos (by decide +kernel)]; kernel_rfl) | (rw [if_neg (by decide +kernel)]; exact ⟨rfl, rfl⟩))
    (fun os started H enc _ => asg_lifted os started H enc)
#print axioms checkerAssigns_holds
end Go.Proofs.Ytnphdmiondccgaa
