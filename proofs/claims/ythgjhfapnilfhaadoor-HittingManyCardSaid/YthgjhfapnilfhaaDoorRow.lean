/- Words for the rows of the statements of hitting: a plan, a list, a byte that came in. Words for the rows: an integer that came in. -/
import Derived.Test.YthgjhfapnilfhaaDoorHM
import Derived.Test.YthgjhfapnilfhaaDoorOpen
import Derived.Test.YthgjhfapnilfhaaDoorCards
import Derived.Test.YthgjhfapnilfhaaDoorTie
namespace Go.Proofs.YthgjhfapnilfhaaDoor
open Go Go.RowKit Go.ChangeShapes Go.WideShapes
theorem own : ownKnob Tryd.prog.godebug = none := by kernel_rfl
theorem laidOut : laidOutB Tryd.prog = true := by kernel_rfl
theorem cells_u8 : Tryd.prog.cellsOf 5 = 1 := by kernel_rfl
theorem bytes_u8 : Tryd.prog.bytesOf 5 = 1 := by kernel_rfl
theorem cells_bs : Tryd.prog.cellsOf 22 = 1 := by kernel_rfl
theorem cells_int : Tryd.prog.cellsOf 3 = 1 := by kernel_rfl
theorem bytes_int : Tryd.prog.bytesOf 3 = 8 := by kernel_rfl
theorem cells_plan : Tryd.prog.cellsOf 24 = 2 := by kernel_rfl
/-- A cell that is a byte. -/
def ByteU (w : World) (cs : List Value) (x : Nat) : Prop := UCell .u8 w cs x ∧ x < 256
theorem agg_of_cells {v : Value} {t : TypeId} {P : Program} {W : World} {base : Nat} {fs : Array Field} (ht : P.underlying t = some (.struct fs)) (h : Value.okWide P W .any base t v) {l : List Value} (hl : v.cells.toList = l) : v = .agg l.toArray := by
  simp only [Value.okWide, ht] at h
  obtain ⟨cs, rfl, _⟩ := h
  subst hl
  rfl
theorem slice_of_cells {v : Value} {t e : TypeId} {P : Program} {W : World} {base : Nat} (ht : P.underlying t = some (.slice e)) (h : Value.okWide P W .any base t v) {u : Value} (hl : v.cells.toList = [u]) : v = u := by
  simp only [Value.okWide, ht] at h
  cases v <;> simp_all [Value.cells, Cell.okWide, Cell.ok]
section
variable {H : Type} {enc : TypeId × Value → H} {w : World}
theorem opens_byteU : Opens enc Tryd.prog w 5 1 ByteU := fun n cs x h1 h2 => by
  obtain ⟨q, y, hc, hy⟩ := opens_int Tryd.underlying5 n cs x h1 h2
  have hb := bounds_u8 hy
  refine ⟨q, y.toNat, ?_, by omega⟩
  show cs = _
  rw [hc, Int.toNat_of_nonneg hb.1]
theorem opens_bytesU : Opens enc Tryd.prog w 22 1 (AnySl 1 ByteU) := opens_slice Tryd.underlying22 cells_u8 (by rw [bytes_u8]; decide) (by decide) opens_byteU
theorem opens_ints : Opens enc Tryd.prog w 37 1 (AnySl 1 IntC) := opens_slice Tryd.underlying37 cells_int (by rw [bytes_int]; decide) (by decide) ((opens_int Tryd.underlying3).mono fun cs y h => h.1)
set_option maxRecDepth 100000 in
theorem opens_plan : Opens enc Tryd.prog w 24 2 (fun w cs (y : Nat × List Nat) => ∃ v, cs = [.int .u8 (y.1 : Int), v] ∧ y.1 < 256 ∧ Sl (fun b => b < w.heap.size) 1 ByteU w v y.2) := fun n cs x h1 h2 => by
  obtain ⟨hl, hf⟩ := opens_struct Tryd.underlying24 h1 h2
  rw [cells_plan] at hl
  match cs, hl with
  | [a, b], _ =>
    obtain ⟨k, hk, hk2⟩ := hf 0 _ _ _ rfl opens_byteU
    obtain ⟨l, v, hv, hs⟩ := hf 1 _ _ _ rfl opens_bytesU
    simp [cells_u8, cells_bs, UCell] at hk hv
    subst hk; subst hv
    exact ⟨rfl, (k, l), _, rfl, hk2, hs⟩
theorem cells_ints : Tryd.prog.cellsOf 37 = 1 := by kernel_rfl
theorem bytes_ints : Tryd.prog.bytesOf 37 = 24 := by kernel_rfl
theorem cells_lists : Tryd.prog.cellsOf 28 = 1 := by kernel_rfl
theorem cells_problem : Tryd.prog.cellsOf 30 = 2 := by kernel_rfl
theorem opens_lists : Opens enc Tryd.prog w 28 1 (AnySl 1 (SlC fun b => b < w.heap.size)) := opens_slice Tryd.underlying28 cells_ints (by rw [bytes_ints]; decide) (by decide) opens_ints
set_option maxRecDepth 100000 in
theorem opens_problem : Opens enc Tryd.prog w 30 2 (fun w cs (y : Int × List (List Int)) => ∃ v, cs = [.int .i64 y.1, v] ∧ SlII (fun b => b < w.heap.size) w v y.2) := fun n cs x h1 h2 => by
  obtain ⟨hl, hf⟩ := opens_struct Tryd.underlying30 h1 h2
  rw [cells_problem] at hl
  match cs, hl with
  | [a, b], _ =>
    obtain ⟨k, hk, _⟩ := hf 0 _ _ _ rfl (opens_int Tryd.underlying3)
    obtain ⟨l, v, hv, hs⟩ := hf 1 _ _ _ rfl opens_lists
    simp [cells_int, cells_lists] at hk hv
    subst hk; subst hv
    exact ⟨rfl, (k, l), _, rfl, hs⟩
end
theorem bytes_all {F : Nat → Prop} {w : World} {v : Value} {l : List Nat} (h : Sl F 1 ByteU w v l) : SlU .u8 F w v l ∧ ∀ s ∈ l, s < 256 := by
  refine ⟨Sl.monoR h fun cs x hx => hx.1, fun s hs => ?_⟩
  obtain ⟨i, hi, rfl⟩ := List.getElem_of_mem hs
  obtain ⟨A, c, _, _, _, hat⟩ := h
  obtain ⟨_, _, _, _, _, hr, _⟩ := hat i hi
  exact hr.2
end Go.Proofs.YthgjhfapnilfhaaDoor
namespace Go.Proofs.YthgjhfapnilfhaaDoor
open Go Go.RowKit Go.ChangeShapes Go.WideShapes
theorem int_of_cells {v : Value} {t : TypeId} {k : IntKind} {P : Program} {W : World} {base : Nat} (ht : P.underlying t = some (.int k)) (h : Value.okWide P W .any base t v) {u : Value} (hl : v.cells.toList = [u]) : v = u := by
  simp only [Value.okWide, ht] at h
  cases v <;> simp_all [Value.cells, Cell.okWide, Cell.ok]
end Go.Proofs.YthgjhfapnilfhaaDoor
