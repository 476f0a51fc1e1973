/- Words for the rows of the statements of chains: a chain, a contact, an action, a byte that came in. -/
import Derived.Test.YtahlfndlkfoikaaDoorFc
import Derived.Test.YtahlfndlkfoikaaDoorOpen
import Derived.Test.YtahlfndlkfoikaaDoorCards
import Derived.Test.YtahlfndlkfoikaaDoorTie
namespace Go.Proofs.YtahlfndlkfoikaaDoor
open Go Go.RowKit Go.ChangeShapes Go.WideShapes
theorem own : ownKnob Tryd.prog.godebug = none := by kernel_rfl
theorem laidOut : laidOutB Tryd.prog = true := by kernel_rfl
theorem cells_u8 : Tryd.prog.cellsOf 5 = 1 := by kernel_rfl
theorem cells_i8 : Tryd.prog.cellsOf 82 = 1 := by kernel_rfl
theorem cells_bool : Tryd.prog.cellsOf 4 = 1 := by kernel_rfl
theorem cells_int : Tryd.prog.cellsOf 3 = 1 := by kernel_rfl
theorem cells_ct : Tryd.prog.cellsOf 36 = 2 := by kernel_rfl
theorem agg_of_cells {v : Value} {t : TypeId} {P : Program} {W : World} {base : Nat} {fs : Array Field} (ht : P.underlying t = some (.struct fs)) (h : Value.okWide P W .any base t v) {l : List Value} (hl : v.cells.toList = l) : v = .agg l.toArray := by
  simp only [Value.okWide, ht] at h
  obtain ⟨cs, rfl, _⟩ := h
  subst hl
  rfl
theorem slice_of_cells {v : Value} {t e : TypeId} {P : Program} {W : World} {base : Nat} (ht : P.underlying t = some (.slice e)) (h : Value.okWide P W .any base t v) {u : Value} (hl : v.cells.toList = [u]) : v = u := by
  simp only [Value.okWide, ht] at h
  cases v <;> simp_all [Value.cells, Cell.okWide, Cell.ok]
theorem int_of_cells {v : Value} {t : TypeId} {k : IntKind} {P : Program} {W : World} {base : Nat} (ht : P.underlying t = some (.int k)) (h : Value.okWide P W .any base t v) {u : Value} (hl : v.cells.toList = [u]) : v = u := by
  simp only [Value.okWide, ht] at h
  cases v <;> simp_all [Value.cells, Cell.okWide, Cell.ok]
theorem bytes_int : Tryd.prog.bytesOf 3 = 8 := by kernel_rfl
theorem cells_ints : Tryd.prog.cellsOf 27 = 1 := by kernel_rfl
theorem cells_chain : Tryd.prog.cellsOf 56 = 3 := by kernel_rfl
section
variable {H : Type} {enc : TypeId × Value → H} {w : World}
theorem opens_ints : Opens enc Tryd.prog w 27 1 (AnySl 1 IntC) := opens_slice Tryd.underlying27 cells_int (by rw [bytes_int]; decide) (by decide) ((opens_int Tryd.underlying3).mono fun cs y h => h.1)
set_option maxRecDepth 100000 in
theorem opens_ct : Opens enc Tryd.prog w 36 2 (fun _ cs (y : Cou.Ct) => cs = [.int .i64 y.1, .int .i64 y.2] ∧ (Lit.int .i64 y.1).wf = true ∧ (Lit.int .i64 y.2).wf = true) := fun n cs x h1 h2 => by
  obtain ⟨hl, hf⟩ := opens_struct Tryd.underlying36 h1 h2
  rw [cells_ct] at hl
  match cs, hl with
  | [a, b], _ =>
    obtain ⟨k, hk, hk2⟩ := hf 0 _ _ _ rfl (opens_int Tryd.underlying3)
    obtain ⟨l, hl, hl2⟩ := hf 1 _ _ _ rfl (opens_int Tryd.underlying3)
    simp [cells_int] at hk hl
    subst hk; subst hl
    exact ⟨rfl, (k, l), rfl, hk2, hl2⟩
set_option maxRecDepth 100000 in
theorem opens_chain : Opens enc Tryd.prog w 56 3 (fun w cs (y : List Int × (Int × Int)) => ∃ v, cs = [v, .int .i64 y.2.1, .int .i64 y.2.2] ∧ SlI (fun b => b < w.heap.size) w v y.1) := fun n cs x h1 h2 => by
  obtain ⟨hl, hf⟩ := opens_struct Tryd.underlying56 h1 h2
  rw [cells_chain] at hl
  match cs, hl with
  | [a, b, c], _ =>
    obtain ⟨l, v, hv, hs⟩ := hf 0 _ _ _ rfl opens_ints
    obtain ⟨k, hk, _⟩ := hf 1 _ _ _ rfl opens_ct
    simp [cells_ints, cells_ct] at hv hk
    subst hv
    obtain ⟨rfl, rfl⟩ := hk
    exact ⟨rfl, (l, k), _, rfl, hs⟩
end
theorem tab64_lt {w : World} (h : Tab64 w) : 0 < w.heap.size := World.block_lt_of_cell? _ _ (h 0 (by decide))
end Go.Proofs.YtahlfndlkfoikaaDoor
