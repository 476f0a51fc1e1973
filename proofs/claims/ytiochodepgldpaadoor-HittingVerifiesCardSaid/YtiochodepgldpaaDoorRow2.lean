/- Words for the rows: an integer that came in. -/
import Derived.Test.YtiochodepgldpaaDoorRow
namespace Go.Proofs.YtiochodepgldpaaDoor
open Go Go.RowKit Go.ChangeShapes Go.WideShapes
theorem int_of_cells {v : Value} {t : TypeId} {k : IntKind} {P : Program} {W : World} {base : Nat} (ht : P.underlying t = some (.int k)) (h : Value.okWide P W .any base t v) {u : Value} (hl : v.cells.toList = [u]) : v = u := by
  simp only [Value.okWide, ht] at h
  cases v <;> simp_all [Value.cells, Cell.okWide, Cell.ok]
end Go.Proofs.YtiochodepgldpaaDoor
