/- Words for the row of CheckerHits: a change that came in. -/
import Derived.Test.YthgjhfapnilfhaaDoorRow
namespace Go.Proofs.YthgjhfapnilfhaaDoor
open Go Go.RowKit Go.ChangeShapes Go.WideShapes
theorem cells_bend : Tryd.prog.cellsOf 26 = 4 := by kernel_rfl
set_option maxRecDepth 100000 in
theorem opens_bend {H : Type} {enc : TypeId × Value → H} {w : World} : Opens enc Tryd.prog w 26 4 (fun _ cs (y : Nat × Nat × Int × Nat) => cs = [.int .u8 (y.1 : Int), .int .u8 (y.2.1 : Int), .int .i64 y.2.2.1, .int .u8 (y.2.2.2 : Int)] ∧ y.1 < 256 ∧ y.2.1 < 256 ∧ y.2.2.2 < 256) := fun n cs x h1 h2 => by
  obtain ⟨hl, hf⟩ := opens_struct Tryd.underlying26 h1 h2
  rw [cells_bend] at hl
  match cs, hl with
  | [a, b, c, d], _ =>
    obtain ⟨k, hk, hk2⟩ := hf 0 _ _ _ rfl opens_byteU
    obtain ⟨l, hl, hl2⟩ := hf 1 _ _ _ rfl opens_byteU
    obtain ⟨m, hm, _⟩ := hf 2 _ _ _ rfl (opens_int Tryd.underlying3)
    obtain ⟨o, ho, ho2⟩ := hf 3 _ _ _ rfl opens_byteU
    simp [cells_u8, cells_int, UCell] at hk hl hm ho
    subst hk; subst hl; subst hm; subst ho
    exact ⟨rfl, (k, l, m, o), rfl, hk2, hl2, ho2⟩
end Go.Proofs.YthgjhfapnilfhaaDoor
