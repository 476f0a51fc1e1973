/- Words for the row of HittingVerifies: a change that came in. -/
import Derived.Test.YtiochodepgldpaaDoorRow2
namespace Go.Proofs.YtiochodepgldpaaDoor
open Go Go.RowKit Go.ChangeShapes Go.WideShapes
theorem cells_slip : Tryd.prog.cellsOf 57 = 3 := by kernel_rfl
theorem cells_i8 : Tryd.prog.cellsOf 55 = 1 := by kernel_rfl
set_option maxRecDepth 100000 in
theorem opens_slip {H : Type} {enc : TypeId × Value → H} {w : World} : Opens enc Tryd.prog w 57 3 (fun _ cs (y : Nat × Nat × Int) => cs = [.int .u8 (y.1 : Int), .int .u8 (y.2.1 : Int), .int .i8 y.2.2] ∧ y.1 < 256 ∧ y.2.1 < 256 ∧ (-128 ≤ y.2.2 ∧ y.2.2 ≤ 127)) := fun n cs x h1 h2 => by
  obtain ⟨hl, hf⟩ := opens_struct Tryd.underlying57 h1 h2
  rw [cells_slip] at hl
  match cs, hl with
  | [a, b, c], _ =>
    obtain ⟨k, hk, hk2⟩ := hf 0 _ _ _ rfl opens_byteU
    obtain ⟨l, hl, hl2⟩ := hf 1 _ _ _ rfl opens_byteU
    obtain ⟨m, hm, hm2⟩ := hf 2 _ _ _ rfl (opens_int Tryd.underlying55)
    simp [cells_u8, cells_i8, UCell] at hk hl hm
    subst hk; subst hl; subst hm
    exact ⟨rfl, (k, l, m), rfl, hk2, hl2, bounds_i8 hm2⟩
end Go.Proofs.YtiochodepgldpaaDoor
