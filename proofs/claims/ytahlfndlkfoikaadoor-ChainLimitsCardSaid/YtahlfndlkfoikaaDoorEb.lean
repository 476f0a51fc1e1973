/- Walks over chain: drawn. -/
import Derived.Test.YtahlfndlkfoikaaDoorEa
import Derived.Test.YtahlfndlkfoikaaDoorKy
namespace Go.Proofs.YtahlfndlkfoikaaDoor
open Go Go.RowKit Go.Shelf
theorem cdrawn_any (vd vc : Value) (d : Nat) (hd : d < 2 ^ 64) (i : Nat) (hi : i < 64) (w : World) :
    Calls Tryd.prog 39 #[.agg #[vd, vc, .int .u64 d], .int .i64 i] w fun e w' => e = .returned (.bool (d.testBit i)) ∧ Below w.heap.size w w' := by
  have h3 : ((i : Nat) : Int) % 18446744073709551616 = i := by omega
  have h4 : min i 64 = i := by omega
  have hsh := shr_of d i (by omega)
  have hle : d >>> i ≤ d := by rw [Nat.shiftRight_eq_div_pow]; exact Nat.div_le_self _ _
  have hand : bits .and .u64 ((d >>> i : Nat) : Int) 1 = ((d >>> i &&& 1 : Nat) : Int) := Hit.u64_and (d >>> i) 1 (by omega) (by omega)
  have hbit := bit_of d i
  generalize d >>> i &&& 1 = vb at *
  generalize d >>> i = vs at *
  have HB : Hid (((vb : Int) == 1) = d.testBit i) := Lib.hid hbit
  clear hle hbit
  go_enter Tryd.func39, Tryd.ntmps39
  go_wp2
  go_ret
  exact ⟨by first | rfl | (rw [HB.out]; rfl), Ba (B0 w) _⟩
end Go.Proofs.YtahlfndlkfoikaaDoor
