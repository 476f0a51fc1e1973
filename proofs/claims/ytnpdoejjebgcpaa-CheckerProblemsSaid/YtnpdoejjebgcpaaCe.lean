/- Walks over hitting: what each function returns for a problem that is not right. -/
import Derived.Test.YtnpdoejjebgcpaaHS
namespace Go.Proofs.Ytnpdoejjebgcpaa
open Go Go.RowKit
theorem check_ne (n : Int) (vs : Value) (ls : List (List Int)) (w : World) (F : Nat → Prop) (hF : ∀ b, F b → b < w.heap.size) (hr : SlII F w vs ls) (W : World) (hW : Below w.heap.size w W) :
    Calls Try.prog 44 #[.agg #[.int .i64 n, vs]] W fun e w' => e = .returned (.int .i64 (Hit.checkF n ls)) ∧ Below W.heap.size W w' :=
  check_any n vs ls W F (fun b hb => Nat.lt_of_lt_of_le (hF b hb) hW.size) (hr.keep (Agree.below hW hF))
set_option maxHeartbeats 1000000 in
theorem verify_err (n : Int) (vs : Value) (size : Int) (At : Option Addr) (m c : Nat) (ls : List (List Int)) (w : World) (F : Nat → Prop) (hF : ∀ b, F b → b < w.heap.size) (hr : SlII F w vs ls) (he : Hit.checkF n ls ≠ 0) :
    Calls Try.prog 20 #[.agg #[.int .i64 n, vs], .int .i64 size, .slice At m c] w fun e w' => e = .returned (.int .i64 (Hit.checkF n ls)) ∧ Below w.heap.size w w' := by
  have hC := check_ne n vs ls w F hF hr
  obtain ⟨As, cs, rfl, _⟩ := hr.open
  have he' : (Hit.checkF n ls != 0) = true := by simp [he]
  have HC := Lib.hid hC
  generalize Hit.checkF n ls = er at *
  clear hC hr he
  go_enter Try.func20, Try.ntmps20
  go_wp2_with fail
  refine (HC.out _ (Ba (B0 w) _)).mono ?_
  rintro e w1 ⟨rfl, hb1⟩
  have HB := Lib.hid (Bt (Ba (B0 w) _) hb1)
  clear hb1
  go_wp2_with fail
  go_ret
  exact ⟨rfl, HB.out⟩
end Go.Proofs.Ytnpdoejjebgcpaa
