/- Walks over noteset and the library: how many notes a set has. -/
import Derived.Test.YtnphdmiondccgaaDoorZa
import Derived.Test.YtnphdmiondccgaaDoorNe
namespace Go.Proofs.YtnphdmiondccgaaDoor
open Go Go.RowKit
open Pop
theorem and_c (a c : Nat) (ha : a < 18446744073709551616) (hc : c < 18446744073709551616) : bits .and .u64 (a : Int) (c : Int) = ((a &&& c : Nat) : Int) := Hit.u64_and a c ha hc
theorem wrap_c (a : Nat) (ha : a < 18446744073709551616) : IntKind.u64.wrap (a : Int) = (a : Int) := by rw [IntKind.wrap_u64]; omega
set_option maxRecDepth 100000 in
theorem ones_any (x : Nat) (hx : x < 18446744073709551616) (w : World) : Calls Tryd.prog 61 #[.int .u64 (x : Int)] w fun e w' => e = .returned (.int .i64 (pc 64 x : Nat)) ∧ w' = w := by
  have s1 := st1 x hx
  have s2 := st2 x
  have s3 := st3 x
  have l1 := P_two_lt 32 x
  have l2 := P_four_le 16 x
  have hz : x / 2 < 18446744073709551616 := by omega
  obtain ⟨A1, hA1⟩ : ∃ a, x / 2 &&& 6148914691236517205 = a := ⟨_, rfl⟩
  obtain ⟨B1, hB1⟩ : ∃ a, x &&& 6148914691236517205 = a := ⟨_, rfl⟩
  obtain ⟨X1, hX1⟩ : ∃ a, P 2 32 x = a := ⟨_, rfl⟩
  rw [hA1, hB1, hX1] at s1
  rw [hX1] at l1 s2
  have l1' : X1 < 18446744073709551616 := l1
  obtain ⟨A2, hA2⟩ : ∃ a, X1 / 4 &&& 3689348814741910323 = a := ⟨_, rfl⟩
  obtain ⟨B2, hB2⟩ : ∃ a, X1 &&& 3689348814741910323 = a := ⟨_, rfl⟩
  obtain ⟨X2, hX2⟩ : ∃ a, P 4 16 x = a := ⟨_, rfl⟩
  rw [hA2, hB2, hX2] at s2
  rw [hX2] at l2 s3
  have l2' : X2 / 16 + X2 < 18446744073709551616 := by
    have : (16 : Nat) ^ 16 = 18446744073709551616 := by decide
    rw [this] at l2; omega
  obtain ⟨Y2, hY2⟩ : ∃ a, X2 / 16 + X2 = a := ⟨_, rfl⟩
  rw [hY2] at s3 l2'
  obtain ⟨X3, hX3⟩ : ∃ a, P 8 8 x = a := ⟨_, rfl⟩
  rw [hX3] at s3
  have f1 : bits .and .u64 ((x : Int) / 2) 6148914691236517205 = (A1 : Int) := by rw [← hA1]; exact and_c (x / 2) _ hz (by decide)
  have f2 : bits .and .u64 (x : Int) 6148914691236517205 = (B1 : Int) := by rw [← hB1]; exact and_c x _ hx (by decide)
  have f3 : IntKind.u64.wrap ((A1 : Int) + B1) = (X1 : Int) := by rw [show (A1 : Int) + B1 = (X1 : Int) by omega]; exact wrap_c X1 l1'
  have f4 : bits .and .u64 ((X1 : Int) / 4) 3689348814741910323 = (A2 : Int) := by rw [← hA2]; exact and_c (X1 / 4) _ (by omega) (by decide)
  have f5 : bits .and .u64 (X1 : Int) 3689348814741910323 = (B2 : Int) := by rw [← hB2]; exact and_c X1 _ l1' (by decide)
  have f6 : IntKind.u64.wrap ((A2 : Int) + B2) = (X2 : Int) := by rw [show (A2 : Int) + B2 = (X2 : Int) by omega]; exact wrap_c X2 (by omega)
  have f7 : IntKind.u64.wrap ((X2 : Int) / 16 + X2) = (Y2 : Int) := by rw [show (X2 : Int) / 16 + X2 = (Y2 : Int) by omega]; exact wrap_c Y2 l2'
  have f8 : bits .and .u64 (Y2 : Int) 1085102592571150095 = (X3 : Int) := by rw [← s3]; exact and_c Y2 _ l2' (by decide)
  obtain ⟨p0, p1, p2, p3, p4, p5, p6, p7, b0, b1, b2, b3, b4, b5, b6, b7, e3, hs⟩ := P_eight x
  rw [hX3] at e3
  obtain ⟨R1, S2, S4, q1, q2, q3, hX3b, q4⟩ := fold8 p0 p1 p2 p3 p4 p5 p6 p7 b0 b1 b2 b3 b4 b5 b6 b7 X3 e3
  rw [hs] at q4
  clear e3 hs b0 b1 b2 b3 b4 b5 b6 b7 p0 p1 p2 p3 p4 p5 p6 p7 s1 s2 s3 l1 l2 l1' l2' hA1 hB1 hX1 hA2 hB2 hX2 hY2 hX3 hz
  obtain ⟨X4, hX4⟩ : ∃ a, X3 + R1 = a := ⟨_, rfl⟩
  rw [hX4] at q2 q3 q4
  obtain ⟨X5, hX5⟩ : ∃ a, X4 + S2 = a := ⟨_, rfl⟩
  rw [hX5] at q3 q4
  obtain ⟨X6, hX6⟩ : ∃ a, X5 + S4 = a := ⟨_, rfl⟩
  rw [hX6] at q4
  have f9 : IntKind.u64.wrap ((X3 : Int) + X3 / 256) = (X4 : Int) := by rw [show (X3 : Int) + X3 / 256 = (X4 : Int) by omega]; exact wrap_c X4 (by omega)
  have f10 : IntKind.u64.wrap ((X4 : Int) + X4 / 65536) = (X5 : Int) := by rw [show (X4 : Int) + X4 / 65536 = (X5 : Int) by omega]; exact wrap_c X5 (by omega)
  have f11 : IntKind.u64.wrap ((X5 : Int) + X5 / 4294967296) = (X6 : Int) := by rw [show (X5 : Int) + X5 / 4294967296 = (X6 : Int) by omega]; exact wrap_c X6 (by omega)
  have f12 : IntKind.i64.wrap (X6 : Int) = X6 := IntWalk.i64_in _ (by omega)
  have hm : X6 % 128 = pc 64 x := q4
  have hX6b : X6 < 9223372036854775808 := by omega
  have f13 : bits .and .i64 (X6 : Int) 127 = ((pc 64 x : Nat) : Int) := by
    rw [← hm]
    have h := i64_and_nat X6 127 hX6b (by decide)
    rw [show X6 &&& 127 = X6 % 128 from Nat.and_two_pow_sub_one_eq_mod X6 7] at h
    exact h
  clear hm q1 q2 q3 q4 hX3b hX4 hX5 hX6 hX6b
  go_enter Tryd.func61, Tryd.ntmps61
  go_wp2_with fail
  go_ret
  exact ⟨rfl, rfl⟩
/-- The notes of a set, counted. -/
theorem mem_count (x : Nat) : (Nt.mem x).length = pc 64 (Nt.lo x) + pc 64 (Nt.hi x) := by
  unfold Nt.mem
  rw [List.length_append, List.length_map]
  unfold Hit.members
  rw [pc_members, pc_members]
end Go.Proofs.YtnphdmiondccgaaDoor
