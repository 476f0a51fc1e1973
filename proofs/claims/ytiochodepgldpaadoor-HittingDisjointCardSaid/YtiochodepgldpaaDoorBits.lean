/- Words for bits: the operations on unsigned integers, as operations on natural numbers. -/
import Derived.Laws.BitsAllLaws
import Derived.Test.YtiochodepgldpaaDoorHit
import Derived.WalkKit
namespace Go.Proofs.YtiochodepgldpaaDoor
open Go
namespace Hit
theorem compl_test (n b i : Nat) (hb : b < 2 ^ n) : (2 ^ n - 1 - b).testBit i = (decide (i < n) && !b.testBit i) := by
  rw [show 2 ^ n - 1 - b = 2 ^ n - (b + 1) from by omega, Nat.testBit_two_pow_sub_succ hb]
theorem and_compl (n a b : Nat) (ha : a < 2 ^ n) (hb : b < 2 ^ n) : a &&& (2 ^ n - 1 - b) = andn a b := ext fun i => by
  rw [Nat.testBit_and, compl_test n b i hb, andn_test]
  rcases Nat.lt_or_ge i n with h | h
  · simp [h]
  · rw [test_of_lt ha h]; simp
theorem u32_or (a b : Nat) (ha : a < 2 ^ 32) (hb : b < 2 ^ 32) : bits .or .u32 (a : Int) (b : Int) = ((a ||| b : Nat) : Int) := u32_or_nat a b ha hb
theorem u32_and (a b : Nat) (ha : a < 2 ^ 32) (hb : b < 2 ^ 32) : bits .and .u32 (a : Int) (b : Int) = ((a &&& b : Nat) : Int) := u32_and_nat a b ha hb
theorem u32_andn (a b : Nat) (ha : a < 2 ^ 32) (hb : b < 2 ^ 32) : bits .andNot .u32 (a : Int) (b : Int) = ((andn a b : Nat) : Int) := by
  rw [u32_andNot_nat a b ha hb]; exact congrArg _ (and_compl 32 a b ha hb)
theorem u64_or (a b : Nat) (ha : a < 2 ^ 64) (hb : b < 2 ^ 64) : bits .or .u64 (a : Int) (b : Int) = ((a ||| b : Nat) : Int) := u64_or_nat a b ha hb
theorem u64_and (a b : Nat) (ha : a < 2 ^ 64) (hb : b < 2 ^ 64) : bits .and .u64 (a : Int) (b : Int) = ((a &&& b : Nat) : Int) := u64_and_nat a b ha hb
theorem u64_andn (a b : Nat) (ha : a < 2 ^ 64) (hb : b < 2 ^ 64) : bits .andNot .u64 (a : Int) (b : Int) = ((andn a b : Nat) : Int) := by
  rw [u64_andNot_nat a b ha hb]; exact congrArg _ (and_compl 64 a b ha hb)
theorem toNat_lt {n : Nat} {y : Int} (h0 : 0 ≤ y) (h : y < n) : y.toNat < n := by omega
/-- '1 << y': the bit y. -/
theorem shl_u32 (y : Nat) (h : y < 32) : IntKind.u32.wrap ((1 : Int) * 2 ^ (min y 32)) = ((bit y : Nat) : Int) := by
  have hb : (2 : Nat) ^ y < 2 ^ 32 := Nat.pow_lt_pow_right (by decide) h
  rw [Nat.min_eq_left (by omega), Int.one_mul, IntKind.wrap_u32']
  unfold bit
  have e : (2 : Int) ^ y = ((2 ^ y : Nat) : Int) := by simp
  rw [e]
  generalize (2 : Nat) ^ y = z at *
  omega
theorem shl_u64 (y : Nat) (h : y < 64) : IntKind.u64.wrap ((1 : Int) * 2 ^ (min y 64)) = ((bit y : Nat) : Int) := by
  have hb : (2 : Nat) ^ y < 2 ^ 64 := Nat.pow_lt_pow_right (by decide) h
  rw [Nat.min_eq_left (by omega), Int.one_mul, IntKind.wrap_u64]
  unfold bit
  have e : (2 : Int) ^ y = ((2 ^ y : Nat) : Int) := by simp
  rw [e]
  generalize (2 : Nat) ^ y = z at *
  omega
/-- .. as the walk leaves it. -/
theorem two_u32 (y : Nat) (h : y < 32) : (2 : Int) ^ y % 4294967296 = ((bit y : Nat) : Int) := by
  have := shl_u32 y h
  rw [Nat.min_eq_left (by omega), Int.one_mul, IntKind.wrap_u32'] at this
  exact this
theorem two_u64 (y : Nat) (h : y < 64) : (2 : Int) ^ y % 18446744073709551616 = ((bit y : Nat) : Int) := by
  have := shl_u64 y h
  rw [Nat.min_eq_left (by omega), Int.one_mul, IntKind.wrap_u64] at this
  exact this
theorem two_u64w (y : Nat) (h : y < 64) : IntKind.u64.wrap ((2 : Int) ^ y) = ((bit y : Nat) : Int) := by
  rw [IntKind.wrap_u64]; exact two_u64 y h
theorem shr_nat (a y k : Nat) (h : y ≤ k) : ((a : Int)).fdiv (2 ^ (min y k)) = ((a >>> y : Nat) : Int) := by
  rw [Nat.min_eq_left h, Nat.shiftRight_eq_div_pow]
  have e : (2 : Int) ^ y = ((2 ^ y : Nat) : Int) := by simp
  rw [e, Int.fdiv_eq_ediv_of_nonneg _ (Int.natCast_nonneg _)]
  rfl
end Hit
end Go.Proofs.YtiochodepgldpaaDoor
