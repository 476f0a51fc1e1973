/- Plain: the number of bits, byte by byte; the lowest bit. -/
import Derived.Test.YtiochodepgldpaaDoorCovP
import Derived.Lib.BitFns
import Derived.Lib.Tables
import Derived.Lib.TrailingZeros
namespace Go.Proofs.YtiochodepgldpaaDoor
namespace Hit
def cnt (n x : Nat) : Nat := ((List.range n).filter fun i => x.testBit i).length
theorem cnt_add (k m x : Nat) : cnt (k + m) x = cnt k x + cnt m (x >>> k) := by
  unfold cnt
  rw [List.range_add, List.filter_append, List.length_append, List.filter_map, List.length_map]
  congr 2
  refine List.filter_congr fun i _ => ?_
  simp only [Function.comp, Nat.testBit_shiftRight]
theorem cnt_mod (k x : Nat) : cnt k (x % 2 ^ k) = cnt k x := by
  unfold cnt
  congr 1
  refine List.filter_congr fun i hi => ?_
  have : i < k := by simpa using hi
  rw [Nat.testBit_mod_two_pow]; simp [this]
theorem cnt_big (k m x : Nat) (h : x < 2 ^ k) (hm : k ≤ m) : cnt m x = cnt k x := by
  obtain ⟨d, rfl⟩ := Nat.exists_eq_add_of_le hm
  rw [cnt_add]
  have : x >>> k = 0 := by rw [Nat.shiftRight_eq_div_pow, Nat.div_eq_of_lt h]
  rw [this]
  have : cnt d 0 = 0 := by simp [cnt]
  omega
theorem pop_cnt {x k : Nat} (h : x < 2 ^ k) (hk : k ≤ 64) : pop x = cnt k x := by
  rw [← cnt_big k 64 x h hk]; rfl
theorem pop_split (x : Nat) (hx : x < 4294967296) : pop x = pop (x / 16777216) + pop (x / 65536 % 256) + pop (x / 256 % 256) + pop (x % 256) := by
  have e : pop x = cnt 8 x + (cnt 8 (x >>> 8) + (cnt 8 (x >>> 8 >>> 8) + cnt 8 (x >>> 8 >>> 8 >>> 8))) := by
    rw [pop_cnt (k := 8 + (8 + (8 + 8))) (by omega) (by omega), cnt_add, cnt_add, cnt_add]
  rw [e]
  simp only [Nat.shiftRight_eq_div_pow, Nat.div_div_eq_div_mul]
  have a0 : pop (x % 256) = cnt 8 x := by rw [pop_cnt (k := 8) (by omega) (by omega)]; exact cnt_mod 8 x
  have a1 : pop (x / 256 % 256) = cnt 8 (x / 256) := by rw [pop_cnt (k := 8) (by omega) (by omega)]; exact cnt_mod 8 _
  have a2 : pop (x / 65536 % 256) = cnt 8 (x / 65536) := by rw [pop_cnt (k := 8) (by omega) (by omega)]; exact cnt_mod 8 _
  have a3 : pop (x / 16777216) = cnt 8 (x / 16777216) := pop_cnt (by omega) (by omega)
  rw [a0, a1, a2, a3]
  show cnt 8 x + (cnt 8 (x / 256) + (cnt 8 (x / 65536) + cnt 8 (x / 16777216))) = _
  omega
theorem pop_byte : ∀ n : Fin 256, Lib.pop8 (n.val : Int) = (pop n.val : Int) ∧ pop n.val ≤ 8 := by decide +kernel
theorem pop8_pop (b : Nat) (h : b < 256) : Lib.pop8 (b : Int) = (pop b : Int) ∧ pop b ≤ 8 := pop_byte ⟨b, h⟩
theorem low_form (n x : Nat) (h0 : x ≠ 0) (h : x < 2 ^ n) : ∃ m, x = 2 ^ Lib.ctz n x * (2 * m + 1) ∧ Lib.ctz n x < n := by
  obtain ⟨m, hm, hk⟩ := Lib.ctzFrom_spec n x (by omega) h
  have e : Lib.ctz n x = Lib.ctzFrom n x := by simp [Lib.ctz, h0]
  rw [e]
  exact ⟨m, hm, hk⟩
theorem odd_test (m i : Nat) : (2 * m + 1).testBit i = (decide (i = 0) || (2 * m).testBit i) := by
  cases i with
  | zero => simp
  | succ i =>
    rw [Nat.testBit_succ, Nat.testBit_succ, show (2 * m + 1) / 2 = m from by omega, show 2 * m / 2 = m from by omega]
    simp
/-- The lowest bit comes first; w & (w - 1) has the others. -/
theorem members_step (n x : Nat) (hn : n ≤ 64) (h0 : x ≠ 0) (h : x < 2 ^ n) : members x = Lib.ctz n x :: members (x &&& (x - 1)) ∧ x &&& (x - 1) < x := by
  obtain ⟨m, hm, hk⟩ := low_form n x h0 h
  generalize Lib.ctz n x = k at *
  have hp : 0 < 2 ^ k := Nat.two_pow_pos k
  have hx1 : x - 1 = 2 ^ k * (2 * m) + (2 ^ k - 1) := by
    have : 2 ^ k * (2 * m + 1) = 2 ^ k * (2 * m) + 2 ^ k := by rw [Nat.mul_add, Nat.mul_one]
    omega
  have hr : x &&& (x - 1) = 2 ^ k * (2 * m) := ext fun i => by
    rw [hx1, Nat.testBit_and, Nat.testBit_two_pow_mul_add _ (by omega), hm, Nat.testBit_two_pow_mul, Nat.testBit_two_pow_mul]
    rcases Nat.lt_or_ge i k with hi | hi
    · have : ¬ k ≤ i := by omega
      simp [this]
    · have h2 : ¬ i < k := by omega
      simp only [hi, h2, if_false, decide_true, Bool.true_and, odd_test]
      cases (2 * m).testBit (i - k) <;> simp
  have hlt : 2 ^ k * (2 * m) < x := by rw [hm, Nat.mul_add, Nat.mul_one]; omega
  rw [hr]
  refine ⟨inc_ext (inc_members x) ⟨fun y hy => ?_, inc_members _⟩ fun i => ?_, hlt⟩
  · have hb := (mem_members.1 hy).2
    rw [Nat.testBit_two_pow_mul] at hb
    simp only [Bool.and_eq_true, decide_eq_true_eq] at hb
    rcases Nat.eq_or_lt_of_le hb.1 with e | e
    · subst e; simp at hb
    · exact e
  · simp only [List.mem_cons, mem_members]
    rw [hm, Nat.testBit_two_pow_mul, Nat.testBit_two_pow_mul, odd_test]
    simp only [Bool.and_eq_true, decide_eq_true_eq, Bool.or_eq_true]
    constructor
    · rintro ⟨a, b, c | c⟩
      · exact .inl (by omega)
      · exact .inr ⟨a, b, c⟩
    · rintro (rfl | ⟨a, b, c⟩)
      · exact ⟨by omega, by omega, .inl (by omega)⟩
      · exact ⟨a, b, .inr c⟩
theorem tz_ctz (n x : Nat) (hn : n ≤ 64) (h0 : x ≠ 0) (h : x < 2 ^ n) : tz x = Lib.ctz n x := by
  unfold tz
  rw [(members_step n x hn h0 h).1]; rfl
theorem low_bit (n x : Nat) (hn : n ≤ 64) (h0 : x ≠ 0) (h : x < 2 ^ n) : x &&& (2 ^ n - x) = bit (tz x) ∧ tz x < n := by
  rw [tz_ctz n x hn h0 h]
  exact Lib.lowest_bit n x h0 h
end Hit
end Go.Proofs.YtiochodepgldpaaDoor
