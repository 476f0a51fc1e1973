/- Plain: how many bits a word has, by masks and shifts. -/
import Derived.Test.YtnphdmiondccgaaDoorCovP
namespace Go.Proofs.YtnphdmiondccgaaDoor
open Go Go.RowKit
namespace Pop
/-- How many of the first n bits are set. -/
def pc : Nat → Nat → Nat
  | 0, _ => 0
  | n + 1, x => x % 2 + pc n (x / 2)
theorem pc_le : ∀ n x, pc n x ≤ n
  | 0, _ => Nat.le_refl _
  | n + 1, x => by
    have := pc_le n (x / 2)
    unfold pc; omega
theorem pc_add : ∀ a b x, pc (a + b) x = pc a x + pc b (x / 2 ^ a)
  | 0, b, x => by simp [pc]
  | a + 1, b, x => by
    rw [show a + 1 + b = (a + b) + 1 by omega]
    show x % 2 + pc (a + b) (x / 2) = (x % 2 + pc a (x / 2)) + pc b (x / 2 ^ (a + 1))
    rw [pc_add a b (x / 2), Nat.div_div_eq_div_mul, show 2 * 2 ^ a = 2 ^ (a + 1) by rw [Nat.pow_succ]; omega]
    omega
theorem pc_members : ∀ n x, ((List.range n).filter fun i => x.testBit i).length = pc n x
  | 0, _ => rfl
  | n + 1, x => by
    rw [List.range_succ_eq_map, List.filter_cons]
    have ih := pc_members n (x / 2)
    have h : ((List.map Nat.succ (List.range n)).filter fun i => x.testBit i).length = pc n (x / 2) := by
      rw [List.filter_map, List.length_map, ← ih]
      congr 2
      funext i
      simp [Function.comp, Nat.testBit_succ]
    have h0 : x.testBit 0 = decide (x % 2 = 1) := by simp [Nat.testBit_zero]
    unfold pc
    rw [h0]
    by_cases hx : x % 2 = 1
    · simp only [hx, decide_true, if_true, List.length_cons, h]; omega
    · have : x % 2 = 0 := by omega
      simp only [hx, decide_false, h, this]
      simp [h]
/-- Fields of s bits, each the number of bits of its part of x. -/
def P (s : Nat) : Nat → Nat → Nat
  | 0, _ => 0
  | n + 1, x => pc s x + 2 ^ s * P s n (x / 2 ^ s)
/-- A mask of n fields of s low bits in 2 s. -/
def mk (s : Nat) : Nat → Nat
  | 0 => 0
  | n + 1 => (2 ^ s - 1) + 2 ^ (2 * s) * mk s n
theorem and_blocks (k a b c d : Nat) (ha : a < 2 ^ k) (hc : c < 2 ^ k) : (a + 2 ^ k * b) &&& (c + 2 ^ k * d) = (a &&& c) + 2 ^ k * (b &&& d) := by
  have hac : a &&& c < 2 ^ k := Nat.and_lt_two_pow _ hc
  rw [Nat.add_comm a, Nat.add_comm c, Nat.add_comm (a &&& c)]
  refine Nat.eq_of_testBit_eq fun i => ?_
  rw [Nat.testBit_and, Nat.testBit_two_pow_mul_add _ ha, Nat.testBit_two_pow_mul_add _ hc, Nat.testBit_two_pow_mul_add _ hac]
  by_cases h : i < k
  · simp [h, Nat.testBit_and]
  · simp [h, Nat.testBit_and]
theorem and_low (s a : Nat) : a &&& (2 ^ s - 1) = a % 2 ^ s := Nat.and_two_pow_sub_one_eq_mod a s
/-- A step with the mask on both parts. -/
theorem step1 (s : Nat) (hs : ∀ x, pc s x < 2 ^ s) : ∀ n x, (P s (2 * n) x / 2 ^ s &&& mk s n) + (P s (2 * n) x &&& mk s n) = P (2 * s) n x
  | 0, _ => by simp [P, mk]
  | n + 1, x => by
    have h1 := hs x
    have h2 := hs (x / 2 ^ s)
    have hB : 2 ^ (2 * s) = 2 ^ s * 2 ^ s := by rw [← Nat.pow_add]; congr 1; omega
    have hp : 0 < 2 ^ s := Nat.two_pow_pos s
    obtain ⟨b, hb⟩ : ∃ b, 2 ^ s = b := ⟨_, rfl⟩
    obtain ⟨p0, hp0⟩ : ∃ p, pc s x = p := ⟨_, rfl⟩
    obtain ⟨p1, hp1⟩ : ∃ p, pc s (x / 2 ^ s) = p := ⟨_, rfl⟩
    obtain ⟨q, hq⟩ : ∃ q, P s (2 * n) (x / 2 ^ s / 2 ^ s) = q := ⟨_, rfl⟩
    have ih := step1 s hs n (x / 2 ^ (2 * s))
    have hxx : x / 2 ^ (2 * s) = x / 2 ^ s / 2 ^ s := by rw [hB, Nat.div_div_eq_div_mul]
    rw [hxx, hq] at ih
    have hP : P s (2 * (n + 1)) x = (p0 + b * p1) + 2 ^ (2 * s) * q := by
      show P s (2 * n + 1 + 1) x = _
      unfold P
      unfold P
      rw [hp0, hp1, hq, hB, hb]
      rw [Nat.mul_add, Nat.mul_assoc]; omega
    have hR : P (2 * s) (n + 1) x = (p0 + p1) + 2 ^ (2 * s) * P (2 * s) n (x / 2 ^ s / 2 ^ s) := by
      show pc (2 * s) x + 2 ^ (2 * s) * P (2 * s) n (x / 2 ^ (2 * s)) = _
      rw [hxx, show 2 * s = s + s by omega, pc_add s s x, hp0, hp1]
    rw [hP, hR, ← ih]
    rw [hp0] at h1
    rw [hp1] at h2
    have hlo : p0 + b * p1 < 2 ^ (2 * s) := by
      rw [hB, hb]
      rw [hb] at h1 h2
      have : b * p1 + b ≤ b * b := by
        have := Nat.mul_le_mul_left b (show p1 + 1 ≤ b by omega)
        rw [Nat.mul_add, Nat.mul_one] at this
        exact this
      omega
    have hm : 2 ^ s - 1 < 2 ^ (2 * s) := by
      rw [hB, hb]
      rw [hb] at hp
      have := Nat.mul_le_mul_left b hp
      omega
    have hA2 : (p0 + b * p1) + 2 ^ (2 * s) * q &&& mk s (n + 1) = p0 + 2 ^ (2 * s) * (q &&& mk s n) := by
      show (p0 + b * p1) + 2 ^ (2 * s) * q &&& ((2 ^ s - 1) + 2 ^ (2 * s) * mk s n) = _
      rw [and_blocks _ _ _ _ _ hlo hm, and_low, hb, Nat.add_mul_mod_self_left, Nat.mod_eq_of_lt (by rw [← hb]; exact h1)]
    have hdiv : ((p0 + b * p1) + 2 ^ (2 * s) * q) / 2 ^ s = (p1 + b * (q % b)) + 2 ^ (2 * s) * (q / b) := by
      rw [hB, hb]
      have e : (p0 + b * p1) + b * b * q = p0 + b * (p1 + b * q) := by rw [Nat.mul_add, Nat.mul_assoc]; omega
      rw [hb] at h1 hp
      rw [e, Nat.add_mul_div_left _ _ hp, Nat.div_eq_of_lt h1, Nat.zero_add]
      have := Nat.div_add_mod q b
      have h3 : b * q = b * (q % b) + b * b * (q / b) := by
        conv => lhs; rw [← this]
        rw [Nat.mul_add, Nat.mul_assoc]; omega
      omega
    have hlo2 : p1 + b * (q % b) < 2 ^ (2 * s) := by
      rw [hB, hb]
      rw [hb] at h2 hp
      have h3 := Nat.mod_lt q hp
      have : b * (q % b) + b ≤ b * b := by
        have := Nat.mul_le_mul_left b (show q % b + 1 ≤ b by omega)
        rw [Nat.mul_add, Nat.mul_one] at this
        exact this
      omega
    have hA1 : ((p0 + b * p1) + 2 ^ (2 * s) * q) / 2 ^ s &&& mk s (n + 1) = p1 + 2 ^ (2 * s) * (q / 2 ^ s &&& mk s n) := by
      rw [hdiv]
      show (p1 + b * (q % b)) + 2 ^ (2 * s) * (q / b) &&& ((2 ^ s - 1) + 2 ^ (2 * s) * mk s n) = _
      rw [and_blocks _ _ _ _ _ hlo2 hm, and_low, hb, Nat.add_mul_mod_self_left, Nat.mod_eq_of_lt (by rw [← hb]; exact h2)]
    rw [hA1, hA2, Nat.mul_add]
    omega
/-- A step with the mask behind the sum: no field runs over. -/
theorem step2 (s : Nat) (hs : ∀ x y, pc s x + pc s y < 2 ^ s) : ∀ n x, (P s (2 * n) x / 2 ^ s + P s (2 * n) x) &&& mk s n = P (2 * s) n x
  | 0, _ => by simp [P, mk]
  | n + 1, x => by
    have h0 := hs x (x / 2 ^ s)
    have hB : 2 ^ (2 * s) = 2 ^ s * 2 ^ s := by rw [← Nat.pow_add]; congr 1; omega
    have hp : 0 < 2 ^ s := Nat.two_pow_pos s
    obtain ⟨b, hb⟩ : ∃ b, 2 ^ s = b := ⟨_, rfl⟩
    obtain ⟨q, hq⟩ : ∃ q, P s (2 * n) (x / 2 ^ s / 2 ^ s) = q := ⟨_, rfl⟩
    have hqb : q % b + pc s (x / 2 ^ s) < b := by
      rw [← hq, ← hb]
      cases n with
      | zero => simp only [Nat.mul_zero, P, Nat.zero_mod, Nat.zero_add]; omega
      | succ n =>
        have h3 := hs (x / 2 ^ s / 2 ^ s) (x / 2 ^ s)
        have : P s (2 * (n + 1)) (x / 2 ^ s / 2 ^ s) = pc s (x / 2 ^ s / 2 ^ s) + 2 ^ s * P s (2 * n + 1) (x / 2 ^ s / 2 ^ s / 2 ^ s) := rfl
        rw [this, Nat.add_mul_mod_self_left, Nat.mod_eq_of_lt (by omega)]
        exact h3
    obtain ⟨p0, hp0⟩ : ∃ p, pc s x = p := ⟨_, rfl⟩
    obtain ⟨p1, hp1⟩ : ∃ p, pc s (x / 2 ^ s) = p := ⟨_, rfl⟩
    have ih := step2 s hs n (x / 2 ^ (2 * s))
    have hxx : x / 2 ^ (2 * s) = x / 2 ^ s / 2 ^ s := by rw [hB, Nat.div_div_eq_div_mul]
    rw [hxx, hq] at ih
    have hP : P s (2 * (n + 1)) x = (p0 + b * p1) + b * b * q := by
      show P s (2 * n + 1 + 1) x = _
      unfold P
      unfold P
      rw [hp0, hp1, hq, hb]
      rw [Nat.mul_add, Nat.mul_assoc]; omega
    have hR : P (2 * s) (n + 1) x = (p0 + p1) + 2 ^ (2 * s) * P (2 * s) n (x / 2 ^ s / 2 ^ s) := by
      show pc (2 * s) x + 2 ^ (2 * s) * P (2 * s) n (x / 2 ^ (2 * s)) = _
      rw [hxx, show 2 * s = s + s by omega, pc_add s s x, hp0, hp1]
    rw [hR, ← ih, hP]
    rw [hp0, hp1, hb] at h0
    rw [hp1] at hqb
    rw [hb] at hp
    have hdiv : ((p0 + b * p1) + b * b * q) / 2 ^ s = (p1 + b * (q % b)) + b * b * (q / b) := by
      rw [hb]
      have e : (p0 + b * p1) + b * b * q = p0 + b * (p1 + b * q) := by rw [Nat.mul_add, Nat.mul_assoc]; omega
      rw [e, Nat.add_mul_div_left _ _ hp, Nat.div_eq_of_lt (by omega), Nat.zero_add]
      have := Nat.div_add_mod q b
      have h3 : b * q = b * (q % b) + b * b * (q / b) := by
        conv => lhs; rw [← this]
        rw [Nat.mul_add, Nat.mul_assoc]; omega
      omega
    have hsum : ((p0 + b * p1) + b * b * q) / 2 ^ s + ((p0 + b * p1) + b * b * q) = ((p0 + p1) + b * (q % b + p1)) + 2 ^ (2 * s) * (q / 2 ^ s + q) := by
      rw [hdiv, hB, hb, Nat.mul_add b, Nat.mul_add (b * b)]
      omega
    have hlo : (p0 + p1) + b * (q % b + p1) < 2 ^ (2 * s) := by
      rw [hB, hb]
      have : b * (q % b + p1) + b ≤ b * b := by
        have := Nat.mul_le_mul_left b (show q % b + p1 + 1 ≤ b by omega)
        rw [Nat.mul_add b (q % b + p1), Nat.mul_one] at this
        exact this
      omega
    have hm : 2 ^ s - 1 < 2 ^ (2 * s) := by
      rw [hB, hb]
      have := Nat.mul_le_mul_left b hp
      omega
    rw [hsum]
    show _ + _ * _ &&& ((2 ^ s - 1) + 2 ^ (2 * s) * mk s n) = _
    rw [and_blocks _ _ _ _ _ hlo hm, and_low, hb, Nat.add_mul_mod_self_left, Nat.mod_eq_of_lt h0]
theorem P_one : ∀ n x, P 1 n x = x % 2 ^ n
  | 0, x => by simp [P, Nat.mod_one]
  | n + 1, x => by
    have h1 : pc 1 x = x % 2 := by simp [pc]
    show pc 1 x + 2 ^ 1 * P 1 n (x / 2 ^ 1) = _
    rw [h1, P_one n, Nat.pow_one, show 2 ^ (n + 1) = 2 * 2 ^ n by rw [Nat.pow_succ]; omega, Nat.mod_mul]
theorem P_two_lt : ∀ n x, P 2 n x < 4 ^ n
  | 0, x => by simp [P]
  | n + 1, x => by
    have h1 := pc_le 2 x
    have h2 := P_two_lt n (x / 2 ^ 2)
    show pc 2 x + 4 * P 2 n (x / 2 ^ 2) < 4 ^ n * 4
    omega
theorem P_four_le : ∀ n x, 15 * P 4 n x ≤ 4 * (16 ^ n - 1)
  | 0, x => by simp [P]
  | n + 1, x => by
    have h1 := pc_le 4 x
    have h2 := P_four_le n (x / 2 ^ 4)
    have h3 : 0 < 16 ^ n := Nat.pow_pos (by decide)
    show 15 * (pc 4 x + 16 * P 4 n (x / 2 ^ 4)) ≤ 4 * (16 ^ n * 16 - 1)
    omega
/-- A word of eight fields of eight bits. -/
theorem P_eight (x : Nat) : ∃ p0 p1 p2 p3 p4 p5 p6 p7 : Nat, p0 ≤ 8 ∧ p1 ≤ 8 ∧ p2 ≤ 8 ∧ p3 ≤ 8 ∧ p4 ≤ 8 ∧ p5 ≤ 8 ∧ p6 ≤ 8 ∧ p7 ≤ 8 ∧ P 8 8 x = p0 + 256 * (p1 + 256 * (p2 + 256 * (p3 + 256 * (p4 + 256 * (p5 + 256 * (p6 + 256 * p7)))))) ∧ p0 + p1 + p2 + p3 + p4 + p5 + p6 + p7 = pc 64 x := by
  have hP : ∀ n y, P 8 (n + 1) y = pc 8 y + 256 * P 8 n (y / 256) := fun _ _ => rfl
  have hp : ∀ n y, pc (8 + n) y = pc 8 y + pc n (y / 256) := fun n y => pc_add 8 n y
  have h0 : ∀ y, P 8 0 y = 0 := fun _ => rfl
  refine ⟨pc 8 x, pc 8 (x / 256), pc 8 (x / 256 / 256), pc 8 (x / 256 / 256 / 256), pc 8 (x / 256 / 256 / 256 / 256), pc 8 (x / 256 / 256 / 256 / 256 / 256), pc 8 (x / 256 / 256 / 256 / 256 / 256 / 256), pc 8 (x / 256 / 256 / 256 / 256 / 256 / 256 / 256), pc_le 8 _, pc_le 8 _, pc_le 8 _, pc_le 8 _, pc_le 8 _, pc_le 8 _, pc_le 8 _, pc_le 8 _, ?_, ?_⟩
  · rw [hP 7, hP 6, hP 5, hP 4, hP 3, hP 2, hP 1, hP 0, h0, Nat.mul_zero, Nat.add_zero]
  · have h64 : pc 64 x = pc (8 + (8 + (8 + (8 + (8 + (8 + (8 + 8))))))) x := rfl
    rw [h64, hp, hp, hp, hp, hp, hp, hp]
    omega
theorem st1 (x : Nat) (hx : x < 18446744073709551616) : (x / 2 &&& 6148914691236517205) + (x &&& 6148914691236517205) = P 2 32 x := by
  have m1 : mk 1 32 = 6148914691236517205 := by decide
  have s1 := step1 1 (fun x => by have := pc_le 1 x; omega) 32 x
  rw [m1, P_one (2 * 32), Nat.mod_eq_of_lt (show x < 2 ^ (2 * 32) from hx), Nat.pow_one] at s1
  exact s1
theorem st2 (x : Nat) : (P 2 32 x / 4 &&& 3689348814741910323) + (P 2 32 x &&& 3689348814741910323) = P 4 16 x := by
  have m2 : mk 2 16 = 3689348814741910323 := by decide
  have s2 := step1 2 (fun x => by have := pc_le 2 x; omega) 16 x
  rw [m2] at s2
  exact s2
theorem st3 (x : Nat) : (P 4 16 x / 16 + P 4 16 x) &&& 1085102592571150095 = P 8 8 x := by
  have m4 : mk 4 8 = 1085102592571150095 := by decide
  have s3 := step2 4 (fun x y => by have := pc_le 4 x; have := pc_le 4 y; omega) 8 x
  rw [m4] at s3
  exact s3
theorem d8 (p T : Nat) (h : p < 256) : (p + 256 * T) / 256 = T := by omega
theorem d16 (a b T : Nat) (ha : a < 256) (hb : b < 256) : (a + 256 * b + 65536 * T) / 65536 = T := by omega
theorem d32 (a b c d T : Nat) (ha : a < 256) (hb : b < 256) (hc : c < 256) (hd : d < 256) : (a + 256 * b + 65536 * (c + 256 * d + 65536 * T)) / 4294967296 = T := by omega
theorem m128 (s K : Nat) (h : s < 128) : (s + 256 * K) % 128 = s := by omega
theorem lt64 (a b : Nat) (ha : a < 1000000000000000000) (hb : b ≤ a) : a + b < 18446744073709551616 := by omega
/-- The fields of eight bits, added by shifts. -/
theorem fold8 (p0 p1 p2 p3 p4 p5 p6 p7 : Nat) (b0 : p0 ≤ 8) (b1 : p1 ≤ 8) (b2 : p2 ≤ 8) (b3 : p3 ≤ 8) (b4 : p4 ≤ 8) (b5 : p5 ≤ 8) (b6 : p6 ≤ 8) (b7 : p7 ≤ 8) (X3 : Nat) (h : X3 = p0 + 256 * (p1 + 256 * (p2 + 256 * (p3 + 256 * (p4 + 256 * (p5 + 256 * (p6 + 256 * p7))))))) :
    ∃ R1 S2 S4 : Nat, X3 / 256 = R1 ∧ (X3 + R1) / 65536 = S2 ∧ (X3 + R1 + S2) / 4294967296 = S4 ∧ X3 < 1000000000000000000 ∧ (X3 + R1 + S2 + S4) % 128 = p0 + p1 + p2 + p3 + p4 + p5 + p6 + p7 := by
  have c0 : p0 < 256 := by omega
  have c01 : p0 + p1 < 256 := by omega
  have c12 : p1 + p2 < 256 := by omega
  have c03 : p0 + p1 + p2 + p3 < 256 := by omega
  have c14 : p1 + p2 + p3 + p4 < 256 := by omega
  have c25 : p2 + p3 + p4 + p5 < 256 := by omega
  have c36 : p3 + p4 + p5 + p6 < 256 := by omega
  have cs : p0 + p1 + p2 + p3 + p4 + p5 + p6 + p7 < 128 := by omega
  obtain ⟨R6, e6⟩ : ∃ R, R = p6 + 256 * p7 := ⟨_, rfl⟩
  obtain ⟨R5, e5⟩ : ∃ R, R = p5 + 256 * R6 := ⟨_, rfl⟩
  obtain ⟨R4, e4⟩ : ∃ R, R = p4 + 256 * R5 := ⟨_, rfl⟩
  obtain ⟨R3, e3⟩ : ∃ R, R = p3 + 256 * R4 := ⟨_, rfl⟩
  obtain ⟨R2, e2⟩ : ∃ R, R = p2 + 256 * R3 := ⟨_, rfl⟩
  obtain ⟨R1, e1⟩ : ∃ R, R = p1 + 256 * R2 := ⟨_, rfl⟩
  rw [← e6, ← e5, ← e4, ← e3, ← e2, ← e1] at h
  have hb : X3 < 1000000000000000000 := by omega
  clear b0 b1 b2 b3 b4 b5 b6 b7
  have g1 : X3 / 256 = R1 := by rw [h]; exact d8 p0 R1 c0
  have g2 : X3 + R1 = (p0 + p1) + 256 * (p1 + p2) + 65536 * (R2 + R3) := by
    rw [h]
    have h1 : R1 = p1 + 256 * (p2 + 256 * R3) := by rw [e1, e2]
    clear g1 hb h e3 e4 e5 e6 c0 c01 c12 c03 c14 c25 c36 cs
    omega
  have g3 : (X3 + R1) / 65536 = R2 + R3 := by rw [g2]; exact d16 _ _ _ c01 c12
  have g4 : X3 + R1 + (R2 + R3) = (p0 + p1 + p2 + p3) + 256 * (p1 + p2 + p3 + p4) + 65536 * ((p2 + p3 + p4 + p5) + 256 * (p3 + p4 + p5 + p6) + 65536 * (R4 + R5 + (R6 + p7))) := by
    have h2 : R2 = p2 + 256 * (p3 + 256 * R4) := by rw [e2, e3]
    have h3 : R3 = p3 + 256 * (p4 + 256 * R5) := by rw [e3, e4]
    have h4 : R4 = p4 + 256 * (p5 + 256 * R6) := by rw [e4, e5]
    have h5 : R5 = p5 + 256 * (p6 + 256 * p7) := by rw [e5, e6]
    clear g1 g3 hb c0 c01 c12 c03 c14 c25 c36 cs h e1
    omega
  have g5 : (X3 + R1 + (R2 + R3)) / 4294967296 = R4 + R5 + (R6 + p7) := by rw [g4]; exact d32 _ _ _ _ _ c03 c14 c25 c36
  refine ⟨R1, R2 + R3, R4 + R5 + (R6 + p7), g1, g3, g5, hb, ?_⟩
  have g6 : X3 + R1 + (R2 + R3) + (R4 + R5 + (R6 + p7)) = (p0 + p1 + p2 + p3 + p4 + p5 + p6 + p7) + 256 * (R1 + R2 + R3 + R4 + R5 + R6 + p7) := by
    clear g1 g2 g3 g4 g5 hb c0 c01 c12 c03 c14 c25 c36 cs
    omega
  rw [g6]
  exact m128 _ _ cs
end Pop
end Go.Proofs.YtnphdmiondccgaaDoor
