/- Walks over the reference of integer: powers of 3. -/
import Derived.Test.YthgjhfapnilfhaaDoorGb
namespace Go.Proofs.YthgjhfapnilfhaaDoor
open Go Go.RowKit
theorem itoaI_one : itoaI 1 = ⟨#[49]⟩ := by
  have h : Lib.itoa 1 = [49] := by
    unfold Lib.itoa
    rw [if_neg (by decide), Lib.decDigits, dif_pos (by decide)]; rfl
  unfold itoaI; rw [h]
theorem itoaI_three : itoaI 3 = ⟨#[51]⟩ := by
  have h : Lib.itoa 3 = [51] := by
    unfold Lib.itoa
    rw [if_neg (by decide), Lib.decDigits, dif_pos (by decide)]; rfl
  unfold itoaI; rw [h]
/-- The powers are small while a round is left. -/
theorem pow_small {P Q N m : Nat} (h : P * Q ^ N = m) (hm : m ≤ 19683) (hm0 : 0 < m) (hN : 0 < N) : P ≤ 19683 ∧ Q ≤ 19683 := by
  obtain ⟨k, rfl⟩ : ∃ k, N = k + 1 := ⟨N - 1, by omega⟩
  have hP : 0 < P := Nat.pos_of_ne_zero fun e => by rw [e, Nat.zero_mul] at h; omega
  have hQ : 0 < Q ^ (k + 1) := Nat.pos_of_ne_zero fun e => by rw [e, Nat.mul_zero] at h; omega
  have hQ0 : 0 < Q := Nat.pos_of_ne_zero fun e => by rw [e, Nat.zero_pow (by omega)] at hQ; omega
  have h1 : P ≤ P * Q ^ (k + 1) := Nat.le_mul_of_pos_right _ hQ
  have h2 : Q ^ (k + 1) ≤ P * Q ^ (k + 1) := Nat.le_mul_of_pos_left _ hP
  have h3 : Q ≤ Q ^ (k + 1) := by
    rw [Nat.pow_succ]
    exact Nat.le_mul_of_pos_left _ (Nat.pow_pos hQ0)
  omega
theorem pow_odd {P Q N : Nat} (h : N % 2 = 1) : P * Q * (Q * Q) ^ (N / 2) = P * Q ^ N := by
  have e : N = 2 * (N / 2) + 1 := by omega
  rw [show (Q * Q) ^ (N / 2) = Q ^ (2 * (N / 2)) by rw [Nat.pow_mul, Nat.pow_two]]
  conv => rhs; rw [e, Nat.pow_succ]
  rw [Nat.mul_assoc, Nat.mul_comm Q]
theorem pow_even {P Q N : Nat} (h : N % 2 = 0) : P * (Q * Q) ^ (N / 2) = P * Q ^ N := by
  have e : N = 2 * (N / 2) := by omega
  rw [show (Q * Q) ^ (N / 2) = Q ^ (2 * (N / 2)) by rw [Nat.pow_mul, Nat.pow_two]]
  conv => rhs; rw [e]
set_option maxHeartbeats 2000000 in
theorem power_any (n : Nat) (hn : n ≤ 9) (w : World) (hT : TabP w) : Calls Tryd.prog 28 #[.string ⟨#[51]⟩, .int .i64 n] w fun e w' => e = .returned (.string (itoaI ((3 ^ n : Nat) : Int))) ∧ Below w.heap.size w w' := by
  rw [← itoaI_three]
  have hm : 3 ^ n ≤ 19683 := Nat.le_trans (Nat.pow_le_pow_right (by decide) hn) (by decide)
  have hm0 : 0 < 3 ^ n := Nat.pow_pos (by decide)
  have h0 : 1 * 3 ^ n = 3 ^ n := Nat.one_mul _
  have HM := Lib.hid fun a b (ha : a ≤ 19683) (hb : b ≤ 19683) W (hW : Below w.heap.size w W) => mul_any a b (by omega) (by omega) W (hT.below hW)
  obtain ⟨m, hmm⟩ : ∃ m, 3 ^ n = m := ⟨_, rfl⟩
  rw [hmm] at hm hm0 h0 ⊢
  have HH0 := Lib.hid (hmm ▸ h0 : 1 * 3 ^ n = m)
  clear hT hmm h0
  go_enter Tryd.func28, Tryd.ntmps28
  go_wp2_with fail
  go_loopg [0, 1, 5] 9 (fun gg s0 s1 s5 wr => ∃ P Q N : Nat, N ≤ 9 ∧ N ≤ gg ∧ Aside (P * Q ^ N = m) ∧ s0 = .string (itoaI Q) ∧ s1 = .int .i64 N ∧ s5 = .string (itoaI P) ∧ Aside (Below w.heap.size w wr))
  case atStart => exact ⟨1, 3, n, by omega, by omega, HH0.out, rfl, rfl, by rw [← itoaI_one]; rfl, B0 w⟩
  case round =>
    obtain ⟨P, Q, N, hN, hg, hpq, rfl, rfl, rfl, HB⟩ := hrel
    by_cases hlt : 0 < N
    · obtain ⟨hP, hQ⟩ := pow_small hpq.out hm hm0 hlt
      have hki : decide ((0 : Int) < N) = true := decide_eq_true (by omega)
      have hkn : decide (0 < N) = true := decide_eq_true (by omega)
      have HQQ := Lib.hid fun W hW => HM.out Q Q hQ hQ W hW
      have HPQ := Lib.hid fun W hW => HM.out P Q hP hQ W hW
      rcases Nat.mod_two_eq_zero_or_one N with hmod | hmod
      · have hm2 : (N : Int).tmod 2 = 0 := by have : (N : Int).tmod 2 = ((N % 2 : Nat) : Int) := rfl; omega
        have hq2 : (N : Int).tdiv 2 = ((N / 2 : Nat) : Int) := rfl
        have HR := Lib.hid ((pow_even (P := P) (Q := Q) hmod).trans hpq.out)
        go_wp2_with fail
        (with_reducible refine ((HQQ.out _ HB.out).mono ?_))
        rintro e w2 ⟨rfl, hb2⟩
        have HB2 := Lib.hid (Bt HB.out hb2)
        clear hb2
        go_wp2_with fail
        go_roundg (N / 2)
        case measure => omega
        case rel => exact ⟨P, Q * Q, N / 2, by omega, by omega, HR.out, rfl, by go_num, rfl, HB2.out⟩
      · have hm2 : (N : Int).tmod 2 = 1 := by have : (N : Int).tmod 2 = ((N % 2 : Nat) : Int) := rfl; omega
        have hq2 : (N : Int).tdiv 2 = ((N / 2 : Nat) : Int) := rfl
        have HR := Lib.hid ((pow_odd (P := P) (Q := Q) hmod).trans hpq.out)
        go_wp2_with fail
        (with_reducible refine ((HPQ.out _ HB.out).mono ?_))
        rintro e w2 ⟨rfl, hb2⟩
        have HB2 := Lib.hid (Bt HB.out hb2)
        clear hb2
        go_wp2_with fail
        (with_reducible refine ((HQQ.out _ HB2.out).mono ?_))
        rintro e w3 ⟨rfl, hb3⟩
        have HB3 := Lib.hid (Bt HB2.out hb3)
        clear hb3
        go_wp2_with fail
        go_roundg (N / 2)
        case measure => omega
        case rel => exact ⟨P * Q, Q * Q, N / 2, by omega, by omega, HR.out, rfl, by go_num, rfl, HB3.out⟩
    · obtain rfl : N = 0 := by omega
      have he : P = m := by have := hpq.out; simpa using this
      go_wp2_with fail
      go_ret
      exact ⟨by rw [he]; rfl, HB.out⟩
end Go.Proofs.YthgjhfapnilfhaaDoor
