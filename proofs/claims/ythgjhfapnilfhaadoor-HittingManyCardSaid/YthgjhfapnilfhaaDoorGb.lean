/- Walks over the reference of integer: sums, signs, products, powers of small integers. -/
import Derived.Test.YthgjhfapnilfhaaDoorGa
import Derived.Laws.Concat
namespace Go.Proofs.YthgjhfapnilfhaaDoor
open Go Go.RowKit
theorem itoa_zero (n : Int) : ((itoaI n).toList == [48]) = decide (n = 0) := by
  rw [ByteArray.toList_eq, itoaI_list]
  have h0 : Lib.itoa 0 = [48] := by
    unfold Lib.itoa
    rw [if_neg (by decide), Lib.decDigits, dif_pos (by decide)]; rfl
  by_cases h : n = 0
  · subst h; rw [h0]; rfl
  · rw [decide_eq_false h, beq_eq_false_iff_ne]
    intro e
    have := atoi_itoa n
    rw [e, ← h0, atoi_itoa 0] at this
    exact h (Option.some.inj this).symm
theorem toInt_any (b : Bool) (w : World) : Calls Tryd.prog 105 #[.bool b] w fun e w' => e = .returned (.int .i64 (if b then 1 else 0)) ∧ w = w' := by
  cases b
  all_goals
    go_enter Tryd.func105, Tryd.ntmps105
    go_wp2
    go_ret
    exact ⟨rfl, rfl⟩
set_option maxHeartbeats 1000000 in
theorem sign_any (n : Int) (h0 : -1000000000 < n) (h1 : n < 1000000000) (w : World) : Calls Tryd.prog 59 #[.string (itoaI n)] w fun e w' => e = .returned (.int .i64 (if n = 0 then 0 else if n < 0 then -1 else 1)) ∧ Below w.heap.size w w' := by
  have hc := cutZ_any n h0 h1 w
  have HC := Lib.hid hc
  have hz := itoa_zero n
  have hd : n = 0 ∨ (n ≠ 0 ∧ n < 0) ∨ (n ≠ 0 ∧ ¬ n < 0) := by omega
  clear hc
  generalize cutS n = cs at *
  rcases hd with h | ⟨h, hn⟩ | ⟨h, hn⟩
  · rw [if_pos h]
    rw [decide_eq_true h] at hz
    generalize itoaI n = s at *
    clear h h0 h1
    go_enter Tryd.func59, Tryd.ntmps59
    go_wp2_with (go_at_call 104; (with_reducible refine (HC.out.mono ?_)); rintro e w' ⟨rfl, hb⟩; have HB := Lib.hid hb; clear hb)
    go_ret
    exact ⟨rfl, HB.out⟩
  · rw [if_neg h, if_pos hn]
    rw [decide_eq_false h] at hz
    rw [decide_eq_true hn] at HC
    generalize itoaI n = s at *
    clear h hn h0 h1
    go_enter Tryd.func59, Tryd.ntmps59
    go_wp2_with (first
      | (go_at_call 104; (with_reducible refine (HC.out.mono ?_)); rintro e w' ⟨rfl, hb⟩; have HB := Lib.hid hb; clear hb)
      | (go_at_call 105; (with_reducible refine ((toInt_any _ _).mono ?_)); rintro e w2 ⟨rfl, rfl⟩))
    go_ret
    exact ⟨rfl, HB.out⟩
  · rw [if_neg h, if_neg hn]
    rw [decide_eq_false h] at hz
    rw [decide_eq_false hn] at HC
    generalize itoaI n = s at *
    clear h hn h0 h1
    go_enter Tryd.func59, Tryd.ntmps59
    go_wp2_with (first
      | (go_at_call 104; (with_reducible refine (HC.out.mono ?_)); rintro e w' ⟨rfl, hb⟩; have HB := Lib.hid hb; clear hb)
      | (go_at_call 105; (with_reducible refine ((toInt_any _ _).mono ?_)); rintro e w2 ⟨rfl, rfl⟩))
    go_ret
    exact ⟨rfl, HB.out⟩
set_option maxHeartbeats 1000000 in
theorem neg_any (n : Nat) (h1 : n < 1000000000) (w : World) : Calls Tryd.prog 107 #[.string (itoaI n)] w fun e w' => e = .returned (.string (itoaI (-(n : Int)))) ∧ Below w.heap.size w w' := by
  have hc := cutZ_any n (by omega) (by omega) w
  have hcs : cutS (n : Int) = itoaI n := by unfold cutS; rw [if_neg (by omega)]
  have hz := itoa_zero (n : Int)
  rw [hcs, decide_eq_false (by omega)] at hc
  have HC := Lib.hid hc
  clear hc
  by_cases h : n = 0
  · have hn : itoaI (-(n : Int)) = itoaI n := by rw [h]; rfl
    rw [decide_eq_true (by omega)] at hz
    rw [hn]
    generalize itoaI n = s at *
    clear h h1 hn hcs
    go_enter Tryd.func107, Tryd.ntmps107
    go_wp2_with (go_at_call 104; (with_reducible refine (HC.out.mono ?_)); rintro e w' ⟨rfl, hb⟩; have HB := Lib.hid hb; clear hb)
    go_ret
    exact ⟨rfl, HB.out⟩
  · have hn := neg_append (n := (n : Int)) (by omega)
    have hl8 := cutS_size (n := (n : Int)) (by omega) (by omega)
    rw [hcs] at hl8
    have HPL : ∀ W : World, (Op.stringOp .add ⟨#[45]⟩ (itoaI n)).run Tryd.prog W = .ok (.string (⟨#[45]⟩ ++ itoaI n)) W := fun W => run_string_add_sum W _ _ (by
      have h45 : (⟨#[45]⟩ : ByteArray).size = 1 := rfl
      omega)
    rw [decide_eq_false (by omega)] at hz
    rw [← hn]
    generalize itoaI n = s at *
    clear h h1 hn hcs hl8
    go_enter Tryd.func107, Tryd.ntmps107
    go_wp2_with (go_at_call 104; (with_reducible refine (HC.out.mono ?_)); rintro e w' ⟨rfl, hb⟩; have HB := Lib.hid hb; clear hb)
    go_ret
    exact ⟨rfl, HB.out⟩
set_option maxHeartbeats 1000000 in
theorem small_any (n : Int) (h0 : -1000000000 < n) (h1 : n < 1000000000) (w : World) : Calls Tryd.prog 108 #[.string (itoaI n)] w fun e w' => e = .returned (.tuple #[.int .i64 n, .bool true]) ∧ Below w.heap.size w w' := by
  have HC := Lib.hid fun W => cutZ_any n h0 h1 W
  have HA := Lib.hid fun W => atoiZ_any n h0 h1 W
  have hl := cutS_size h0 h1
  have d1 : decide ((18 : Int) < ((cutS n).size : Int)) = false := decide_eq_false (by omega)
  have d1n : decide (18 < (cutS n).size) = false := decide_eq_false (by omega)
  generalize cutS n = cs at *
  generalize itoaI n = s at *
  clear h0 h1
  go_enter Tryd.func108, Tryd.ntmps108
  go_wp2_with (first
    | (go_at_call 104; (with_reducible refine ((HC.out w).mono ?_)); rintro e w2 ⟨rfl, hb⟩; have HB := Lib.hid hb; clear hb)
    | (go_at_call 138; (with_reducible refine ((HA.out w2).mono ?_)); rintro e w3 ⟨rfl, hb⟩; have HB3 := Lib.hid (Bt HB.out hb); clear hb))
  go_ret2
  exact ⟨rfl, HB3.out⟩
set_option maxHeartbeats 2000000 in
theorem add_any (a b : Int) (ha0 : -400000000 < a) (ha1 : a < 400000000) (hb0 : -400000000 < b) (hb1 : b < 400000000) (w : World) (hT : TabP w) : Calls Tryd.prog 106 #[.string (itoaI a), .string (itoaI b)] w fun e w' => e = .returned (.string (itoaI (a + b))) ∧ Below w.heap.size w w' := by
  have HCa := Lib.hid fun W => cutZ_any a (by omega) (by omega) W
  have HCb := Lib.hid fun W => cutZ_any b (by omega) (by omega) W
  have HSa := Lib.hid fun W => small_any a (by omega) (by omega) W
  have HSb := Lib.hid fun W => small_any b (by omega) (by omega) W
  have HO := Lib.hid fun W hW => ofZ_any (a + b) (by omega) (by omega) W (hT.below (w' := W) hW)
  have hla := cutS_size (n := a) (by omega) (by omega)
  have hlb := cutS_size (n := b) (by omega) (by omega)
  have d1 : decide (((cutS a).size : Int) < 18) = true := decide_eq_true (by omega)
  have d1n : decide ((cutS a).size < 18) = true := decide_eq_true (by omega)
  have d2 : decide (((cutS b).size : Int) < 18) = true := decide_eq_true (by omega)
  have d2n : decide ((cutS b).size < 18) = true := decide_eq_true (by omega)
  have hab : IntKind.i64.wrap (a + b) = a + b := IntWalk.i64_in _ (by omega)
  generalize cutS a = ca at *
  generalize cutS b = cb at *
  generalize itoaI a = sa at *
  generalize itoaI b = sb at *
  generalize itoaI (a + b) = sc at *
  clear hT
  go_enter Tryd.func106, Tryd.ntmps106
  go_wp2_with fail
  (with_reducible refine ((HCa.out w).mono ?_))
  rintro e w1 ⟨rfl, hb⟩
  have HB1 := Lib.hid hb
  clear hb
  go_wp2_with fail
  (with_reducible refine ((HCb.out w1).mono ?_))
  rintro e w2 ⟨rfl, hb⟩
  have HB2 := Lib.hid (Bt HB1.out hb)
  clear hb
  go_wp2_with fail
  (with_reducible refine ((HSa.out w2).mono ?_))
  rintro e w3 ⟨rfl, hb⟩
  have HB3 := Lib.hid (Bt HB2.out hb)
  clear hb
  go_wp2_with fail
  (with_reducible refine ((HSb.out w3).mono ?_))
  rintro e w4 ⟨rfl, hb⟩
  have HB4 := Lib.hid (Bt HB3.out hb)
  clear hb
  go_wp2_with fail
  (with_reducible refine ((HO.out w4 HB4.out).mono ?_))
  rintro e w5 ⟨rfl, hb⟩
  have HB5 := Lib.hid (Bt HB4.out hb)
  clear hb
  go_wp2_with fail
  go_ret
  exact ⟨rfl, HB5.out⟩
set_option maxHeartbeats 2000000 in
theorem mul_any (a b : Nat) (ha1 : a ≤ 30000) (hb1 : b ≤ 30000) (w : World) (hT : TabP w) : Calls Tryd.prog 63 #[.string (itoaI a), .string (itoaI b)] w fun e w' => e = .returned (.string (itoaI ((a * b : Nat) : Int))) ∧ Below w.heap.size w w' := by
  have hab2 : a * b ≤ 30000 * 30000 := Nat.mul_le_mul ha1 hb1
  have HCa := Lib.hid fun W => cutZ_any a (by omega) (by omega) W
  have HCb := Lib.hid fun W => cutZ_any b (by omega) (by omega) W
  have HSa := Lib.hid fun W => small_any a (by omega) (by omega) W
  have HSb := Lib.hid fun W => small_any b (by omega) (by omega) W
  have HO := Lib.hid fun W hW => ofZ_any ((a * b : Nat) : Int) (by omega) (by omega) W (hT.below (w' := W) hW)
  have hca : cutS (a : Int) = itoaI a := by unfold cutS; rw [if_neg (by omega)]
  have hcb : cutS (b : Int) = itoaI b := by unfold cutS; rw [if_neg (by omega)]
  have hla := itoa_len8 (n := a) (by omega)
  have hlb := itoa_len8 (n := b) (by omega)
  rw [← itoaI_size] at hla hlb
  rw [hca] at HCa
  rw [hcb] at HCb
  have d1 : decide (((itoaI a).size : Int) < 9) = true := decide_eq_true (by omega)
  have d1n : decide ((itoaI a).size < 9) = true := decide_eq_true (by omega)
  have d2 : decide (((itoaI b).size : Int) < 9) = true := decide_eq_true (by omega)
  have d2n : decide ((itoaI b).size < 9) = true := decide_eq_true (by omega)
  have hab : IntKind.i64.wrap ((a : Int) * (b : Int)) = ((a * b : Nat) : Int) := by rw [← Int.natCast_mul]; exact IntWalk.i64_in _ (by omega)
  have hm : (a : Int) * (b : Int) = ((a * b : Nat) : Int) := (Int.natCast_mul a b).symm
  generalize hcc : a * b = cc at *
  clear hcc hca hcb
  generalize itoaI a = sa at *
  generalize itoaI b = sb at *
  generalize itoaI cc = sc at *
  clear hT
  go_enter Tryd.func63, Tryd.ntmps63
  go_wp2_with fail
  (with_reducible refine ((HCa.out w).mono ?_))
  rintro e w1 ⟨rfl, hb⟩
  have HB1 := Lib.hid hb
  clear hb
  go_wp2_with fail
  (with_reducible refine ((HCb.out w1).mono ?_))
  rintro e w2 ⟨rfl, hb⟩
  have HB2 := Lib.hid (Bt HB1.out hb)
  clear hb
  go_wp2_with fail
  (with_reducible refine ((HSa.out w2).mono ?_))
  rintro e w3 ⟨rfl, hb⟩
  have HB3 := Lib.hid (Bt HB2.out hb)
  clear hb
  go_wp2_with fail
  (with_reducible refine ((HSb.out w3).mono ?_))
  rintro e w4 ⟨rfl, hb⟩
  have HB4 := Lib.hid (Bt HB3.out hb)
  clear hb
  go_wp2_with fail
  (with_reducible refine ((HO.out w4 HB4.out).mono ?_))
  rintro e w5 ⟨rfl, hb⟩
  have HB5 := Lib.hid (Bt HB4.out hb)
  clear hb
  go_wp2_with fail
  go_ret
  exact ⟨rfl, HB5.out⟩
set_option maxHeartbeats 1000000 in
theorem sub_any (a b : Nat) (ha1 : a < 400000000) (hb1 : b < 400000000) (w : World) (hT : TabP w) : Calls Tryd.prog 60 #[.string (itoaI a), .string (itoaI b)] w fun e w' => e = .returned (.string (itoaI ((a : Int) - b))) ∧ Below w.heap.size w w' := by
  have HN := Lib.hid (neg_any b (by omega) w)
  have HA := Lib.hid fun W hW => add_any a (-(b : Int)) (by omega) (by omega) (by omega) (by omega) W (hT.below (w' := W) hW)
  rw [show (a : Int) + -(b : Int) = (a : Int) - b from rfl] at HA
  generalize itoaI (a : Int) = sa at *
  generalize itoaI (b : Int) = sb at *
  generalize itoaI (-(b : Int)) = sn at *
  generalize itoaI ((a : Int) - b) = sc at *
  clear hT
  go_enter Tryd.func60, Tryd.ntmps60
  go_wp2_with (first
    | (go_at_call 107; (with_reducible refine (HN.out.mono ?_)); rintro e w2 ⟨rfl, hb⟩; have HB := Lib.hid hb; clear hb)
    | (go_at_call 106; (with_reducible refine ((HA.out w2 HB.out).mono ?_)); rintro e w3 ⟨rfl, hb⟩; have HB3 := Lib.hid (Bt HB.out hb); clear hb))
  go_ret
  exact ⟨rfl, HB3.out⟩
set_option maxHeartbeats 1000000 in
theorem compareR_any (a b : Nat) (ha1 : a < 400000000) (hb1 : b < 400000000) (w : World) (hT : TabP w) : Calls Tryd.prog 25 #[.string (itoaI a), .string (itoaI b)] w fun e w' => e = .returned (.int .i64 (if (a : Int) - b = 0 then 0 else if (a : Int) - b < 0 then -1 else 1)) ∧ Below w.heap.size w w' := by
  have HS := Lib.hid (sub_any a b ha1 hb1 w hT)
  have HG := Lib.hid fun W => sign_any ((a : Int) - b) (by omega) (by omega) W
  generalize itoaI (a : Int) = sa at *
  generalize itoaI (b : Int) = sb at *
  generalize itoaI ((a : Int) - b) = sc at *
  generalize (if (a : Int) - b = 0 then (0 : Int) else if (a : Int) - b < 0 then -1 else 1) = r at *
  clear hT
  go_enter Tryd.func25, Tryd.ntmps25
  go_wp2_with (first
    | (go_at_call 60; (with_reducible refine (HS.out.mono ?_)); rintro e w2 ⟨rfl, hb⟩; have HB := Lib.hid hb; clear hb)
    | (go_at_call 59; (with_reducible refine ((HG.out w2).mono ?_)); rintro e w3 ⟨rfl, hb⟩; have HB3 := Lib.hid (Bt HB.out hb); clear hb))
  go_ret
  exact ⟨rfl, HB3.out⟩
end Go.Proofs.YthgjhfapnilfhaaDoor
