/- Walks over integer: Of, Mul, Sign, Compare: at numbers that are not negative. Walks over integer: Sign, Compare: at numbers that are not negative. Walk over integer: Power at 24 (printed by pow.py). Plain: the shift of feet on other ones. -/
import Derived.Test.YtnfpjcjlapljjaaGreatDoorQ2
import Derived.Test.YtnfpjcjlapljjaaGreatDoorQ1
namespace Go.Proofs.YtnfpjcjlapljjaaGreatDoor
open Go Go.RowKit Go.Shelf
namespace Big
theorem lim_len_le (n : Nat) : (lim n).length ≤ Lib.nDigits n := by
  apply Classical.byContradiction
  intro h
  have h1 := lim_len_iff.1 (show Lib.nDigits n < (lim n).length by omega)
  apply h1
  have h2 := (nDigits_lt (u := n) (Lib.nDigits n) (Lib.nDigits_pos n)).1 (Nat.le_refl _)
  have h3 : 10 ^ Lib.nDigits n ≤ bs ^ Lib.nDigits n := Nat.pow_le_pow_left (by decide) _
  exact Nat.div_eq_of_lt (Nat.lt_of_lt_of_le h2 h3)
theorem nDigits_mul (a b : Nat) : Lib.nDigits (a * b) ≤ Lib.nDigits a + Lib.nDigits b := by
  have pa := Lib.nDigits_pos a
  rw [nDigits_lt _ (by omega), Nat.pow_add]
  have h1 := (nDigits_lt (u := a) (Lib.nDigits a) pa).1 (Nat.le_refl _)
  have h2 := (nDigits_lt (u := b) (Lib.nDigits b) (Lib.nDigits_pos b)).1 (Nat.le_refl _)
  rcases Nat.eq_zero_or_pos b with rfl | hb
  · rw [Nat.mul_zero]
    exact Nat.mul_pos (Nat.pow_pos (by decide)) (Nat.pow_pos (by decide))
  · exact Nat.mul_lt_mul_of_lt_of_le h1 (Nat.le_of_lt h2) (Nat.pow_pos (by decide))
end Big
theorem quick9_any (n : Nat) (w : World) : Calls Tryz.prog 76 #[.string (decS n), .int .i64 9] w fun e w' => e = .returned (.tuple #[.int .i64 (if Lib.nDigits n ≤ 9 then (n : Int) else 0), .bool (decide (Lib.nDigits n ≤ 9))]) ∧ Below w.heap.size w w' := quick_any n 9 (by decide) w
theorem itoa_dec (n : Nat) : (⟨(Lib.itoa (n : Int)).toArray⟩ : ByteArray) = decS n := by
  unfold decS
  rw [Lib.itoa_nonneg]
theorem itoaD_any (n : Nat) (hn : n ≤ 9223372036854775807) (w : World) (hT : TabP w) : Calls Tryz.prog 75 #[.int .i64 (n : Int)] w fun e w' => e = .returned (.string (decS n)) ∧ Below w.heap.size w w' := by
  refine (Tryz.strconv_Itoa (n : Int) (by omega) (by omega) w hT).mono ?_
  rintro e w' ⟨rfl, k, os, rfl⟩
  exact ⟨by rw [itoa_dec], Lib.below_grow _ w (Nat.le_refl _) k os⟩
set_option maxRecDepth 100000 in
theorem iof_any (n : Nat) (hn : n ≤ 9223372036854775807) (w : World) (hT : TabP w) : Calls Tryz.prog 67 #[.int .i64 (n : Int)] w fun e w' => e = .returned (.string (decS n)) ∧ Below w.heap.size w w' := by
  have HI := Lib.hid (itoaD_any n hn w hT)
  generalize decS n = s at *
  clear hT hn
  go_enter Tryz.func67, Tryz.ntmps67
  go_wp2_with (go_at_call 75; (with_reducible refine (HI.out.mono ?_)); rintro e w2 ⟨rfl, hb2⟩; have HB2 := Lib.hid hb2; clear hb2)
  go_ret
  exact ⟨rfl, HB2.out⟩
set_option maxRecDepth 100000 in
set_option maxHeartbeats 2000000 in
theorem mul_any (a b : Nat) (ha : Lib.nDigits a ≤ 10000) (hb : Lib.nDigits b ≤ 10000) (w : World) (hT : TabP w) :
    Calls Tryz.prog 68 #[.string (decS a), .string (decS b)] w fun e w' => e = .returned (.string (decS (a * b))) ∧ Below w.heap.size w w' := by
  have HQ1 := Lib.hid (fun W => quick9_any a W)
  have HQ2 := Lib.hid (fun W => quick9_any b W)
  have HS1 := Lib.hid (fun W => split_any a (by omega) W)
  have HS2 := Lib.hid (fun W => split_any b (by omega) W)
  have hla := Big.lim_len_le a
  have hlb := Big.lim_len_le b
  have hlm := Big.lim_len_le (a * b)
  have hdm := Big.nDigits_mul a b
  have HTT := Lib.hid hT
  have HTI := Lib.hid (fun (F G : Nat → Prop) v1 v2 W h1 h2 h3 h4 => times_any F G v1 v2 (Big.lim a) (Big.lim b) (Big.lim_ok a) (Big.lim_ok b) (by omega) (by omega) W h1 h2 h3 h4)
  rw [Big.val_lim, Big.val_lim] at HTI
  have HSG := Lib.hid (fun (F : Nat → Prop) v W h1 h2 h3 => signed_any F v (a * b) (by omega) W h1 h2 h3)
  by_cases hq : Lib.nDigits a ≤ 9 ∧ Lib.nDigits b ≤ 9
  · obtain ⟨h1, h2⟩ := hq
    have hA : a < 1000000000 := (Big.nDigits_lt (u := a) 9 (by decide)).1 h1
    have hB : b < 1000000000 := (Big.nDigits_lt (u := b) 9 (by decide)).1 h2
    have hAB : a * b ≤ 999999999 * 999999999 := Nat.mul_le_mul (by omega) (by omega)
    have HOF := Lib.hid (fun W h => iof_any (a * b) (by omega) W h)
    have e : ((a * b : Nat) : Int) = (a : Int) * (b : Int) := Int.natCast_mul a b
    rw [e] at HOF
    have hABI : (a : Int) * (b : Int) ≤ 999999998000000001 := by rw [← e]; omega
    have hAB0 : (0 : Int) ≤ (a : Int) * (b : Int) := Int.mul_nonneg (by omega) (by omega)
    rw [if_pos h1, decide_eq_true h1] at HQ1
    rw [if_pos h2, decide_eq_true h2] at HQ2
    generalize decS (a * b) = s at *
    generalize decS a = s1 at *
    generalize decS b = s2 at *
    clear hla hlb hlm hdm h1 h2 hA hB hAB e HTI HSG HS1 HS2 ha hb hT
    go_enter Tryz.func68, Tryz.ntmps68
    go_upto_region 3 with (go_at_call 76; (with_reducible refine ((HQ1.out _).mono ?_)); rintro e w2 ⟨rfl, hb2⟩; have HB2 := Lib.hid hb2; clear hb2)
    go_upto_region 5 with (go_at_call 76; (with_reducible refine ((HQ2.out _).mono ?_)); rintro e w3 ⟨rfl, hb3⟩; have HB3 := Lib.hid (Bt HB2.out hb3); clear hb3)
    go_wp2_with (go_at_call 67; (with_reducible refine ((HOF.out _ (HTT.out.below HB3.out)).mono ?_)); rintro e w4 ⟨rfl, hb4⟩; have HB4 := Lib.hid (Bt HB3.out hb4); clear hb4)
    go_ret
    exact ⟨rfl, HB4.out⟩
  · have hfin : Lib.nDigits a ≤ 9 → ¬ Lib.nDigits b ≤ 9 := fun h1 h2 => hq ⟨h1, h2⟩
    generalize decS (a * b) = s at *
    generalize decS a = s1 at *
    generalize decS b = s2 at *
    by_cases h1 : Lib.nDigits a ≤ 9
    · have h2 := hfin h1
      rw [if_pos h1, decide_eq_true h1] at HQ1
      rw [if_neg h2, decide_eq_false h2] at HQ2
      clear hla hlb hlm hdm h1 h2 hq hfin ha hb hT
      go_enter Tryz.func68, Tryz.ntmps68
      go_upto_region 3 with (go_at_call 76; (with_reducible refine ((HQ1.out _).mono ?_)); rintro e w2 ⟨rfl, hb2⟩; have HB2 := Lib.hid hb2; clear hb2)
      go_upto_region 6 with (go_at_call 76; (with_reducible refine ((HQ2.out _).mono ?_)); rintro e w3 ⟨rfl, hb3⟩; have HB3 := Lib.hid (Bt HB2.out hb3); clear hb3)
      go_upto_region 7 with (go_at_call 71; (with_reducible refine ((HS1.out _).mono ?_)); rintro e w4 ⟨⟨v4, rfl, hv4⟩, hb4⟩; have HV4 := Lib.hid hv4; have HB4 := Lib.hid (Bt HB3.out hb4); clear hv4 hb4)
      go_upto_region 8 with (go_at_call 71; (with_reducible refine ((HS2.out _).mono ?_)); rintro e w5 ⟨⟨v5, rfl, hv5⟩, hb5⟩; have HV5 := Lib.hid hv5; have HV45 := Lib.hid (SlU.keep HV4.out (Agree.below hb5 fun _ h => h.2)); have HZ5 := Lib.hid hb5.size; have HB5 := Lib.hid (Bt HB4.out hb5); clear hv5 hb5)
      go_wp2_with (first | (go_at_call 73; (with_reducible refine ((HTI.out _ _ _ _ _ (fun _ h => Nat.lt_of_lt_of_le h.2 HZ5.out) (fun _ h => h.2) HV45.out HV5.out).mono ?_)); rintro e w6 ⟨⟨v6, rfl, hv6⟩, hb6⟩; have HV6 := Lib.hid hv6; have HB6 := Lib.hid (Bt HB5.out hb6); clear hv6 hb6) | (go_at_call 74; (with_reducible refine ((HSG.out _ _ _ (fun _ h => h.2) HV6.out (HTT.out.below HB6.out)).mono ?_)); rintro e w7 ⟨rfl, hb7⟩; have HB7 := Lib.hid (Bt HB6.out hb7); clear hb7))
      go_ret
      exact ⟨rfl, HB7.out⟩
    · rw [if_neg h1, decide_eq_false h1] at HQ1
      clear hla hlb hlm hdm h1 hq hfin ha hb hT HQ2
      go_enter Tryz.func68, Tryz.ntmps68
      go_upto_region 6 with (go_at_call 76; (with_reducible refine ((HQ1.out _).mono ?_)); rintro e w3 ⟨rfl, hb3⟩; have HB3 := Lib.hid hb3; clear hb3)
      go_upto_region 7 with (go_at_call 71; (with_reducible refine ((HS1.out _).mono ?_)); rintro e w4 ⟨⟨v4, rfl, hv4⟩, hb4⟩; have HV4 := Lib.hid hv4; have HB4 := Lib.hid (Bt HB3.out hb4); clear hv4 hb4)
      go_upto_region 8 with (go_at_call 71; (with_reducible refine ((HS2.out _).mono ?_)); rintro e w5 ⟨⟨v5, rfl, hv5⟩, hb5⟩; have HV5 := Lib.hid hv5; have HV45 := Lib.hid (SlU.keep HV4.out (Agree.below hb5 fun _ h => h.2)); have HZ5 := Lib.hid hb5.size; have HB5 := Lib.hid (Bt HB4.out hb5); clear hv5 hb5)
      go_wp2_with (first | (go_at_call 73; (with_reducible refine ((HTI.out _ _ _ _ _ (fun _ h => Nat.lt_of_lt_of_le h.2 HZ5.out) (fun _ h => h.2) HV45.out HV5.out).mono ?_)); rintro e w6 ⟨⟨v6, rfl, hv6⟩, hb6⟩; have HV6 := Lib.hid hv6; have HB6 := Lib.hid (Bt HB5.out hb6); clear hv6 hb6) | (go_at_call 74; (with_reducible refine ((HSG.out _ _ _ (fun _ h => h.2) HV6.out (HTT.out.below HB6.out)).mono ?_)); rintro e w7 ⟨rfl, hb7⟩; have HB7 := Lib.hid (Bt HB6.out hb7); clear hb7))
      go_ret
      exact ⟨rfl, HB7.out⟩
end Go.Proofs.YtnfpjcjlapljjaaGreatDoor
namespace Go.Proofs.YtnfpjcjlapljjaaGreatDoor
open Go Go.RowKit Go.Shelf
theorem decS_zero (n : Nat) : ((decS n).toList == [48]) = decide (n = 0) := by
  rw [ByteArray.toList_eq, decS_list]
  have h0 : Lib.decDigits 0 = [48] := by
    rw [Lib.decDigits, dif_pos (by decide)]
    rfl
  by_cases h : n = 0
  · subst h; rw [h0]; rfl
  · rw [decide_eq_false h, beq_eq_false_iff_ne]
    intro e
    have := Big.decV_dec n
    rw [e, ← h0, Big.decV_dec] at this
    exact h this.symm
theorem preD_any (n : Nat) (w : World) : Calls Tryz.prog 90 #[.string (decS n), .string ⟨#[45]⟩] w fun e w' => e = .returned (.bool false) ∧ w' = w := by
  refine (Tryz.strings_HasPrefix (decS n) ⟨#[45]⟩ w).mono ?_
  rintro e w' ⟨rfl, rfl⟩
  refine ⟨?_, rfl⟩
  have h : Lib.hasPrefix (decS n).data.toList (⟨#[45]⟩ : ByteArray).data.toList = false := by rw [decS_list]; exact pre_dec n
  rw [h]
set_option maxRecDepth 100000 in
set_option maxHeartbeats 1000000 in
theorem sign_any (n : Nat) (w : World) : Calls Tryz.prog 77 #[.string (decS n)] w fun e w' => e = .returned (.int .i64 (if n = 0 then 0 else 1)) ∧ w' = w := by
  have HP := Lib.hid (fun W => preD_any n W)
  have hz := decS_zero n
  by_cases h : n = 0
  · rw [if_pos h]
    rw [decide_eq_true h] at hz
    generalize decS n = s at *
    clear h
    go_enter Tryz.func77, Tryz.ntmps77
    go_wp2_with fail
    go_ret
    exact ⟨rfl, rfl⟩
  · rw [if_neg h]
    rw [decide_eq_false h] at hz
    generalize decS n = s at *
    clear h
    go_enter Tryz.func77, Tryz.ntmps77
    go_wp2_with (go_at_call 90; (with_reducible refine ((HP.out _).mono ?_)); rintro e w2 ⟨rfl, rfl⟩)
    go_ret
    exact ⟨rfl, rfl⟩
theorem cmpD_any (a b : Nat) (w : World) : Calls Tryz.prog 79 #[.string (decS a), .string (decS b)] w fun e w' => e = .returned (.int .i64 (Lib.compareBytes (Lib.decDigits a) (Lib.decDigits b))) ∧ w' = w := by
  have h := Tryz.strings_Compare (decS a) (decS b) w
  rw [decS_list, decS_list] at h
  exact h
set_option maxRecDepth 100000 in
set_option maxHeartbeats 2000000 in
theorem compare_any (a b : Nat) (ha : Lib.nDigits a ≤ 10000) (hb : Lib.nDigits b ≤ 10000) (w : World) :
    Calls Tryz.prog 69 #[.string (decS a), .string (decS b)] w fun e w' => e = .returned (.int .i64 (Big.cmp a b)) ∧ w' = w := by
  have HSA := Lib.hid (fun W => sign_any a W)
  have HSB := Lib.hid (fun W => sign_any b W)
  have HCA := Lib.hid (fun W => cutD_any a W)
  have HCB := Lib.hid (fun W => cutD_any b W)
  have HCM := Lib.hid (fun W => cmpD_any a b W)
  have hzA := decS_size a
  have hzB := decS_size b
  have hcd := Big.cmp_dec a b
  obtain ⟨na, hna⟩ : ∃ x, Lib.nDigits a = x := ⟨_, rfl⟩
  obtain ⟨nb, hnb⟩ : ∃ x, Lib.nDigits b = x := ⟨_, rfl⟩
  obtain ⟨q, hq⟩ : ∃ x, Lib.compareBytes (Lib.decDigits a) (Lib.decDigits b) = x := ⟨_, rfl⟩
  rw [hna] at hzA ha
  rw [hnb] at hzB hb
  rw [hna, hnb, hq] at hcd
  rw [hq] at HCM
  have hqb : -1 ≤ q ∧ q ≤ 1 := by
    rw [← hq]
    have : ∀ x y : List UInt8, -1 ≤ Lib.compareBytes x y ∧ Lib.compareBytes x y ≤ 1 := by
      intro x
      induction x with
      | nil => intro y; cases y <;> (unfold Lib.compareBytes; decide)
      | cons c x ih =>
        intro y
        cases y with
        | nil => unfold Lib.compareBytes; decide
        | cons d y =>
          unfold Lib.compareBytes
          split
          · decide
          · split
            · decide
            · exact ih y
    exact this _ _
  obtain ⟨hq1, hq2⟩ := hqb
  by_cases h0 : a = 0
  · by_cases h1 : b = 0
    · subst h0 h1
      rw [if_pos rfl] at HSA HSB
      have hab : na = nb := by rw [← hna, ← hnb]
      subst hab
      have e : Big.cmp 0 0 = 0 := by decide
      rw [e]
      generalize decS 0 = s at *
      clear hna hnb hq hcd e hzB HSB HCB
      go_enter Tryz.func69, Tryz.ntmps69
      go_wp2_with (first | (go_at_call 77; (with_reducible refine ((HSA.out _).mono ?_)); rintro e w2 ⟨rfl, e2⟩; obtain rfl : w = w2 := e2.symm) | (go_at_call 78; (with_reducible refine ((HCA.out _).mono ?_)); rintro e w2 ⟨rfl, e2⟩; obtain rfl : w = w2 := e2.symm) | (go_at_call 79; (with_reducible refine ((HCM.out _).mono ?_)); rintro e w2 ⟨rfl, e2⟩; obtain rfl : w = w2 := e2.symm))
      go_ret
      exact ⟨by simp, rfl⟩
    · subst h0
      rw [if_pos rfl] at HSA
      rw [if_neg h1] at HSB
      have e : Big.cmp 0 b = -1 := by unfold Big.cmp; rw [if_pos (by omega)]
      rw [e]
      clear hna hnb hq hcd e h1 HCM
      generalize decS 0 = s at *
      generalize decS b = s2 at *
      go_enter Tryz.func69, Tryz.ntmps69
      go_wp2_with (first | (go_at_call 77; (with_reducible refine ((HSA.out _).mono ?_)); rintro e w2 ⟨rfl, e2⟩; obtain rfl : w = w2 := e2.symm) | (go_at_call 77; (with_reducible refine ((HSB.out _).mono ?_)); rintro e w2 ⟨rfl, e2⟩; obtain rfl : w = w2 := e2.symm))
      go_ret
      exact ⟨rfl, rfl⟩
  · rw [if_neg h0] at HSA
    by_cases h1 : b = 0
    · subst h1
      rw [if_pos rfl] at HSB
      have e : Big.cmp a 0 = 1 := by unfold Big.cmp; rw [if_neg (by omega), if_pos (by omega)]
      rw [e]
      clear hna hnb hq hcd e h0 HCM
      generalize decS 0 = s at *
      generalize decS a = s2 at *
      go_enter Tryz.func69, Tryz.ntmps69
      go_wp2_with (first | (go_at_call 77; (with_reducible refine ((HSA.out _).mono ?_)); rintro e w2 ⟨rfl, e2⟩; obtain rfl : w = w2 := e2.symm) | (go_at_call 77; (with_reducible refine ((HSB.out _).mono ?_)); rintro e w2 ⟨rfl, e2⟩; obtain rfl : w = w2 := e2.symm))
      go_ret
      exact ⟨rfl, rfl⟩
    · rw [if_neg h1] at HSB
      generalize decS a = s at *
      generalize decS b = s2 at *
      rw [hcd]
      clear hna hnb hq hcd h0 h1
      by_cases hlt : na < nb
      · have hltI : (na : Int) < nb := by omega
        rw [if_pos hlt]
        go_enter Tryz.func69, Tryz.ntmps69
        go_wp2_with (first | (go_at_call 77; (with_reducible refine ((HSA.out _).mono ?_)); rintro e w2 ⟨rfl, e2⟩; obtain rfl : w = w2 := e2.symm) | (go_at_call 77; (with_reducible refine ((HSB.out _).mono ?_)); rintro e w2 ⟨rfl, e2⟩; obtain rfl : w = w2 := e2.symm) | (go_at_call 78; (with_reducible refine ((HCA.out _).mono ?_)); rintro e w2 ⟨rfl, e2⟩; obtain rfl : w = w2 := e2.symm) | (go_at_call 78; (with_reducible refine ((HCB.out _).mono ?_)); rintro e w2 ⟨rfl, e2⟩; obtain rfl : w = w2 := e2.symm))
        go_ret
        exact ⟨rfl, rfl⟩
      · have hltI : ¬ (na : Int) < nb := by omega
        rw [if_neg hlt]
        by_cases hgt : nb < na
        · have hgtI : (nb : Int) < na := by omega
          rw [if_pos hgt]
          go_enter Tryz.func69, Tryz.ntmps69
          go_wp2_with (first | (go_at_call 77; (with_reducible refine ((HSA.out _).mono ?_)); rintro e w2 ⟨rfl, e2⟩; obtain rfl : w = w2 := e2.symm) | (go_at_call 77; (with_reducible refine ((HSB.out _).mono ?_)); rintro e w2 ⟨rfl, e2⟩; obtain rfl : w = w2 := e2.symm) | (go_at_call 78; (with_reducible refine ((HCA.out _).mono ?_)); rintro e w2 ⟨rfl, e2⟩; obtain rfl : w = w2 := e2.symm) | (go_at_call 78; (with_reducible refine ((HCB.out _).mono ?_)); rintro e w2 ⟨rfl, e2⟩; obtain rfl : w = w2 := e2.symm))
          go_ret
          exact ⟨rfl, rfl⟩
        · have hgtI : ¬ (nb : Int) < na := by omega
          rw [if_neg hgt]
          go_enter Tryz.func69, Tryz.ntmps69
          go_wp2_with (first | (go_at_call 77; (with_reducible refine ((HSA.out _).mono ?_)); rintro e w2 ⟨rfl, e2⟩; obtain rfl : w = w2 := e2.symm) | (go_at_call 77; (with_reducible refine ((HSB.out _).mono ?_)); rintro e w2 ⟨rfl, e2⟩; obtain rfl : w = w2 := e2.symm) | (go_at_call 78; (with_reducible refine ((HCA.out _).mono ?_)); rintro e w2 ⟨rfl, e2⟩; obtain rfl : w = w2 := e2.symm) | (go_at_call 78; (with_reducible refine ((HCB.out _).mono ?_)); rintro e w2 ⟨rfl, e2⟩; obtain rfl : w = w2 := e2.symm) | (go_at_call 79; (with_reducible refine ((HCM.out _).mono ?_)); rintro e w2 ⟨rfl, e2⟩; obtain rfl : w = w2 := e2.symm))
          go_ret
          exact ⟨by simp, rfl⟩
end Go.Proofs.YtnfpjcjlapljjaaGreatDoor
namespace Go.Proofs.YtnfpjcjlapljjaaGreatDoor
open Go Go.RowKit Go.Shelf
namespace Big
theorem nDigits_pow (a k : Nat) : Lib.nDigits (a ^ k) ≤ 1 + k * Lib.nDigits a := by
  induction k with
  | zero =>
    rw [Nat.pow_zero]
    have : Lib.nDigits 1 = 1 := Lib.nDigits_small (by decide)
    omega
  | succ k ih =>
    have h := nDigits_mul (a ^ k) a
    rw [Nat.pow_succ, Nat.add_mul, Nat.one_mul]
    omega
end Big
set_option maxRecDepth 100000 in
set_option maxHeartbeats 4000000 in
theorem power_any (a : Nat) (ha : Lib.nDigits a ≤ 100) (w : World) (hT : TabP w) :
    Calls Tryz.prog 66 #[.string (decS a), .int .i64 24] w fun e w' => e = .returned (.tuple #[.string (decS (a ^ 24)), .int .i64 0]) ∧ Below w.heap.size w w' := by
  have HS := Lib.hid (fun W => split_any a (by omega) W)
  have hla := Big.lim_len_le a
  have HTX := Lib.hid (fun (F : Nat → Prop) v W h1 h2 h3 => text_any F v a (by omega) W h1 h2 h3)
  have hsz := decS_size a
  have HLA := Lib.hid (show (Big.lim a).length ≤ 100000 by omega)
  have hln : ∀ k, k ≤ 24 → (Big.lim (a ^ k)).length ≤ 100000 := fun k hk => by
    have h1 := Big.lim_len_le (a ^ k)
    have h2 := Big.nDigits_pow a k
    have h3 : k * Lib.nDigits a ≤ 24 * 100 := Nat.mul_le_mul hk ha
    omega
  have HLN := Lib.hid hln
  have HSG := Lib.hid (fun (F : Nat → Prop) v W h1 h2 h3 => signed_any F v (a ^ 24) (hln 24 (by decide)) W h1 h2 h3)
  have HTT := Lib.hid hT
  obtain ⟨nd, hnd⟩ : ∃ x, Lib.nDigits a = x := ⟨_, rfl⟩
  rw [hnd] at hsz ha
  obtain ⟨s, hs⟩ : ∃ s, decS a = s := ⟨_, rfl⟩
  rw [hs] at HS HTX hsz ⊢
  obtain ⟨r, hr⟩ : ∃ r, decS (a ^ 24) = r := ⟨_, rfl⟩
  rw [hr] at HSG ⊢
  have hndI : ¬ (24000 : Int) < 24 * (nd : Int) := by omega
  clear hla hln hnd hs hr hT
  go_enter Tryz.func66, Tryz.ntmps66
  go_upto_region 4 with (go_at_call 71; (with_reducible refine ((HS.out _).mono ?_)); rintro e w2 ⟨⟨v2, rfl, hv2⟩, hb2⟩; have HV2 := Lib.hid hv2; have HB2 := Lib.hid hb2; clear hb2 hv2)
  go_upto_region 8 with (go_at_call 72; (with_reducible refine ((HTX.out _ _ _ (fun _ h => h.2) HV2.out (HTT.out.below HB2.out)).mono ?_)); rintro e w3 ⟨rfl, hb3⟩; have HV3 := Lib.hid (SlU.keep HV2.out (Agree.below hb3 fun _ h => h.2)); have HZ3 := Lib.hid hb3.size; have HB3 := Lib.hid (Bt HB2.out hb3); clear hb3)
  obtain ⟨w4, hw4⟩ : ∃ w4 : World, w3.alloc (.cells #[.int .u64 1] 42) = w4 := ⟨_, rfl⟩
  have hv4 : SlU (fun b => b < w4.heap.size) w4 (.slice (some ⟨w3.heap.size, 0, none⟩) 1 1) (Big.lim (a ^ (24 / 2 ^ 14))) := by
    have e : Big.lim (a ^ (24 / 2 ^ 14)) = [1] := by
      show Big.lim (a ^ 0) = [1]
      rw [Nat.pow_zero, Big.lim_pos (by decide)]
      show 1 :: Big.lim 0 = [1]
      rw [Big.lim_zero]
    rw [e, ← hw4]
    have h := Blk.new w3 42 #[.int .u64 1]
    refine SlU.intro 1 rfl (by simp) (by simp) fun i hi => ?_
    obtain rfl : i = 0 := by simp at hi; omega
    exact ⟨_, rfl, h.lt, h.cell 0⟩
  have hb4 : Below w.heap.size w w4 := by rw [← hw4]; exact Ba HB3.out _
  have hm4 : SlU (fun b => b < w4.heap.size) w4 v2 (Big.lim a) := by
    rw [← hw4]
    exact Sl.mono (SlU.keep HV3.out (Agree.alloc _ fun _ h => Nat.lt_of_lt_of_le h.2 HZ3.out)) fun b h => Nat.lt_of_lt_of_le (Nat.lt_of_lt_of_le h.2 HZ3.out) (by simp)
  rw [hw4]
  have HV4 := Lib.hid hv4
  have HM4 := Lib.hid hm4
  have HB4 := Lib.hid hb4
  clear hw4 hv4 hm4 hb4
  go_loopg [8, 9] 15 (fun gg s8 s9 wr => ∃ j : Nat, j ≤ 14 ∧ j ≤ gg ∧ s9 = .int .i64 ((if j = 0 then 0 else 2 ^ (j - 1) : Nat) : Int) ∧ Aside (SlU (fun b => b < wr.heap.size) wr s8 (Big.lim (a ^ (24 / 2 ^ j)))) ∧ Aside (SlU (fun b => b < wr.heap.size) wr v2 (Big.lim a)) ∧ Aside (Below w.heap.size w wr))
  case atStart => exact ⟨14, by omega, by omega, rfl, HV4.out, HM4.out, HB4.out⟩
  case round =>
    clear HV4 HM4 HB4 HV2 HV3 HB2 HB3 HZ3
    obtain ⟨j, hj, hgg, rfl, HV, HVM, HB⟩ := hrel
    replace HV : Hid (SlU (fun b => b < wr.heap.size) wr u8 (Big.lim (a ^ (24 / 2 ^ j)))) := Lib.hid HV
    replace HVM : Hid (SlU (fun b => b < wr.heap.size) wr v2 (Big.lim a)) := Lib.hid HVM
    replace HB : Hid (Below w.heap.size w wr) := Lib.hid HB
    obtain ⟨wo, rfl⟩ : ∃ wo : World, wo = wr := ⟨_, rfl⟩
    rcases Nat.eq_zero_or_pos j with rfl | hj0
    · have e9 : ((if 0 = 0 then 0 else 2 ^ (0 - 1) : Nat) : Int) = 0 := by decide
      rw [e9]
      have hsg := HSG.out _ u8 wo (fun _ h => h) HV.out (HTT.out.below HB.out)
      have HSG2 := Lib.hid hsg
      clear hsg
      go_wp2_with (go_at_call 74; (with_reducible refine (HSG2.out.mono ?_)); rintro e w7 ⟨rfl, hb7⟩; have HB7 := Lib.hid (Bt HB.out hb7); clear hb7)
      refine bodyPost_ret (v := .tuple #[.string r, .int .i64 0]) (by simp [results, Tryz.f66, go_sem]) rfl ?_
      exact ⟨rfl, HB7.out⟩
    · have hcs : j = 1 ∨ j = 2 ∨ j = 3 ∨ j = 4 ∨ j = 5 ∨ j = 6 ∨ j = 7 ∨ j = 8 ∨ j = 9 ∨ j = 10 ∨ j = 11 ∨ j = 12 ∨ j = 13 ∨ j = 14 := by omega
      clear hj hj0
      rcases hcs with rfl | rfl | rfl | rfl | rfl | rfl | rfl | rfl | rfl | rfl | rfl | rfl | rfl | rfl
      · have e9 : ((if 1 = 0 then 0 else 2 ^ (1 - 1) : Nat) : Int) = 1 := by decide
        rw [e9]
        go_wp2_with (go_at_call 73; (with_reducible refine ((times_any _ _ _ _ (Big.lim (a ^ (24 / 2 ^ 1))) (Big.lim (a ^ (24 / 2 ^ 1))) (Big.lim_ok _) (Big.lim_ok _) (HLN.out _ (by decide)) (HLN.out _ (by decide)) _ (fun _ h => h) (fun _ h => h) HV.out HV.out).mono ?_)); rintro e w6 ⟨⟨v6, rfl, hv6⟩, hb6⟩; have HV6 := Lib.hid hv6; have HVM6 := Lib.hid (Sl.mono (SlU.keep HVM.out (Agree.below hb6 fun _ h => h)) fun _ h => Nat.lt_of_lt_of_le h hb6.size); have HB6 := Lib.hid (Bt HB.out hb6); clear hv6 hb6)
        have e : Big.lim (Big.val (Big.lim (a ^ (24 / 2 ^ 1))) * Big.val (Big.lim (a ^ (24 / 2 ^ 1)))) = Big.lim (a ^ (24 / 2 ^ 0)) := by
          rw [Big.val_lim, ← Nat.pow_add]
        have hz := HV6.out
        rw [e] at hz
        have HZZ := Lib.hid hz
        clear hz e
        go_roundg 0
        case measure => omega
        case rel => exact ⟨0, by omega, by omega, rfl, Sl.mono HZZ.out fun _ h => h.2, HVM6.out, HB6.out⟩
      · have e9 : ((if 2 = 0 then 0 else 2 ^ (2 - 1) : Nat) : Int) = 2 := by decide
        rw [e9]
        go_wp2_with (go_at_call 73; (with_reducible refine ((times_any _ _ _ _ (Big.lim (a ^ (24 / 2 ^ 2))) (Big.lim (a ^ (24 / 2 ^ 2))) (Big.lim_ok _) (Big.lim_ok _) (HLN.out _ (by decide)) (HLN.out _ (by decide)) _ (fun _ h => h) (fun _ h => h) HV.out HV.out).mono ?_)); rintro e w6 ⟨⟨v6, rfl, hv6⟩, hb6⟩; have HV6 := Lib.hid hv6; have HVM6 := Lib.hid (Sl.mono (SlU.keep HVM.out (Agree.below hb6 fun _ h => h)) fun _ h => Nat.lt_of_lt_of_le h hb6.size); have HB6 := Lib.hid (Bt HB.out hb6); clear hv6 hb6)
        have e : Big.lim (Big.val (Big.lim (a ^ (24 / 2 ^ 2))) * Big.val (Big.lim (a ^ (24 / 2 ^ 2)))) = Big.lim (a ^ (24 / 2 ^ 1)) := by
          rw [Big.val_lim, ← Nat.pow_add]
        have hz := HV6.out
        rw [e] at hz
        have HZZ := Lib.hid hz
        clear hz e
        go_roundg 1
        case measure => omega
        case rel => exact ⟨1, by omega, by omega, rfl, Sl.mono HZZ.out fun _ h => h.2, HVM6.out, HB6.out⟩
      · have e9 : ((if 3 = 0 then 0 else 2 ^ (3 - 1) : Nat) : Int) = 4 := by decide
        rw [e9]
        go_wp2_with (go_at_call 73; (with_reducible refine ((times_any _ _ _ _ (Big.lim (a ^ (24 / 2 ^ 3))) (Big.lim (a ^ (24 / 2 ^ 3))) (Big.lim_ok _) (Big.lim_ok _) (HLN.out _ (by decide)) (HLN.out _ (by decide)) _ (fun _ h => h) (fun _ h => h) HV.out HV.out).mono ?_)); rintro e w6 ⟨⟨v6, rfl, hv6⟩, hb6⟩; have HV6 := Lib.hid hv6; have HVM6 := Lib.hid (Sl.mono (SlU.keep HVM.out (Agree.below hb6 fun _ h => h)) fun _ h => Nat.lt_of_lt_of_le h hb6.size); have HB6 := Lib.hid (Bt HB.out hb6); clear hv6 hb6)
        have e : Big.lim (Big.val (Big.lim (a ^ (24 / 2 ^ 3))) * Big.val (Big.lim (a ^ (24 / 2 ^ 3)))) = Big.lim (a ^ (24 / 2 ^ 2)) := by
          rw [Big.val_lim, ← Nat.pow_add]
        have hz := HV6.out
        rw [e] at hz
        have HZZ := Lib.hid hz
        clear hz e
        go_roundg 2
        case measure => omega
        case rel => exact ⟨2, by omega, by omega, rfl, Sl.mono HZZ.out fun _ h => h.2, HVM6.out, HB6.out⟩
      · have e9 : ((if 4 = 0 then 0 else 2 ^ (4 - 1) : Nat) : Int) = 8 := by decide
        rw [e9]
        go_wp2_with (first | (go_at_call 73; (with_reducible refine ((times_any _ _ _ _ (Big.lim (a ^ (24 / 2 ^ 4))) (Big.lim (a ^ (24 / 2 ^ 4))) (Big.lim_ok _) (Big.lim_ok _) (HLN.out _ (by decide)) (HLN.out _ (by decide)) _ (fun _ h => h) (fun _ h => h) HV.out HV.out).mono ?_)); rintro e w6 ⟨⟨v6, rfl, hv6⟩, hb6⟩; have HV6 := Lib.hid hv6; have HVM6 := Lib.hid (Sl.mono (SlU.keep HVM.out (Agree.below hb6 fun _ h => h)) fun _ h => Nat.lt_of_lt_of_le h hb6.size); have HB6 := Lib.hid (Bt HB.out hb6); clear hv6 hb6) | (go_at_call 73; (with_reducible refine ((times_any _ _ _ _ (Big.lim (Big.val (Big.lim (a ^ (24 / 2 ^ 4))) * Big.val (Big.lim (a ^ (24 / 2 ^ 4))))) (Big.lim a) (Big.lim_ok _) (Big.lim_ok _) (by rw [Big.val_lim, ← Nat.pow_add]; exact HLN.out _ (by decide)) HLA.out _ (fun _ h => h.2) (fun _ h => h) HV6.out HVM6.out).mono ?_)); rintro e w7 ⟨⟨v7, rfl, hv7⟩, hb7⟩; have HV7 := Lib.hid hv7; have HVM7 := Lib.hid (Sl.mono (SlU.keep HVM6.out (Agree.below hb7 fun _ h => h)) fun _ h => Nat.lt_of_lt_of_le h hb7.size); have HB7 := Lib.hid (Bt HB6.out hb7); clear hv7 hb7))
        have e : Big.lim (Big.val (Big.lim (Big.val (Big.lim (a ^ (24 / 2 ^ 4))) * Big.val (Big.lim (a ^ (24 / 2 ^ 4))))) * Big.val (Big.lim a)) = Big.lim (a ^ (24 / 2 ^ 3)) := by
          rw [Big.val_lim, Big.val_lim, Big.val_lim, ← Nat.pow_add, ← Nat.pow_succ]
        have hz := HV7.out
        rw [e] at hz
        have HZZ := Lib.hid hz
        clear hz e
        go_roundg 3
        case measure => omega
        case rel => exact ⟨3, by omega, by omega, rfl, Sl.mono HZZ.out fun _ h => h.2, HVM7.out, HB7.out⟩
      · have e9 : ((if 5 = 0 then 0 else 2 ^ (5 - 1) : Nat) : Int) = 16 := by decide
        rw [e9]
        go_wp2_with (first | (go_at_call 73; (with_reducible refine ((times_any _ _ _ _ (Big.lim (a ^ (24 / 2 ^ 5))) (Big.lim (a ^ (24 / 2 ^ 5))) (Big.lim_ok _) (Big.lim_ok _) (HLN.out _ (by decide)) (HLN.out _ (by decide)) _ (fun _ h => h) (fun _ h => h) HV.out HV.out).mono ?_)); rintro e w6 ⟨⟨v6, rfl, hv6⟩, hb6⟩; have HV6 := Lib.hid hv6; have HVM6 := Lib.hid (Sl.mono (SlU.keep HVM.out (Agree.below hb6 fun _ h => h)) fun _ h => Nat.lt_of_lt_of_le h hb6.size); have HB6 := Lib.hid (Bt HB.out hb6); clear hv6 hb6) | (go_at_call 73; (with_reducible refine ((times_any _ _ _ _ (Big.lim (Big.val (Big.lim (a ^ (24 / 2 ^ 5))) * Big.val (Big.lim (a ^ (24 / 2 ^ 5))))) (Big.lim a) (Big.lim_ok _) (Big.lim_ok _) (by rw [Big.val_lim, ← Nat.pow_add]; exact HLN.out _ (by decide)) HLA.out _ (fun _ h => h.2) (fun _ h => h) HV6.out HVM6.out).mono ?_)); rintro e w7 ⟨⟨v7, rfl, hv7⟩, hb7⟩; have HV7 := Lib.hid hv7; have HVM7 := Lib.hid (Sl.mono (SlU.keep HVM6.out (Agree.below hb7 fun _ h => h)) fun _ h => Nat.lt_of_lt_of_le h hb7.size); have HB7 := Lib.hid (Bt HB6.out hb7); clear hv7 hb7))
        have e : Big.lim (Big.val (Big.lim (Big.val (Big.lim (a ^ (24 / 2 ^ 5))) * Big.val (Big.lim (a ^ (24 / 2 ^ 5))))) * Big.val (Big.lim a)) = Big.lim (a ^ (24 / 2 ^ 4)) := by
          rw [Big.val_lim, Big.val_lim, Big.val_lim, ← Nat.pow_add, ← Nat.pow_succ]
        have hz := HV7.out
        rw [e] at hz
        have HZZ := Lib.hid hz
        clear hz e
        go_roundg 4
        case measure => omega
        case rel => exact ⟨4, by omega, by omega, rfl, Sl.mono HZZ.out fun _ h => h.2, HVM7.out, HB7.out⟩
      · have e9 : ((if 6 = 0 then 0 else 2 ^ (6 - 1) : Nat) : Int) = 32 := by decide
        rw [e9]
        go_wp2_with (go_at_call 73; (with_reducible refine ((times_any _ _ _ _ (Big.lim (a ^ (24 / 2 ^ 6))) (Big.lim (a ^ (24 / 2 ^ 6))) (Big.lim_ok _) (Big.lim_ok _) (HLN.out _ (by decide)) (HLN.out _ (by decide)) _ (fun _ h => h) (fun _ h => h) HV.out HV.out).mono ?_)); rintro e w6 ⟨⟨v6, rfl, hv6⟩, hb6⟩; have HV6 := Lib.hid hv6; have HVM6 := Lib.hid (Sl.mono (SlU.keep HVM.out (Agree.below hb6 fun _ h => h)) fun _ h => Nat.lt_of_lt_of_le h hb6.size); have HB6 := Lib.hid (Bt HB.out hb6); clear hv6 hb6)
        have e : Big.lim (Big.val (Big.lim (a ^ (24 / 2 ^ 6))) * Big.val (Big.lim (a ^ (24 / 2 ^ 6)))) = Big.lim (a ^ (24 / 2 ^ 5)) := by
          rw [Big.val_lim, ← Nat.pow_add]
        have hz := HV6.out
        rw [e] at hz
        have HZZ := Lib.hid hz
        clear hz e
        go_roundg 5
        case measure => omega
        case rel => exact ⟨5, by omega, by omega, rfl, Sl.mono HZZ.out fun _ h => h.2, HVM6.out, HB6.out⟩
      · have e9 : ((if 7 = 0 then 0 else 2 ^ (7 - 1) : Nat) : Int) = 64 := by decide
        rw [e9]
        go_wp2_with (go_at_call 73; (with_reducible refine ((times_any _ _ _ _ (Big.lim (a ^ (24 / 2 ^ 7))) (Big.lim (a ^ (24 / 2 ^ 7))) (Big.lim_ok _) (Big.lim_ok _) (HLN.out _ (by decide)) (HLN.out _ (by decide)) _ (fun _ h => h) (fun _ h => h) HV.out HV.out).mono ?_)); rintro e w6 ⟨⟨v6, rfl, hv6⟩, hb6⟩; have HV6 := Lib.hid hv6; have HVM6 := Lib.hid (Sl.mono (SlU.keep HVM.out (Agree.below hb6 fun _ h => h)) fun _ h => Nat.lt_of_lt_of_le h hb6.size); have HB6 := Lib.hid (Bt HB.out hb6); clear hv6 hb6)
        have e : Big.lim (Big.val (Big.lim (a ^ (24 / 2 ^ 7))) * Big.val (Big.lim (a ^ (24 / 2 ^ 7)))) = Big.lim (a ^ (24 / 2 ^ 6)) := by
          rw [Big.val_lim, ← Nat.pow_add]
        have hz := HV6.out
        rw [e] at hz
        have HZZ := Lib.hid hz
        clear hz e
        go_roundg 6
        case measure => omega
        case rel => exact ⟨6, by omega, by omega, rfl, Sl.mono HZZ.out fun _ h => h.2, HVM6.out, HB6.out⟩
      · have e9 : ((if 8 = 0 then 0 else 2 ^ (8 - 1) : Nat) : Int) = 128 := by decide
        rw [e9]
        go_wp2_with (go_at_call 73; (with_reducible refine ((times_any _ _ _ _ (Big.lim (a ^ (24 / 2 ^ 8))) (Big.lim (a ^ (24 / 2 ^ 8))) (Big.lim_ok _) (Big.lim_ok _) (HLN.out _ (by decide)) (HLN.out _ (by decide)) _ (fun _ h => h) (fun _ h => h) HV.out HV.out).mono ?_)); rintro e w6 ⟨⟨v6, rfl, hv6⟩, hb6⟩; have HV6 := Lib.hid hv6; have HVM6 := Lib.hid (Sl.mono (SlU.keep HVM.out (Agree.below hb6 fun _ h => h)) fun _ h => Nat.lt_of_lt_of_le h hb6.size); have HB6 := Lib.hid (Bt HB.out hb6); clear hv6 hb6)
        have e : Big.lim (Big.val (Big.lim (a ^ (24 / 2 ^ 8))) * Big.val (Big.lim (a ^ (24 / 2 ^ 8)))) = Big.lim (a ^ (24 / 2 ^ 7)) := by
          rw [Big.val_lim, ← Nat.pow_add]
        have hz := HV6.out
        rw [e] at hz
        have HZZ := Lib.hid hz
        clear hz e
        go_roundg 7
        case measure => omega
        case rel => exact ⟨7, by omega, by omega, rfl, Sl.mono HZZ.out fun _ h => h.2, HVM6.out, HB6.out⟩
      · have e9 : ((if 9 = 0 then 0 else 2 ^ (9 - 1) : Nat) : Int) = 256 := by decide
        rw [e9]
        go_wp2_with (go_at_call 73; (with_reducible refine ((times_any _ _ _ _ (Big.lim (a ^ (24 / 2 ^ 9))) (Big.lim (a ^ (24 / 2 ^ 9))) (Big.lim_ok _) (Big.lim_ok _) (HLN.out _ (by decide)) (HLN.out _ (by decide)) _ (fun _ h => h) (fun _ h => h) HV.out HV.out).mono ?_)); rintro e w6 ⟨⟨v6, rfl, hv6⟩, hb6⟩; have HV6 := Lib.hid hv6; have HVM6 := Lib.hid (Sl.mono (SlU.keep HVM.out (Agree.below hb6 fun _ h => h)) fun _ h => Nat.lt_of_lt_of_le h hb6.size); have HB6 := Lib.hid (Bt HB.out hb6); clear hv6 hb6)
        have e : Big.lim (Big.val (Big.lim (a ^ (24 / 2 ^ 9))) * Big.val (Big.lim (a ^ (24 / 2 ^ 9)))) = Big.lim (a ^ (24 / 2 ^ 8)) := by
          rw [Big.val_lim, ← Nat.pow_add]
        have hz := HV6.out
        rw [e] at hz
        have HZZ := Lib.hid hz
        clear hz e
        go_roundg 8
        case measure => omega
        case rel => exact ⟨8, by omega, by omega, rfl, Sl.mono HZZ.out fun _ h => h.2, HVM6.out, HB6.out⟩
      · have e9 : ((if 10 = 0 then 0 else 2 ^ (10 - 1) : Nat) : Int) = 512 := by decide
        rw [e9]
        go_wp2_with (go_at_call 73; (with_reducible refine ((times_any _ _ _ _ (Big.lim (a ^ (24 / 2 ^ 10))) (Big.lim (a ^ (24 / 2 ^ 10))) (Big.lim_ok _) (Big.lim_ok _) (HLN.out _ (by decide)) (HLN.out _ (by decide)) _ (fun _ h => h) (fun _ h => h) HV.out HV.out).mono ?_)); rintro e w6 ⟨⟨v6, rfl, hv6⟩, hb6⟩; have HV6 := Lib.hid hv6; have HVM6 := Lib.hid (Sl.mono (SlU.keep HVM.out (Agree.below hb6 fun _ h => h)) fun _ h => Nat.lt_of_lt_of_le h hb6.size); have HB6 := Lib.hid (Bt HB.out hb6); clear hv6 hb6)
        have e : Big.lim (Big.val (Big.lim (a ^ (24 / 2 ^ 10))) * Big.val (Big.lim (a ^ (24 / 2 ^ 10)))) = Big.lim (a ^ (24 / 2 ^ 9)) := by
          rw [Big.val_lim, ← Nat.pow_add]
        have hz := HV6.out
        rw [e] at hz
        have HZZ := Lib.hid hz
        clear hz e
        go_roundg 9
        case measure => omega
        case rel => exact ⟨9, by omega, by omega, rfl, Sl.mono HZZ.out fun _ h => h.2, HVM6.out, HB6.out⟩
      · have e9 : ((if 11 = 0 then 0 else 2 ^ (11 - 1) : Nat) : Int) = 1024 := by decide
        rw [e9]
        go_wp2_with (go_at_call 73; (with_reducible refine ((times_any _ _ _ _ (Big.lim (a ^ (24 / 2 ^ 11))) (Big.lim (a ^ (24 / 2 ^ 11))) (Big.lim_ok _) (Big.lim_ok _) (HLN.out _ (by decide)) (HLN.out _ (by decide)) _ (fun _ h => h) (fun _ h => h) HV.out HV.out).mono ?_)); rintro e w6 ⟨⟨v6, rfl, hv6⟩, hb6⟩; have HV6 := Lib.hid hv6; have HVM6 := Lib.hid (Sl.mono (SlU.keep HVM.out (Agree.below hb6 fun _ h => h)) fun _ h => Nat.lt_of_lt_of_le h hb6.size); have HB6 := Lib.hid (Bt HB.out hb6); clear hv6 hb6)
        have e : Big.lim (Big.val (Big.lim (a ^ (24 / 2 ^ 11))) * Big.val (Big.lim (a ^ (24 / 2 ^ 11)))) = Big.lim (a ^ (24 / 2 ^ 10)) := by
          rw [Big.val_lim, ← Nat.pow_add]
        have hz := HV6.out
        rw [e] at hz
        have HZZ := Lib.hid hz
        clear hz e
        go_roundg 10
        case measure => omega
        case rel => exact ⟨10, by omega, by omega, rfl, Sl.mono HZZ.out fun _ h => h.2, HVM6.out, HB6.out⟩
      · have e9 : ((if 12 = 0 then 0 else 2 ^ (12 - 1) : Nat) : Int) = 2048 := by decide
        rw [e9]
        go_wp2_with (go_at_call 73; (with_reducible refine ((times_any _ _ _ _ (Big.lim (a ^ (24 / 2 ^ 12))) (Big.lim (a ^ (24 / 2 ^ 12))) (Big.lim_ok _) (Big.lim_ok _) (HLN.out _ (by decide)) (HLN.out _ (by decide)) _ (fun _ h => h) (fun _ h => h) HV.out HV.out).mono ?_)); rintro e w6 ⟨⟨v6, rfl, hv6⟩, hb6⟩; have HV6 := Lib.hid hv6; have HVM6 := Lib.hid (Sl.mono (SlU.keep HVM.out (Agree.below hb6 fun _ h => h)) fun _ h => Nat.lt_of_lt_of_le h hb6.size); have HB6 := Lib.hid (Bt HB.out hb6); clear hv6 hb6)
        have e : Big.lim (Big.val (Big.lim (a ^ (24 / 2 ^ 12))) * Big.val (Big.lim (a ^ (24 / 2 ^ 12)))) = Big.lim (a ^ (24 / 2 ^ 11)) := by
          rw [Big.val_lim, ← Nat.pow_add]
        have hz := HV6.out
        rw [e] at hz
        have HZZ := Lib.hid hz
        clear hz e
        go_roundg 11
        case measure => omega
        case rel => exact ⟨11, by omega, by omega, rfl, Sl.mono HZZ.out fun _ h => h.2, HVM6.out, HB6.out⟩
      · have e9 : ((if 13 = 0 then 0 else 2 ^ (13 - 1) : Nat) : Int) = 4096 := by decide
        rw [e9]
        go_wp2_with (go_at_call 73; (with_reducible refine ((times_any _ _ _ _ (Big.lim (a ^ (24 / 2 ^ 13))) (Big.lim (a ^ (24 / 2 ^ 13))) (Big.lim_ok _) (Big.lim_ok _) (HLN.out _ (by decide)) (HLN.out _ (by decide)) _ (fun _ h => h) (fun _ h => h) HV.out HV.out).mono ?_)); rintro e w6 ⟨⟨v6, rfl, hv6⟩, hb6⟩; have HV6 := Lib.hid hv6; have HVM6 := Lib.hid (Sl.mono (SlU.keep HVM.out (Agree.below hb6 fun _ h => h)) fun _ h => Nat.lt_of_lt_of_le h hb6.size); have HB6 := Lib.hid (Bt HB.out hb6); clear hv6 hb6)
        have e : Big.lim (Big.val (Big.lim (a ^ (24 / 2 ^ 13))) * Big.val (Big.lim (a ^ (24 / 2 ^ 13)))) = Big.lim (a ^ (24 / 2 ^ 12)) := by
          rw [Big.val_lim, ← Nat.pow_add]
        have hz := HV6.out
        rw [e] at hz
        have HZZ := Lib.hid hz
        clear hz e
        go_roundg 12
        case measure => omega
        case rel => exact ⟨12, by omega, by omega, rfl, Sl.mono HZZ.out fun _ h => h.2, HVM6.out, HB6.out⟩
      · have e9 : ((if 14 = 0 then 0 else 2 ^ (14 - 1) : Nat) : Int) = 8192 := by decide
        rw [e9]
        go_wp2_with (go_at_call 73; (with_reducible refine ((times_any _ _ _ _ (Big.lim (a ^ (24 / 2 ^ 14))) (Big.lim (a ^ (24 / 2 ^ 14))) (Big.lim_ok _) (Big.lim_ok _) (HLN.out _ (by decide)) (HLN.out _ (by decide)) _ (fun _ h => h) (fun _ h => h) HV.out HV.out).mono ?_)); rintro e w6 ⟨⟨v6, rfl, hv6⟩, hb6⟩; have HV6 := Lib.hid hv6; have HVM6 := Lib.hid (Sl.mono (SlU.keep HVM.out (Agree.below hb6 fun _ h => h)) fun _ h => Nat.lt_of_lt_of_le h hb6.size); have HB6 := Lib.hid (Bt HB.out hb6); clear hv6 hb6)
        have e : Big.lim (Big.val (Big.lim (a ^ (24 / 2 ^ 14))) * Big.val (Big.lim (a ^ (24 / 2 ^ 14)))) = Big.lim (a ^ (24 / 2 ^ 13)) := by
          rw [Big.val_lim, ← Nat.pow_add]
        have hz := HV6.out
        rw [e] at hz
        have HZZ := Lib.hid hz
        clear hz e
        go_roundg 13
        case measure => omega
        case rel => exact ⟨13, by omega, by omega, rfl, Sl.mono HZZ.out fun _ h => h.2, HVM6.out, HB6.out⟩
end Go.Proofs.YtnfpjcjlapljjaaGreatDoor
namespace Go.Proofs.YtnfpjcjlapljjaaGreatDoor
open Go Go.RowKit
namespace Pit
/-- Doubled till it is not less; the other doubled while it is not more than half; how often 4 goes. -/
def up : Nat → Nat → Nat → Int → Nat × Int
  | 0, num, _, n => (num, n)
  | g + 1, num, den, n => if num < den then up g (num * 2) den (n - 12) else (num, n)
def dn : Nat → Nat → Nat → Int → Nat × Int
  | 0, _, den, n => (den, n)
  | g + 1, num, den, n => if 2 * den ≤ num then dn g num (den * 2) (n + 12) else (den, n)
def fo : Nat → Nat → Nat → Int → Int
  | 0, _, _, n => n
  | g + 1, p, l, n => if l < p then fo g p (l * 4) (n + 1) else n
/-- What the loops come to. -/
def shF (num den : Nat) : Int :=
  let a := up 32 num den 0
  let b := dn 32 a.1 den a.2
  fo 32 (a.1 ^ 24) (b.1 ^ 24 * 2) b.2
theorem up_done {g num den : Nat} {n : Int} (h : den ≤ num) : up g num den n = (num, n) := by
  cases g with
  | zero => rfl
  | succ g => rw [up, if_neg (by omega)]
theorem up_next {g num den : Nat} {n : Int} (h : num < den) : up (g + 1) num den n = up g (num * 2) den (n - 12) := by rw [up, if_pos h]
theorem dn_done {g num den : Nat} {n : Int} (h : num < 2 * den) : dn g num den n = (den, n) := by
  cases g with
  | zero => rfl
  | succ g => rw [dn, if_neg (by omega)]
theorem dn_next {g num den : Nat} {n : Int} (h : 2 * den ≤ num) : dn (g + 1) num den n = dn g num (den * 2) (n + 12) := by rw [dn, if_pos h]
theorem fo_done {g p l : Nat} {n : Int} (h : p ≤ l) : fo g p l n = n := by
  cases g with
  | zero => rfl
  | succ g => rw [fo, if_neg (by omega)]
theorem fo_next {g p l : Nat} {n : Int} (h : l < p) : fo (g + 1) p l n = fo g p (l * 4) (n + 1) := by rw [fo, if_pos h]
end Pit
end Go.Proofs.YtnfpjcjlapljjaaGreatDoor
