/- Walk over pitch: shift. -/
import Derived.Test.YtnfpjcjlapljjaaGreatDoorQ3
import Derived.Test.YtnfpjcjlapljjaaGreatDoorW7
namespace Go.Proofs.YtnfpjcjlapljjaaGreatDoor
open Go Go.RowKit Go.Shelf
theorem decS_one (k : Nat) (h : k < 10) : decS k = ⟨#[UInt8.ofNat (48 + k)]⟩ := by
  unfold decS
  rw [Lib.decDigits, dif_pos h]
theorem nd_le {x k : Nat} (hk : 0 < k) (h : x < 10 ^ k) : Lib.nDigits x ≤ k := (Big.nDigits_lt k hk).2 h
theorem p24 {x : Nat} (h : x ≤ 4194304) : x ^ 24 ≤ 4194304 ^ 24 := Nat.pow_le_pow_left h 24
set_option maxRecDepth 100000 in
set_option maxHeartbeats 4000000 in
theorem shift_any (fn fd on od : Nat) (h1 : 1 ≤ fn) (h2 : 1 ≤ fd) (h3 : 1 ≤ on) (h4 : 1 ≤ od) (hnum : on * fd ≤ 2097152) (hden : od * fn ≤ 2097152) (w : World) (hT : TabP w) :
    Calls Tryz.prog 64 #[.agg #[.int .i64 (fn : Int), .int .i64 (fd : Int)], .agg #[.int .i64 (on : Int), .int .i64 (od : Int)]] w fun e w' => e = .returned (.int .i64 (Pit.shF (on * fd) (od * fn))) ∧ Below w.heap.size w w' := by
  have hn0 : 1 ≤ on * fd := Nat.mul_le_mul h3 h2
  have hd0 : 1 ≤ od * fn := Nat.mul_le_mul h4 h1
  have hnI : (on : Int) * (fd : Int) = ((on * fd : Nat) : Int) := (Int.natCast_mul _ _).symm
  have hdI : (od : Int) * (fn : Int) = ((od * fn : Nat) : Int) := (Int.natCast_mul _ _).symm
  obtain ⟨nu, hnu⟩ : ∃ x, on * fd = x := ⟨_, rfl⟩
  obtain ⟨de, hde⟩ : ∃ x, od * fn = x := ⟨_, rfl⟩
  rw [hnu] at hnum hn0 hnI ⊢
  rw [hde] at hden hd0 hdI ⊢
  have hnb : (on : Int) * (fd : Int) ≤ 2097152 := by rw [hnI]; omega
  have hnb0 : 0 ≤ (on : Int) * (fd : Int) := by rw [hnI]; omega
  have hdb : (od : Int) * (fn : Int) ≤ 2097152 := by rw [hdI]; omega
  have hdb0 : 0 ≤ (od : Int) * (fn : Int) := by rw [hdI]; omega
  obtain ⟨w1, hw1⟩ : ∃ w1 : World, (w.alloc (.cells #[.int .i64 (fn : Int), .int .i64 (fd : Int)] 82)).alloc (.cells #[.int .i64 (on : Int), .int .i64 (od : Int)] 82) = w1 := ⟨_, rfl⟩
  obtain ⟨b, hb⟩ : ∃ b, w.heap.size = b := ⟨_, rfl⟩
  have C1 : Blk w1 b 82 #[.int .i64 (fn : Int), .int .i64 (fd : Int)] := by rw [← hw1, ← hb]; exact (Blk.new _ _ _).alloc _
  have C2 : Blk w1 (b + 1) 82 #[.int .i64 (on : Int), .int .i64 (od : Int)] := by
    have h := Blk.new (w.alloc (.cells #[.int .i64 (fn : Int), .int .i64 (fd : Int)] 82)) 82 #[.int .i64 (on : Int), .int .i64 (od : Int)]
    rw [World.size_alloc, hw1, hb] at h
    exact h
  have hB1 : Below w.heap.size w w1 := by rw [← hw1]; exact Ba (Ba (B0 w) _) _
  have k0 : ∀ q : Cls54 w1, q.w.cell? ⟨b, 0, none⟩ = some (.int .i64 fn) := fun q => (Bc q.b C1.lt).trans (by simpa using C1.cell 0)
  have k1 : ∀ q : Cls54 w1, q.w.cell? ⟨b, 1, none⟩ = some (.int .i64 fd) := fun q => (Bc q.b C1.lt).trans (by simpa using C1.cell 1)
  have k2 : ∀ q : Cls54 w1, q.w.cell? ⟨b + 1, 0, none⟩ = some (.int .i64 on) := fun q => (Bc q.b C2.lt).trans (by simpa using C2.cell 0)
  have k3 : ∀ q : Cls54 w1, q.w.cell? ⟨b + 1, 1, none⟩ = some (.int .i64 od) := fun q => (Bc q.b C2.lt).trans (by simpa using C2.cell 1)
  have HB1 := Lib.hid hB1
  have HW1 := Lib.hid hw1
  have HBB := Lib.hid hb
  have HTT := Lib.hid hT
  have HNI := Lib.hid hnI
  have HDI := Lib.hid hdI
  obtain ⟨R, hR⟩ : ∃ R, Pit.shF nu de = R := ⟨_, rfl⟩
  rw [hR]
  have HR := Lib.hid hR
  clear hB1 hw1 hb C1 C2 hT hnI hdI hnu hde hR
  go_enter Tryz.func64, Tryz.ntmps64
  go_upto_region 1 with fail
  rw [HW1.out, HBB.out]
  refine wp_region_class54_lit (C := fun w' => ∃ q : Cls54 w1, w' = q.w) (by kernel_rfl) (by kernel_rfl) ⟨Cls54.mk' (B0 w1).drew, rfl⟩ ?_
  repeat (any_goals (first | go_big_quiet_step (fail) | quiet_step (fail)))
  refine wpQuiet_nil ?_
  rintro _ ⟨q, rfl⟩
  have HB2 := Lib.hid (Bt HB1.out q.b)
  clear k0 k1 k2 k3
  generalize q.w = w2 at *
  rw [HNI.out, HDI.out]
  clear hnb hnb0 hdb hdb0
  obtain ⟨A, hA⟩ : ∃ A, Pit.up 32 nu de 0 = A := ⟨_, rfl⟩
  have hRA : Pit.fo 32 (A.1 ^ 24) ((Pit.dn 32 A.1 de A.2).1 ^ 24 * 2) (Pit.dn 32 A.1 de A.2).2 = R := by rw [← HR.out, ← hA]; rfl
  have HA := Lib.hid hA
  have HRA := Lib.hid hRA
  clear hA hRA
  go_upto_region 3 with fail
  go_loopg [5, 7] 33 (fun gg s5 s7 wr => ∃ (x g : Nat) (n : Int), s5 = .int .i64 (x : Int) ∧ s7 = .int .i64 n ∧ g < gg ∧ 1 ≤ x ∧ x ≤ 4194304 ∧ -(12 * 32) ≤ n - 12 * (g : Int) ∧ n ≤ 0 ∧ Aside (de ≤ x * 2 ^ g) ∧ Aside (Pit.up g x de n = A) ∧ wr = w2)
  case atStart => exact ⟨nu, 32, 0, rfl, rfl, by omega, hn0, by omega, by omega, by omega, (show de ≤ nu * 2 ^ 32 by have : 1 * 2 ^ 32 ≤ nu * 2 ^ 32 := Nat.mul_le_mul_right _ hn0; omega), HA.out, rfl⟩
  case round =>
    obtain ⟨x, g, n, rfl, rfl, hgg, hx1, hx2, hn1, hn2, HG, HU, rfl⟩ := hrel
    replace HG : Hid (de ≤ x * 2 ^ g) := Lib.hid HG
    replace HU : Hid (Pit.up g x de n = A) := Lib.hid HU
    obtain ⟨w2, rfl⟩ : ∃ w2 : World, w2 = wr := ⟨_, rfl⟩
    obtain ⟨ga, rfl⟩ : ∃ ga : Nat, ga = gk := ⟨_, rfl⟩
    by_cases hlt : x < de
    · have hltI : (x : Int) < de := by omega
      obtain ⟨g', rfl⟩ : ∃ g', g = g' + 1 := ⟨g - 1, by
        rcases Nat.eq_zero_or_pos g with e | e
        · have := HG.out
          rw [e, Nat.pow_zero, Nat.mul_one] at this
          omega
        · omega⟩
      have hG2 : de ≤ x * 2 * 2 ^ g' := by
        have := HG.out
        rw [Nat.pow_succ, Nat.mul_comm (2 ^ g'), ← Nat.mul_assoc] at this
        exact this
      have hU2 := HU.out
      rw [Pit.up_next hlt] at hU2
      have HG2 := Lib.hid hG2
      have HU2 := Lib.hid hU2
      clear hG2 hU2
      go_wp2_with fail
      go_roundg (g' + 1)
      case measure => omega
      case rel => exact ⟨x * 2, g', n - 12, by simp, rfl, by omega, by omega, by omega, by omega, by omega, HG2.out, HU2.out, rfl⟩
    · have hltI : ¬ (x : Int) < de := by omega
      have hU := HU.out
      rw [Pit.up_done (by omega)] at hU
      obtain ⟨B, hB⟩ : ∃ B, Pit.dn 32 x de n = B := ⟨_, rfl⟩
      have hRB := HRA.out
      rw [← hU] at hRB
      dsimp only at hRB
      rw [hB] at hRB
      have HBd := Lib.hid hB
      have HRB := Lib.hid hRB
      clear hU hB hRB
      go_upto_region 6 with fail
      go_loopg [6, 7] 33 (fun gg s6 s7 wr => ∃ (d g : Nat) (m : Int), s6 = .int .i64 (d : Int) ∧ s7 = .int .i64 m ∧ g < gg ∧ 1 ≤ d ∧ d ≤ 4194304 ∧ m + 12 * (g : Int) ≤ n + 12 * 32 ∧ n ≤ m ∧ Aside (x < d * 2 ^ (g + 1)) ∧ Aside (Pit.dn g x d m = B) ∧ wr = w2)
      case atStart => exact ⟨de, 32, n, rfl, rfl, by omega, hd0, by omega, by omega, by omega, (show x < de * 2 ^ 33 by have : 1 * 2 ^ 33 ≤ de * 2 ^ 33 := Nat.mul_le_mul_right _ hd0; omega), HBd.out, rfl⟩
      case round =>
        obtain ⟨d, g2, m, rfl, rfl, hgg2, hd1, hd2, hm1, hm2, HG, HU, rfl⟩ := hrel
        replace HG : Hid (x < d * 2 ^ (g2 + 1)) := Lib.hid HG
        replace HU : Hid (Pit.dn g2 x d m = B) := Lib.hid HU
        obtain ⟨w2, rfl⟩ : ∃ w2 : World, w2 = wr := ⟨_, rfl⟩
        by_cases hge : 2 * d ≤ x
        · have hgeI : 2 * (d : Int) ≤ x := by omega
          obtain ⟨g', rfl⟩ : ∃ g', g2 = g' + 1 := ⟨g2 - 1, by
            rcases Nat.eq_zero_or_pos g2 with e | e
            · have := HG.out
              rw [e] at this
              simp at this
              omega
            · omega⟩
          have hG2 : x < d * 2 * 2 ^ (g' + 1) := by
            have := HG.out
            rw [Nat.pow_succ, Nat.mul_comm (2 ^ (g' + 1)), ← Nat.mul_assoc] at this
            exact this
          have hU2 := HU.out
          rw [Pit.dn_next hge] at hU2
          have HG2 := Lib.hid hG2
          have HU2 := Lib.hid hU2
          clear hG2 hU2
          go_wp2_with fail
          go_roundg (g' + 1)
          case measure => omega
          case rel => exact ⟨d * 2, g', m + 12, by simp, rfl, by omega, by omega, by omega, by omega, by omega, HG2.out, HU2.out, rfl⟩
        · have hgeI : ¬ 2 * (d : Int) ≤ x := by omega
          have hU := HU.out
          rw [Pit.dn_done (by omega)] at hU
          have hRC := HRB.out
          rw [← hU] at hRC
          dsimp only at hRC
          have hpx := p24 hx2
          have hpd := p24 hd2
          have hxd : x ^ 24 ≤ (d ^ 24 * 2) * 4 ^ 32 := by
            have q1 : x ^ 24 ≤ (2 * d) ^ 24 := Nat.pow_le_pow_left (by omega) 24
            rw [Nat.mul_pow] at q1
            have q2 : 2 ^ 24 * d ^ 24 ≤ (d ^ 24 * 2) * 4 ^ 32 := by
              rw [Nat.mul_assoc, Nat.mul_comm (2 ^ 24)]
              exact Nat.mul_le_mul_left _ (by decide)
            exact Nat.le_trans q1 q2
          have HXD := Lib.hid hxd
          have HRC := Lib.hid hRC
          have h7x : Lib.nDigits x ≤ 100 := Nat.le_trans (nd_le (k := 7) (by decide) (Nat.lt_of_le_of_lt hx2 (by decide))) (by decide)
          have h7d : Lib.nDigits d ≤ 100 := Nat.le_trans (nd_le (k := 7) (by decide) (Nat.lt_of_le_of_lt hd2 (by decide))) (by decide)
          have HOX := Lib.hid (fun W h => iof_any x (by omega) W h)
          have HOD := Lib.hid (fun W h => iof_any d (by omega) W h)
          have HPX := Lib.hid (fun W h => power_any x h7x W h)
          have HPD := Lib.hid (fun W h => power_any d h7d W h)
          obtain ⟨p, hp⟩ : ∃ p, x ^ 24 = p := ⟨_, rfl⟩
          obtain ⟨q, hq⟩ : ∃ q, d ^ 24 = q := ⟨_, rfl⟩
          rw [hp] at hpx HXD HRC HPX
          rw [hq] at hpd HXD HRC HPD
          have hbig : (4194304 : Nat) ^ 24 * 8 < 10 ^ 170 := by decide
          have hnp : Lib.nDigits p ≤ 10000 := Nat.le_trans (nd_le (k := 170) (by decide) (Nat.lt_of_le_of_lt hpx (Nat.lt_of_le_of_lt (Nat.le_mul_of_pos_right _ (by decide)) hbig))) (by decide)
          have hnl : ∀ l, l ≤ 4194304 ^ 24 * 8 → Lib.nDigits l ≤ 10000 := fun l hl => Nat.le_trans (nd_le (k := 170) (by decide) (Nat.lt_of_le_of_lt hl hbig)) (by decide)
          have hq1 : q ≤ 4194304 ^ 24 * 8 := Nat.le_trans hpd (Nat.le_mul_of_pos_right _ (by decide))
          have hql : q * 2 ≤ 4194304 ^ 24 * 8 := Nat.mul_le_mul hpd (by decide)
          have HM2 := Lib.hid (fun W h => mul_any q 2 (hnl q hq1) (by have := nd_le (x := 2) (k := 1) (by decide) (by decide); omega) W h)
          have HCM := Lib.hid (fun l (hl : l ≤ 4194304 ^ 24 * 8) W => compare_any p l hnp (hnl l hl) W)
          have HM4 := Lib.hid (fun l (hl : l ≤ 4194304 ^ 24 * 8) W h => mul_any l 4 (hnl l hl) (by have := nd_le (x := 4) (k := 1) (by decide) (by decide); omega) W h)
          have HPB := Lib.hid hpx
          have HQL := Lib.hid hql
          have e2 : decS 2 = ⟨#[50]⟩ := decS_one 2 (by decide)
          have e4 : decS 4 = ⟨#[52]⟩ := decS_one 4 (by decide)
          rw [e2] at HM2
          rw [e4] at HM4
          clear hU hRC hpx hpd hxd h7x h7d hp hq hbig hnp hnl hq1 hql e2 e4
          go_upto_region 10 with (first | (go_at_call 67; (with_reducible refine ((HOX.out _ (HTT.out.below HB2.out)).mono ?_)); rintro e w3 ⟨rfl, hbn⟩; have HB3 := Lib.hid (Bt HB2.out hbn); clear hbn) | (go_at_call 66; (with_reducible refine ((HPX.out _ (HTT.out.below HB3.out)).mono ?_)); rintro e w4 ⟨rfl, hbn⟩; have HB4 := Lib.hid (Bt HB3.out hbn); clear hbn))
          go_upto_region 11 with (first | (go_at_call 67; (with_reducible refine ((HOD.out _ (HTT.out.below HB4.out)).mono ?_)); rintro e w5 ⟨rfl, hbn⟩; have HB5 := Lib.hid (Bt HB4.out hbn); clear hbn) | (go_at_call 66; (with_reducible refine ((HPD.out _ (HTT.out.below HB5.out)).mono ?_)); rintro e w6 ⟨rfl, hbn⟩; have HB6 := Lib.hid (Bt HB5.out hbn); clear hbn))
          go_upto_region 12 with (go_at_call 68; (with_reducible refine ((HM2.out _ (HTT.out.below HB6.out)).mono ?_)); rintro e w7 ⟨rfl, hbn⟩; have HB7 := Lib.hid (Bt HB6.out hbn); clear hbn)
          have hmlo : -384 ≤ m := by omega
          have hmhi : m ≤ 384 := by omega
          have HB8 := Lib.hid HB7.out
          clear HG HU hgeI hltI hge hlt hgg hgg2
          go_loopg [7, 12] 33 (fun gg s7 s12 wr => ∃ (l g : Nat) (z : Int), s12 = .string (decS l) ∧ s7 = .int .i64 z ∧ g < gg ∧ z + (g : Int) ≤ m + 32 ∧ m ≤ z ∧ Aside (l ≤ 4194304 ^ 24 * 8) ∧ Aside (p ≤ l * 4 ^ g) ∧ Aside (Pit.fo g p l z = R) ∧ Aside (Below w.heap.size w wr))
          case atStart => exact ⟨q * 2, 32, m, rfl, rfl, by omega, by omega, by omega, HQL.out, HXD.out, HRC.out, HB8.out⟩
          case round =>
            obtain ⟨l, g, z, rfl, rfl, hg3, hz1, hz2, HL, HG, HU, HB⟩ := hrel
            replace HL : Hid (l ≤ 4194304 ^ 24 * 8) := Lib.hid HL
            replace HG : Hid (p ≤ l * 4 ^ g) := Lib.hid HG
            replace HU : Hid (Pit.fo g p l z = R) := Lib.hid HU
            replace HB : Hid (Below w.heap.size w wr) := Lib.hid HB
            obtain ⟨wo, rfl⟩ : ∃ wo : World, wo = wr := ⟨_, rfl⟩
            have HC := Lib.hid (HCM.out l HL.out wo)
            by_cases hlp : l < p
            · have ec : Big.cmp p l = 1 := by unfold Big.cmp; rw [if_neg (by omega), if_pos hlp]
              rw [ec] at HC
              obtain ⟨g', rfl⟩ : ∃ g', g = g' + 1 := ⟨g - 1, by
                rcases Nat.eq_zero_or_pos g with e | e
                · have := HG.out
                  rw [e, Nat.pow_zero, Nat.mul_one] at this
                  omega
                · omega⟩
              have hG2 : p ≤ l * 4 * 4 ^ g' := by
                have := HG.out
                rw [Nat.pow_succ, Nat.mul_comm (4 ^ g'), ← Nat.mul_assoc] at this
                exact this
              have hU2 := HU.out
              rw [Pit.fo_next hlp] at hU2
              have hl2 : l * 4 ≤ 4194304 ^ 24 * 8 := by
                have h1 : l * 4 ≤ 4194304 ^ 24 * 4 := Nat.mul_le_mul_right 4 (Nat.le_trans (Nat.le_of_lt hlp) HPB.out)
                exact Nat.le_trans h1 (Nat.mul_le_mul_left _ (by decide))
              have HM := Lib.hid (fun W h => HM4.out l HL.out W h)
              have HG2 := Lib.hid hG2
              have HU2 := Lib.hid hU2
              have HL2 := Lib.hid hl2
              clear hG2 hU2 hl2 ec hlp
              go_wp2_with (first | (go_at_call 69; (with_reducible refine (HC.out.mono ?_)); rintro e w9 ⟨rfl, e9⟩; obtain rfl : wo = w9 := e9.symm) | (go_at_call 68; (with_reducible refine ((HM.out _ (HTT.out.below HB.out)).mono ?_)); rintro e w9 ⟨rfl, hb9⟩; have HB9 := Lib.hid (Bt HB.out hb9); clear hb9))
              go_roundg (g' + 1)
              case measure => omega
              case rel => exact ⟨l * 4, g', z + 1, rfl, rfl, by omega, by omega, by omega, HL2.out, HG2.out, HU2.out, HB9.out⟩
            · have hU := HU.out
              rw [Pit.fo_done (by omega)] at hU
              have hcz : Big.cmp p l ≤ 0 := by
                unfold Big.cmp
                rw [if_neg hlp]
                split <;> decide
              obtain ⟨cz, hc⟩ : ∃ cz, Big.cmp p l = cz := ⟨_, rfl⟩
              rw [hc] at HC hcz
              have hczI : ¬ 0 < cz := by omega
              have HUU := Lib.hid hU
              clear hU hc hlp
              go_wp2_with (go_at_call 69; (with_reducible refine (HC.out.mono ?_)); rintro e w9 ⟨rfl, e9⟩; obtain rfl : wo = w9 := e9.symm)
              go_ret
              exact ⟨by rw [← HUU.out]; rfl, HB.out⟩
end Go.Proofs.YtnfpjcjlapljjaaGreatDoor
