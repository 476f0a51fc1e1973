/- Walks over coupler's statements: CouplerChecks. -/
import Derived.Test.YtnkjhppjjklgfaaDoorUa
import Derived.Test.YtnkjhppjjklgfaaDoorUb
import Derived.Test.YtnkjhppjjklgfaaDoorOf
import Derived.Test.YtnkjhppjjklgfaaDoorKr
import Derived.Test.YtnkjhppjjklgfaaDoorKk
namespace Go.Proofs.YtnkjhppjjklgfaaDoor
open Go Go.RowKit Go.Shelf
theorem bad_nil {a : Cou.Ac} (hr : Cou.rightF a ≠ 0) : Cou.allErr a [] = Cou.rightF a ∧ Cou.soundErr a [] 0 = Cou.rightF a := by
  have h : Cou.allErr a [] = Cou.rightF a := by unfold Cou.allErr; rw [if_neg hr]
  refine ⟨h, ?_⟩
  unfold Cou.soundErr
  rw [h, if_neg hr]
theorem bad_step {a : Cou.Ac} (hr : Cou.rightF a ≠ 0) (i : Int) (c : Cou.Ct) : stepRV (stepR a i c) = .tuple #[.agg #[.int .i64 0, .int .i64 0], .bool false, .int .i64 (Cou.rightF a)] := by
  unfold stepR
  rw [if_neg hr]
  rfl
theorem right_of_check {a : Cou.Ac} (h : Cou.checkF a.divs a.cps ≠ 0) : Cou.rightF a = Cou.checkF a.divs a.cps := by unfold Cou.rightF; rw [if_neg h]
theorem right_of_zero {a : Cou.Ac} (h : Cou.checkF a.divs a.cps = 0) : Cou.rightF a = if a.drawn >>> a.cps.length = 0 then 0 else 3 := by unfold Cou.rightF; rw [if_pos h]
theorem Step_bad (a : Cou.Ac) (vd vc : Value) (hdr : a.drawn < 2 ^ 64) (hr : Cou.rightF a ≠ 0) (w : World) (F : Nat → Prop) (hA : AcAt F w vd vc a) :
    Calls Tryd.prog 17 #[.agg #[vd, vc, .int .u64 a.drawn], .int .i64 (-1), .agg #[.int .i64 0, .int .i64 0]] w fun e w' => e = .returned (.tuple #[.agg #[.int .i64 0, .int .i64 0], .bool false, .int .i64 (Cou.rightF a)]) ∧ Below w.heap.size w w' :=
  (Step_any a vd vc hdr (-1) (0, 0) w F hA).mono fun e w' ⟨h1, h2⟩ => ⟨by rw [h1, bad_step hr], h2⟩
theorem Reach_bad (a : Cou.Ac) (vd vc : Value) (hdr : a.drawn < 2 ^ 64) (hr : Cou.rightF a ≠ 0) (w : World) (F : Nat → Prop) (hA : AcAt F w vd vc a) (hT : Tab64 w) (hg : 0 < w.heap.size) :
    Calls Tryd.prog 13 #[.agg #[vd, vc, .int .u64 a.drawn], .agg #[.int .i64 (-1), .int .i64 0]] w fun e w' => ∃ A c, e = .returned (.tuple #[.slice A 0 c, .int .i64 (Cou.rightF a)]) ∧ Below w.heap.size w w' :=
  (Reach_any a vd vc hdr (-1, 0) w F hA hT hg).mono fun e w' ⟨v, l, h1, h2, h3, _, h5⟩ => by
    have he : reachErr a (-1, 0) = Cou.rightF a := by unfold reachErr; rw [if_neg hr]
    obtain rfl := h3 (by rw [he]; exact hr)
    obtain ⟨A, c, rfl, _⟩ := h2
    exact ⟨A, c, by rw [h1, he]; rfl, h5⟩
theorem All_bad (a : Cou.Ac) (vd vc : Value) (hdr : a.drawn < 2 ^ 64) (hr : Cou.rightF a ≠ 0) (w : World) (F : Nat → Prop) (hA : AcAt F w vd vc a) (hT : Tab64 w) (hg : 0 < w.heap.size) :
    Calls Tryd.prog 27 #[.agg #[vd, vc, .int .u64 a.drawn], .slice none 0 0] w fun e w' => e = .returned (.tuple #[.slice none 0 0, .int .i64 (Cou.rightF a)]) ∧ Below w.heap.size w w' :=
  (All_any a vd vc (.slice none 0 0) hdr [] (by simp) w F (fun _ => False) hA (fun _ h => h.elim) Sl.nil_ hT hg).mono fun e w' ⟨v, h1, h2, h3⟩ => by
    obtain ⟨he, _⟩ := bad_nil hr
    obtain rfl := h2.1 (by rw [he]; exact hr)
    exact ⟨by rw [h1, he], h3⟩
theorem Sounding_bad (a : Cou.Ac) (vd vc : Value) (hdr : a.drawn < 2 ^ 64) (hr : Cou.rightF a ≠ 0) (w : World) (F : Nat → Prop) (hA : AcAt F w vd vc a) (hT : Tab64 w) (hg : 0 < w.heap.size) :
    Calls Tryd.prog 24 #[.agg #[vd, vc, .int .u64 a.drawn], .slice none 0 0, .int .u64 0] w fun e w' => e = .returned (.tuple #[.slice none 0 0, .int .i64 (Cou.rightF a)]) ∧ Below w.heap.size w w' :=
  (Sounding_any a vd vc (.slice none 0 0) hdr [] (by simp) 0 (by decide) w F (fun _ => False) hA (fun _ h => h.elim) Sl.nil_ hT hg).mono fun e w' ⟨v, h1, h2, h3⟩ => by
    obtain ⟨_, he⟩ := bad_nil hr
    obtain rfl := h2.1 (by rw [he]; exact hr)
    exact ⟨by rw [h1, he], h3⟩
set_option maxRecDepth 100000 in
set_option maxHeartbeats 8000000 in
theorem law_checks (a : Cou.Ac) (vd vc : Value) (hdr : a.drawn < 2 ^ 64) (w : World) (F : Nat → Prop) (hA : AcAt F w vd vc a) (hT : Tab64 w) (hg : 0 < w.heap.size) :
    Calls Tryd.prog 10 #[.agg #[vd, vc, .int .u64 a.drawn]] w fun e w' => e = .returned (.bool true) ∧ Below w.heap.size w w' := by
  have hFF := hA.inW
  have HK := Lib.hid (fun W (hb : Below w.heap.size w W) => known_any W (hT.below hb) (Nat.lt_of_lt_of_le hg hb.size))
  have HLC := Lib.hid (fun W (hb : Below w.heap.size w W) => lcheck_any vd vc a.divs a.cps W F (hA.onB hFF hb).inW (hA.onB hFF hb).dv (hA.onB hFF hb).cp)
  have HPC := Lib.hid (fun W (hb : Below w.heap.size w W) => check_any vd vc a.divs a.cps W F (hA.onB hFF hb).inW (hA.onB hFF hb).dv (hA.onB hFF hb).cp)
  have HRT := Lib.hid (fun W (hb : Below w.heap.size w W) => right_any a vd vc hdr W F (hA.onB hFF hb))
  have HST := Lib.hid (fun hr W (hb : Below w.heap.size w W) => Step_bad a vd vc hdr hr W F (hA.onB hFF hb))
  have HRE := Lib.hid (fun hr W (hb : Below w.heap.size w W) => Reach_bad a vd vc hdr hr W F (hA.onB hFF hb) (hT.below hb) (Nat.lt_of_lt_of_le hg hb.size))
  have HAL := Lib.hid (fun hr W (hb : Below w.heap.size w W) => All_bad a vd vc hdr hr W F (hA.onB hFF hb) (hT.below hb) (Nat.lt_of_lt_of_le hg hb.size))
  have HSO := Lib.hid (fun hr W (hb : Below w.heap.size w W) => Sounding_bad a vd vc hdr hr W F (hA.onB hFF hb) (hT.below hb) (Nat.lt_of_lt_of_le hg hb.size))
  have HMX := Lib.hid (fun hr W (hb : Below w.heap.size w W) => Matrix_bad a vd vc hdr hr W F (hA.onB hFF hb))
  have HBK := Lib.hid (fun hr W (hb : Below w.heap.size w W) => Back_bad a vd vc hdr hr W F (hA.onB hFF hb))
  have HID := Lib.hid (fun hr W (hb : Below w.heap.size w W) => Idle_bad a vd vc hdr hr W F (hA.onB hFF hb))
  obtain ⟨Ad, cd, rfl, _, _⟩ := id hA.dv.open
  obtain ⟨Ac, cc, rfl, _, hcat⟩ := id hA.cp.open
  obtain ⟨n, hn⟩ : ∃ n, a.divs.length = n := ⟨_, rfl⟩
  obtain ⟨m, hm⟩ : ∃ m, a.cps.length = m := ⟨_, rfl⟩
  have HM := Lib.hid hm
  have HNM : Hid (∀ i, i < m → ∃ ad nm, Ac = some ad ∧ ∀ W, Below w.heap.size w W → W.cell? (ad.add (i * 5)) = some (.string nm)) := Lib.hid fun i hi => by
    obtain ⟨ad, e, hf, hfl⟩ := hcat i (by omega)
    exact ⟨ad, _, e, fun W hb => (hfl.below hb (by rw [block_of_add]; exact hFF _ hf)).f0 rfl⟩
  have hsh := right_of_zero (a := a)
  have hrc := right_of_check (a := a)
  have HRZ := Lib.hid hsh
  have HRC := Lib.hid hrc
  have HCK : Hid (∀ (_ : Cou.checkF a.divs a.cps = 0), m ≤ 40) := Lib.hid fun h => by
    have := (Cou.check_ok h).2.1
    omega
  rw [hn] at HLC HPC HRT HST HRE HAL HSO HMX HBK HID ⊢
  rw [hm] at HLC HPC HRT HST HRE HAL HSO HMX HBK HID HRZ ⊢
  clear hcat hn hm hsh hrc hA hT
  obtain ⟨w1, hw1⟩ : ∃ w1 : World, w.alloc (.cells #[.slice Ad n cd, .slice Ac m cc, .int .u64 a.drawn] 34) = w1 := ⟨_, rfl⟩
  obtain ⟨B, hBB⟩ : ∃ B, w.heap.size = B := ⟨_, rfl⟩
  have AB : Blk w1 B 34 #[.slice Ad n cd, .slice Ac m cc, .int .u64 a.drawn] := by rw [← hw1, ← hBB]; exact Blk.new _ _ _
  have B1 : Below w.heap.size w w1 := by rw [← hw1]; exact Ba (B0 w) _
  have HX := Lib.hid (fun W (hb : Below w1.heap.size w1 W) => (show W.cell? ⟨B, 0, none⟩ = some (.slice Ad n cd) ∧ W.cell? ⟨B, 1, none⟩ = some (.slice Ac m cc) ∧ W.cell? ⟨B, 2, none⟩ = some (.int .u64 a.drawn) from
    ⟨(Bc hb AB.lt).trans (AB.cell 0), (Bc hb AB.lt).trans (AB.cell 1), (Bc hb AB.lt).trans (AB.cell 2)⟩))
  have HB1 := Lib.hid B1
  have HW1 := Lib.hid hw1
  have HBB := Lib.hid hBB
  have hzc := zeroCt
  clear AB B1 hw1 hBB
  go_enter Tryd.func10, Tryd.ntmps10
  go_upto_region 1 with fail
  rw [HW1.out, HBB.out]
  obtain ⟨x0, x1, x2⟩ := HX.out w1 (B0 w1)
  by_cases h1 : 10 < n
  · have e1 : decide ((10 : Int) < n) = true := decide_eq_true (by omega)
    go_wp2_with (first
      | (go_at_call 11; (with_reducible refine ((HK.out _ HB2.out).mono ?_)); rintro e w3 ⟨rfl, hb3⟩; have HB3 := Lib.hid (Bt HB2.out hb3); clear hb3)
      | (go_at_call 11; (with_reducible refine ((HK.out _ HB1.out).mono ?_)); rintro e w2 ⟨rfl, hb2⟩; have HB2 := Lib.hid (Bt HB1.out hb2); obtain ⟨y0, y1, y2⟩ := HX.out w2 hb2; clear hb2))
    go_ret
    exact ⟨rfl, HB3.out⟩
  have e1 : decide ((10 : Int) < n) = false := decide_eq_false (by omega)
  by_cases h2 : 6 < m ∧ m < 39
  · have e2 : decide ((6 : Int) < m) = true := decide_eq_true (by omega)
    have e3 : decide ((m : Int) < 39) = true := decide_eq_true (by omega)
    have e3' : decide (m < 39) = true := decide_eq_true (by omega)
    go_wp2_with (first
      | (go_at_call 11; (with_reducible refine ((HK.out _ HB2.out).mono ?_)); rintro e w3 ⟨rfl, hb3⟩; have HB3 := Lib.hid (Bt HB2.out hb3); clear hb3)
      | (go_at_call 11; (with_reducible refine ((HK.out _ HB1.out).mono ?_)); rintro e w2 ⟨rfl, hb2⟩; have HB2 := Lib.hid (Bt HB1.out hb2); obtain ⟨y0, y1, y2⟩ := HX.out w2 hb2; clear hb2))
    go_ret
    exact ⟨rfl, HB3.out⟩
  by_cases h3 : 42 < m
  · have e2 : decide ((6 : Int) < m) = true := decide_eq_true (by omega)
    have e3 : decide ((m : Int) < 39) = false := decide_eq_false (by omega)
    have e3' : decide (m < 39) = false := decide_eq_false (by omega)
    have e4 : decide ((42 : Int) < m) = true := decide_eq_true (by omega)
    go_wp2_with (first
      | (go_at_call 11; (with_reducible refine ((HK.out _ HB2.out).mono ?_)); rintro e w3 ⟨rfl, hb3⟩; have HB3 := Lib.hid (Bt HB2.out hb3); clear hb3)
      | (go_at_call 11; (with_reducible refine ((HK.out _ HB1.out).mono ?_)); rintro e w2 ⟨rfl, hb2⟩; have HB2 := Lib.hid (Bt HB1.out hb2); obtain ⟨y0, y1, y2⟩ := HX.out w2 hb2; clear hb2))
    go_ret
    exact ⟨rfl, HB3.out⟩
  have hm42 : m ≤ 42 := by omega
  have hcase : decide ((6 : Int) < m) = false ∨ (decide ((6 : Int) < m) = true ∧ decide ((m : Int) < 39) = false ∧ decide (m < 39) = false ∧ decide ((42 : Int) < m) = false) := by
    by_cases h : 6 < m
    · exact .inr ⟨decide_eq_true (by omega), decide_eq_false (by omega), decide_eq_false (by omega), decide_eq_false (by omega)⟩
    · exact .inl (decide_eq_false (by omega))
  clear h1 h2 h3
  rcases hcase with e2 | ⟨e2, e3, e3', e4⟩
  all_goals
    go_upto_region 3 with (go_at_call 11; (with_reducible refine ((HK.out _ HB1.out).mono ?_)); rintro e w2 ⟨rfl, hb2⟩; have HB2 := Lib.hid hb2; obtain ⟨y0, y1, y2⟩ := HX.out w2 hb2; clear hb2)
    clear x0 x1 x2 y0 y1 y2 e2
    go_wp2_with fail
    go_loopw [3] (fun s3 wr => ∃ i : Nat, i ≤ m ∧ s3 = .int .i64 i ∧ Aside (Below w1.heap.size w1 wr)) (fun s3 _ => m - (intOf s3).toNat)
    case atStart => exact ⟨0, by omega, rfl, HB2.out⟩
    case round =>
      obtain ⟨i, hi, rfl, hB⟩ := hrel
      replace hB : Below w1.heap.size w1 wr := hB
      obtain ⟨x0, x1, x2⟩ := HX.out wr hB
      by_cases hlt : i < m
      · have hltI : (i : Int) < m := by omega
        obtain ⟨ad, nm, rfl, hnm⟩ := HNM.out i hlt
        have f0 := hnm wr (Bt HB1.out hB)
        have HB := Lib.hid hB
        clear hnm hB
        by_cases h40 : (40 : Int) < nm.size
        · have e5 : decide ((40 : Int) < nm.size) = true := decide_eq_true h40
          go_wp2_with fail
          go_ret
          exact ⟨rfl, Bt HB1.out HB.out⟩
        · have e5 : decide ((40 : Int) < nm.size) = false := decide_eq_false h40
          go_wp2_with fail
          go_roundw
          case rel => exact ⟨i + 1, by omega, by go_num, HB.out⟩
          case measure => simp [intOf]; omega
      · obtain rfl : i = m := by omega
        have HB := Lib.hid hB
        clear hB
        by_cases hck : Cou.checkF a.divs a.cps = 0
        · have hm40 := HCK.out hck
          have hrz := HRZ.out hck
          have hsh := shr_of a.drawn i (by omega)
          have hmin : min i 64 = i := by omega
          have h3 : ((i : Nat) : Int) % 18446744073709551616 = i := by omega
          rw [hck] at HLC HPC
          by_cases h0 : a.drawn >>> i = 0
          · rw [if_pos h0] at hrz
            have d9 : ((a.drawn : Int) / 2 ^ i != 0) = false := by rw [hsh, h0]; rfl
            rw [hrz] at HRT
            clear hck hrz h0 hsh
            go_wp2_with (first
          | (go_at_call 33; (with_reducible refine ((HLC.out _ (Bt HB1.out HB.out)).mono ?_)); rintro e w10 ⟨rfl, hb10⟩; have HB10 := Lib.hid (Bt HB.out hb10); obtain ⟨y0, y1, y2⟩ := HX.out w10 HB10.out; clear hb10)
          | (go_at_call 34; (with_reducible refine ((HPC.out _ (Bt HB1.out HB10.out)).mono ?_)); rintro e w11 ⟨rfl, hb11⟩; have HB11 := Lib.hid (Bt HB10.out hb11); obtain ⟨z0, z1, z2⟩ := HX.out w11 HB11.out; clear hb11)
          | (go_at_call 35; (with_reducible refine ((HRT.out _ (Bt HB1.out HB11.out)).mono ?_)); rintro e w12 ⟨rfl, hb12⟩; have HB12 := Lib.hid (Bt HB11.out hb12); obtain ⟨t0, t1, t2⟩ := HX.out w12 HB12.out; clear hb12))
            go_ret
            exact ⟨rfl, Bt HB1.out HB12.out⟩
          · rw [if_neg h0] at hrz
            have d9 : ((a.drawn : Int) / 2 ^ i != 0) = true := by
              rw [hsh]
              generalize a.drawn >>> i = q at h0
              simp only [bne_iff_ne, ne_eq]
              omega
            have hr : Cou.rightF a ≠ 0 := by rw [hrz]; decide
            replace HST := Lib.hid (HST.out hr)
            replace HRE := Lib.hid (HRE.out hr)
            replace HAL := Lib.hid (HAL.out hr)
            replace HSO := Lib.hid (HSO.out hr)
            replace HMX := Lib.hid (HMX.out hr)
            replace HBK := Lib.hid (HBK.out hr)
            replace HID := Lib.hid (HID.out hr)
            rw [hrz] at HRT HST HRE HAL HSO HMX HBK HID
            clear hck hrz h0 hsh hr
            go_upto_region 17 with (first
          | (go_at_call 33; (with_reducible refine ((HLC.out _ (Bt HB1.out HB.out)).mono ?_)); rintro e w10 ⟨rfl, hb10⟩; have HB10 := Lib.hid (Bt HB.out hb10); obtain ⟨y0, y1, y2⟩ := HX.out w10 HB10.out; clear hb10)
          | (go_at_call 34; (with_reducible refine ((HPC.out _ (Bt HB1.out HB10.out)).mono ?_)); rintro e w11 ⟨rfl, hb11⟩; have HB11 := Lib.hid (Bt HB10.out hb11); obtain ⟨z0, z1, z2⟩ := HX.out w11 HB11.out; clear hb11)
          | (go_at_call 35; (with_reducible refine ((HRT.out _ (Bt HB1.out HB11.out)).mono ?_)); rintro e w12 ⟨rfl, hb12⟩; have HB12 := Lib.hid (Bt HB11.out hb12); obtain ⟨t0, t1, t2⟩ := HX.out w12 HB12.out; clear hb12))
            clear x0 x1 x2 y0 y1 y2 z0 z1 z2 d9
            go_wp2_with (first
              | (go_at_call 17; (with_reducible refine ((HST.out _ (Bt HB1.out HB12.out)).mono ?_)); rintro e w20 ⟨rfl, hb20⟩; have HB20 := Lib.hid (Bt HB12.out hb20); have g0 := fun o => (HX.out (w20.alloc o) (Ba HB20.out o)).1; have g1 := fun o => (HX.out (w20.alloc o) (Ba HB20.out o)).2.1; have g2 := fun o => (HX.out (w20.alloc o) (Ba HB20.out o)).2.2; clear hb20)
              | (go_at_call 13; (with_reducible refine ((HRE.out _ (Bt HB1.out (Ba HB20.out _))).mono ?_)); rintro e w21 ⟨A21, c21, rfl, hb21⟩; have HB21 := Lib.hid (Bt (Ba HB20.out _) hb21); obtain ⟨x0_21, x1_21, x2_21⟩ := HX.out w21 HB21.out; clear hb21)
              | (go_at_call 27; (with_reducible refine ((HAL.out _ (Bt HB1.out HB21.out)).mono ?_)); rintro e w22 ⟨rfl, hb22⟩; have HB22 := Lib.hid (Bt HB21.out hb22); obtain ⟨x0_22, x1_22, x2_22⟩ := HX.out w22 HB22.out; clear hb22)
              | (go_at_call 24; (with_reducible refine ((HSO.out _ (Bt HB1.out HB22.out)).mono ?_)); rintro e w23 ⟨rfl, hb23⟩; have HB23 := Lib.hid (Bt HB22.out hb23); obtain ⟨x0_23, x1_23, x2_23⟩ := HX.out w23 HB23.out; clear hb23)
              | (go_at_call 19; (with_reducible refine ((HMX.out _ (Bt HB1.out HB23.out)).mono ?_)); rintro e w24 ⟨rfl, hb24⟩; have HB24 := Lib.hid (Bt HB23.out hb24); obtain ⟨x0_24, x1_24, x2_24⟩ := HX.out w24 HB24.out; clear hb24)
              | (go_at_call 20; (with_reducible refine ((HBK.out _ (Bt HB1.out HB24.out)).mono ?_)); rintro e w25 ⟨rfl, hb25⟩; have HB25 := Lib.hid (Bt HB24.out hb25); obtain ⟨x0_25, x1_25, x2_25⟩ := HX.out w25 HB25.out; clear hb25)
              | (go_at_call 21; (with_reducible refine ((HID.out _ (Bt HB1.out HB25.out)).mono ?_)); rintro e w26 ⟨rfl, hb26⟩; have HB26 := Lib.hid (Bt HB25.out hb26); obtain ⟨x0_26, x1_26, x2_26⟩ := HX.out w26 HB26.out; clear hb26))
            go_ret
            exact ⟨rfl, Bt HB1.out HB26.out⟩
        · have hrz := HRC.out hck
          have hr : Cou.rightF a ≠ 0 := by rw [hrz]; exact hck
          replace HST := Lib.hid (HST.out hr)
          replace HRE := Lib.hid (HRE.out hr)
          replace HAL := Lib.hid (HAL.out hr)
          replace HSO := Lib.hid (HSO.out hr)
          replace HMX := Lib.hid (HMX.out hr)
          replace HBK := Lib.hid (HBK.out hr)
          replace HID := Lib.hid (HID.out hr)
          rw [hrz] at HRT HST HRE HAL HSO HMX HBK HID
          have d9 : (Cou.checkF a.divs a.cps == 0) = false := by simpa using hck
          clear hck hrz hr
          generalize Cou.checkF a.divs a.cps = er at *
          go_upto_region 17 with (first
          | (go_at_call 33; (with_reducible refine ((HLC.out _ (Bt HB1.out HB.out)).mono ?_)); rintro e w10 ⟨rfl, hb10⟩; have HB10 := Lib.hid (Bt HB.out hb10); obtain ⟨y0, y1, y2⟩ := HX.out w10 HB10.out; clear hb10)
          | (go_at_call 34; (with_reducible refine ((HPC.out _ (Bt HB1.out HB10.out)).mono ?_)); rintro e w11 ⟨rfl, hb11⟩; have HB11 := Lib.hid (Bt HB10.out hb11); obtain ⟨z0, z1, z2⟩ := HX.out w11 HB11.out; clear hb11)
          | (go_at_call 35; (with_reducible refine ((HRT.out _ (Bt HB1.out HB11.out)).mono ?_)); rintro e w12 ⟨rfl, hb12⟩; have HB12 := Lib.hid (Bt HB11.out hb12); obtain ⟨t0, t1, t2⟩ := HX.out w12 HB12.out; clear hb12))
          clear x0 x1 x2 y0 y1 y2 z0 z1 z2 d9
          go_wp2_with (first
            | (go_at_call 17; (with_reducible refine ((HST.out _ (Bt HB1.out HB12.out)).mono ?_)); rintro e w20 ⟨rfl, hb20⟩; have HB20 := Lib.hid (Bt HB12.out hb20); have g0 := fun o => (HX.out (w20.alloc o) (Ba HB20.out o)).1; have g1 := fun o => (HX.out (w20.alloc o) (Ba HB20.out o)).2.1; have g2 := fun o => (HX.out (w20.alloc o) (Ba HB20.out o)).2.2; clear hb20)
            | (go_at_call 13; (with_reducible refine ((HRE.out _ (Bt HB1.out (Ba HB20.out _))).mono ?_)); rintro e w21 ⟨A21, c21, rfl, hb21⟩; have HB21 := Lib.hid (Bt (Ba HB20.out _) hb21); obtain ⟨x0_21, x1_21, x2_21⟩ := HX.out w21 HB21.out; clear hb21)
            | (go_at_call 27; (with_reducible refine ((HAL.out _ (Bt HB1.out HB21.out)).mono ?_)); rintro e w22 ⟨rfl, hb22⟩; have HB22 := Lib.hid (Bt HB21.out hb22); obtain ⟨x0_22, x1_22, x2_22⟩ := HX.out w22 HB22.out; clear hb22)
            | (go_at_call 24; (with_reducible refine ((HSO.out _ (Bt HB1.out HB22.out)).mono ?_)); rintro e w23 ⟨rfl, hb23⟩; have HB23 := Lib.hid (Bt HB22.out hb23); obtain ⟨x0_23, x1_23, x2_23⟩ := HX.out w23 HB23.out; clear hb23)
            | (go_at_call 19; (with_reducible refine ((HMX.out _ (Bt HB1.out HB23.out)).mono ?_)); rintro e w24 ⟨rfl, hb24⟩; have HB24 := Lib.hid (Bt HB23.out hb24); obtain ⟨x0_24, x1_24, x2_24⟩ := HX.out w24 HB24.out; clear hb24)
            | (go_at_call 20; (with_reducible refine ((HBK.out _ (Bt HB1.out HB24.out)).mono ?_)); rintro e w25 ⟨rfl, hb25⟩; have HB25 := Lib.hid (Bt HB24.out hb25); obtain ⟨x0_25, x1_25, x2_25⟩ := HX.out w25 HB25.out; clear hb25)
            | (go_at_call 21; (with_reducible refine ((HID.out _ (Bt HB1.out HB25.out)).mono ?_)); rintro e w26 ⟨rfl, hb26⟩; have HB26 := Lib.hid (Bt HB25.out hb26); obtain ⟨x0_26, x1_26, x2_26⟩ := HX.out w26 HB26.out; clear hb26))
          go_ret
          exact ⟨rfl, Bt HB1.out HB26.out⟩
end Go.Proofs.YtnkjhppjjklgfaaDoor
