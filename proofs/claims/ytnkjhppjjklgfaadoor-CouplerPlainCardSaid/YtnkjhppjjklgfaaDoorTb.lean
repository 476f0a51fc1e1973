/- Walks over coupler's statements: CouplerPlain. -/
import Derived.Test.YtnkjhppjjklgfaaDoorTa
import Derived.Test.YtnkjhppjjklgfaaDoorKC
namespace Go.Proofs.YtnkjhppjjklgfaaDoor
open Go Go.RowKit Go.Shelf
set_option maxRecDepth 100000 in
set_option maxHeartbeats 8000000 in
theorem law_plain (p : Cou.Pl) (hp : PlOk p) (vl : Value) (b0 b1 b2 : Nat) (hb0 : b0 < 65536) (hb1 : b1 < 65536) (hb2 : b2 < 65536) (w : World) (F : Nat → Prop) (hF : ∀ b, F b → b < w.heap.size) (hl : SlLk F w vl p.links) (hT : Tab64 w) (hg : 0 < w.heap.size) :
    Calls Tryd.prog 6 #[.agg (plCells p vl), .agg #[.int .u16 b0, .int .u16 b1, .int .u16 b2]] w fun e w' => e = .returned (.bool true) ∧ Below w.heap.size w w' := by
  have HTT := Lib.hid hT
  have HK := Lib.hid (fun W (hb : Below w.heap.size w W) => known_any W (hT.below hb) (Nat.lt_of_lt_of_le hg hb.size))
  have HM := Lib.hid (fun W (hb : Below w.heap.size w W) => make_own p hp vl W F (fun b h => Nat.lt_of_lt_of_le (hF b h) hb.size) (Sl.keep hl (Agree.below hb hF) fun _ _ h => h))
  obtain ⟨Al, al, hvl, _, hll, _⟩ := id hl
  have hok : Cou.Ok (Cou.makeF p) := Cou.right_ok (Cou.make_right hp.len)
  have hrt : Cou.rightF (Cou.makeF p) = 0 := Cou.make_right hp.len
  have hcl4 : (Cou.makeF p).cps.length ≤ 4 := makeF_cps
  have hdr := makeF_drawn hp
  have hsm := (makeF_divs (p := p)).1
  have hd3 := (makeF_divs (p := p)).2
  subst hvl
  unfold plCells at *
  obtain ⟨ll, hll9⟩ : ∃ ll, p.links.length = ll := ⟨_, rfl⟩
  rw [hll9] at hll HM ⊢
  generalize ((p.dv.getD 0 (0, 0)).1 : Int) = d0 at *
  generalize ((p.dv.getD 0 (0, 0)).2 : Int) = d1 at *
  generalize ((p.dv.getD 1 (0, 0)).1 : Int) = d2 at *
  generalize ((p.dv.getD 1 (0, 0)).2 : Int) = d3 at *
  generalize ((p.dv.getD 2 (0, 0)).1 : Int) = d4 at *
  generalize ((p.dv.getD 2 (0, 0)).2 : Int) = d5 at *
  generalize (p.more : Int) = mo at *
  generalize (p.drawn : Int) = dr at *
  generalize Cou.makeF p = a at *
  try dsimp only
  clear hl hll9 hp
  have HT0 := Lib.hid (fun W (hb : Below w.heap.size w W) => (show Tab64 W ∧ 0 < W.heap.size from ⟨HTT.out.below hb, Nat.lt_of_lt_of_le hg hb.size⟩))
  obtain ⟨w1, hw1⟩ : ∃ w1 : World, (w.alloc (.cells #[.int .u8 d0, .int .u8 d1, .int .u8 d2, .int .u8 d3, .int .u8 d4, .int .u8 d5, .int .u8 mo, .slice Al ll al, .int .u8 dr] 26)).alloc (.cells #[.int .u16 b0, .int .u16 b1, .int .u16 b2] 62) = w1 := ⟨_, rfl⟩
  obtain ⟨pb, hpb⟩ : ∃ pb, w.heap.size = pb := ⟨_, rfl⟩
  have PB : Blk w1 pb 26 #[.int .u8 d0, .int .u8 d1, .int .u8 d2, .int .u8 d3, .int .u8 d4, .int .u8 d5, .int .u8 mo, .slice Al ll al, .int .u8 dr] := by
    rw [← hw1, ← hpb]; exact (Blk.new w _ _).alloc _
  have CB0 : Blk w1 (pb + 1) 62 #[.int .u16 b0, .int .u16 b1, .int .u16 b2] := by
    have := Blk.new (w.alloc (.cells #[.int .u8 d0, .int .u8 d1, .int .u8 d2, .int .u8 d3, .int .u8 d4, .int .u8 d5, .int .u8 mo, .slice Al ll al, .int .u8 dr] 26)) 62 #[.int .u16 b0, .int .u16 b1, .int .u16 b2]
    rw [hw1] at this
    simpa [hpb] using this
  have B1 : Below w.heap.size w w1 := by rw [← hw1]; exact Ba (Ba (B0 w) _) _
  have HPB := Lib.hid PB
  have HCB0 := Lib.hid CB0
  have HB1 := Lib.hid B1
  have HW1 := Lib.hid hw1
  have HPP := Lib.hid hpb
  clear PB CB0 B1 hw1 hpb hT
  go_enter Tryd.func6, Tryd.ntmps6
  go_upto_region 1 with fail
  rw [HW1.out, HPP.out]
  by_cases h4 : 4 < ll
  · have d4' : decide ((4 : Int) < ll) = true := decide_eq_true (by omega)
    go_wp2_with (first
      | (go_at_call 11; (with_reducible refine ((HK.out _ HB2.out).mono ?_)); rintro e w3 ⟨rfl, hb3⟩; have HB3 := Lib.hid (Bt HB2.out hb3); clear hb3)
      | (go_at_call 11; (with_reducible refine ((HK.out _ HB1.out).mono ?_)); rintro e w2 ⟨rfl, hb2⟩; have HB2 := Lib.hid (Bt HB1.out hb2); have k7 := (HPB.out.below hb2 HPB.out.lt).cell 7; simp only [List.getElem?_toArray, List.getElem?_cons_zero, List.getElem?_cons_succ] at k7; clear hb2))
    go_ret
    exact ⟨rfl, HB3.out⟩
  · have d4' : decide ((4 : Int) < ll) = false := decide_eq_false (by omega)
    go_upto_region 3 with (go_at_call 11; (with_reducible refine ((HK.out _ HB1.out).mono ?_)); rintro e w2 ⟨rfl, hb2⟩; have HB2 := Lib.hid (Bt HB1.out hb2); have HP2 := Lib.hid (HPB.out.below hb2 HPB.out.lt); have HC20 := Lib.hid (HCB0.out.below hb2 HCB0.out.lt); have k7 := HP2.out.cell 7; simp only [List.getElem?_toArray, List.getElem?_cons_zero, List.getElem?_cons_succ] at k7; clear hb2)
    have k0 := HP2.out.cell 0
    have k1 := HP2.out.cell 1
    have k2 := HP2.out.cell 2
    have k3 := HP2.out.cell 3
    have k4 := HP2.out.cell 4
    have k5 := HP2.out.cell 5
    have k6 := HP2.out.cell 6
    have k8 := HP2.out.cell 8
    simp only [List.getElem?_toArray, List.getElem?_cons_zero, List.getElem?_cons_succ] at k0 k1 k2 k3 k4 k5 k6 k8
    go_upto_region 4 with (go_at_call 12; (with_reducible refine ((HM.out _ HB2.out).mono ?_)); rintro e w3 ⟨vd, vc, rfl, hA3, hod, hoc, hb3⟩; obtain ⟨Ad, cd, rfl, _, _⟩ := id hA3.dv.open; obtain ⟨Ac, cc, rfl, _, _⟩ := id hA3.cp.open; have HO3 := Lib.hid (AcO.mk (hod.more HB2.out.size) (hoc.more HB2.out.size)); clear hod hoc; have HA3 := Lib.hid hA3; have HB3 := Lib.hid (Bt HB2.out hb3); have HC30 := Lib.hid (HC20.out.below hb3 HC20.out.lt); clear hb3 hA3)
    obtain ⟨W4, hW4⟩ : ∃ W4 : World, w3.alloc (.cells #[.slice Ad a.divs.length cd, .slice Ac a.cps.length cc, .int .u64 a.drawn] 34) = W4 := ⟨_, rfl⟩
    obtain ⟨ab, hab⟩ : ∃ ab, w3.heap.size = ab := ⟨_, rfl⟩
    have AB : Blk W4 ab 34 #[.slice Ad a.divs.length cd, .slice Ac a.cps.length cc, .int .u64 a.drawn] := by rw [← hW4, ← hab]; exact Blk.new _ _ _
    have B4 : Below w3.heap.size w3 W4 := by rw [← hW4]; exact Ba (B0 w3) _
    have A4 := HA3.out.on B4
    have HAG := Lib.hid (show w.heap.size ≤ ab from by rw [← hab]; exact HB3.out.size)
    have HO4 := Lib.hid (HO3.out.below B4)
    have C40 := HC30.out.below B4 HC30.out.lt
    rw [hW4, hab]
    have hB04 := Bt HB3.out B4
    have HKE := Lib.hid (fun W (hb : Below W4.heap.size W4 W) => (show W.cell? ⟨ab, 0, none⟩ = some (.slice Ad a.divs.length cd) ∧ W.cell? ⟨ab, 1, none⟩ = some (.slice Ac a.cps.length cc) ∧ W.cell? ⟨ab, 2, none⟩ = some (.int .u64 a.drawn) ∧ W.cell? ⟨pb + 1, 0, none⟩ = some (.int .u16 b0) ∧ W.cell? ⟨pb + 1, 1, none⟩ = some (.int .u16 b1) ∧ W.cell? ⟨pb + 1, 2, none⟩ = some (.int .u16 b2) from ⟨(Bc hb AB.lt).trans (AB.cell 0), (Bc hb AB.lt).trans (AB.cell 1), (Bc hb AB.lt).trans (AB.cell 2), (Bc hb C40.lt).trans (C40.cell 0), (Bc hb C40.lt).trans (C40.cell 1), (Bc hb C40.lt).trans (C40.cell 2)⟩))
    have HTW := Lib.hid (fun W (hb : Below W4.heap.size W4 W) => (show Tab64 W ∧ 0 < W.heap.size from ⟨HTT.out.below (Bt hB04 hb), Nat.lt_of_lt_of_le hg (Bt hB04 hb).size⟩))
    have HAW := Lib.hid (fun W (hb : Below W4.heap.size W4 W) => A4.on hb)
    have HB4 := Lib.hid hB04
    have HOK := Lib.hid hok
    have HRT := Lib.hid hrt
    have HSM := Lib.hid hsm
    have HAB := Lib.hid AB
    clear HO3
    clear AB B4 A4 C40 hW4 hab hB04 hok hrt hsm HA3 HB3 HC30 HP2 HC20 HPB HCB0 HK HM HTT k0 k1 k2 k3 k4 k5 k6 k7 k8
    obtain ⟨x0, x1, x2, x3, x4, x5⟩ := HKE.out W4 (B0 W4)
    have hks := Cou.bitK_lt HOK.out [b0, b1, b2]
    have hkl := Cou.bitK_len a [b0, b1, b2]
    have hal := Cou.bitK_ok HOK.out HRT.out [b0, b1, b2]
    obtain ⟨ks, hksE⟩ : ∃ ks, Cou.bitK a [b0, b1, b2] = ks := ⟨_, rfl⟩
    rw [hksE] at hks hkl hal
    have HKY := Lib.hid (fun W (hb : Below W4.heap.size W4 W) => Keys_any a HOK.out HSM.out _ _ a.drawn b0 b1 b2 hb0 hb1 hb2 W _ (HAW.out W hb))
    rw [hksE] at HKY
    have HSO := Lib.hid (fun pv W (hb : Below W4.heap.size W4 W) (hS : SlK (fun b => b < W.heap.size) W pv ks) => (show Calls Tryd.prog 24 #[_, _, .int .u64 0] _ _ from Sounding_any a _ _ pv hdr ks hks 0 (by decide) W _ _ (HAW.out W hb) (fun _ h => h) hS (HTW.out W hb).1 (HTW.out W hb).2))
    have hse : Cou.soundErr a ks 0 = 0 := by unfold Cou.soundErr; rw [if_pos hal, Nat.zero_shiftRight, if_pos rfl]
    have HSE := Lib.hid hse
    rw [hse] at HSO
    obtain ⟨n, hn⟩ : ∃ n, a.divs.length = n := ⟨_, rfl⟩
    obtain ⟨cl, hcl⟩ : ∃ cl, a.cps.length = cl := ⟨_, rfl⟩
    have HN := Lib.hid hn
    have HCL := Lib.hid hcl
    have HKL := Lib.hid (hkl.trans hn)
    have HKS := Lib.hid hks
    have HBG := Lib.hid (show w.heap.size ≤ W4.heap.size from HB4.out.size)
    have hs5 : ∀ (w5 : World) (v5 : Value), SlK (fun b => W4.heap.size ≤ b ∧ b < w5.heap.size) w5 v5 ks → ∃ A5 c5, v5 = .slice A5 n c5 ∧ SlK (fun b => b < w5.heap.size) w5 (.slice A5 n c5) ks := fun w5 v5 h => by
      obtain ⟨A5, c5, e, _, _, _⟩ := h.open
      rw [hkl.trans hn] at e
      subst e
      exact ⟨A5, c5, rfl, Sl.mono h fun _ q => q.2⟩
    have hs7 : ∀ B (w7 : World) (v7 : Value), SndIs a ks 0 B v7 w7 → ∃ kb M, v7 = .slice (some ⟨kb, 0, none⟩) n n ∧ Blk w7 kb 70 (ntCs M).toArray ∧ M.length = n ∧ (∀ x ∈ M, x < 2 ^ 128) ∧ ∀ d i, d < n → (ks.getD d 0).testBit i = true → (M.getD d 0).testBit i = true := fun B w7 v7 h => by
      obtain ⟨kb, M, e, _, hK, h1, h2, h3⟩ := h.2 HSE.out
      rw [hn] at e h1
      exact ⟨kb, M, e, hK, h1, h2, fun d i hd ht => (h3 d i (by rw [hn]; exact hd)).2 (.inr ⟨by simp, ht⟩)⟩
    have H5 := Lib.hid hs5
    have H7 := Lib.hid hs7
    rw [hn] at HKY HSO HKE x0 hd3 HO4 HAB
    rw [hn]
    rw [hcl] at HKY HSO HKE x1 hcl4 HO4 HAB
    rw [hcl]
    clear hks hkl hksE hal hse hs5 hs7 hn hcl
    go_upto_region 8 with (first
      | (go_at_call 23; (with_reducible refine ((HKY.out _ (B0 W4)).mono ?_)); rintro e w5 ⟨v5, rfl, hs5, hb5⟩; obtain ⟨A5, c5, rfl, hS5⟩ := H5.out _ _ hs5; have HB5 := Lib.hid hb5; have HS5 := Lib.hid hS5; obtain ⟨r0, r1, r2, _⟩ := HKE.out w5 hb5; clear hb5 hs5 hS5)
      | (go_at_call 24; (with_reducible refine ((HSO.out _ _ HB5.out HS5.out).mono ?_)); rintro e w7 ⟨v7, rfl, hs7, hb7⟩; obtain ⟨kb, M, rfl, hK7, hM7⟩ := H7.out _ _ _ hs7; have HB7 := Lib.hid (Bt HB5.out hb7); have HS7 := Lib.hid (HS5.out.on1 hb7); have HK7 := Lib.hid hK7; have HM7 := Lib.hid hM7; clear hb7 hs7 hK7 hM7))
    clear r0 r1 r2 x0 x1 x2 HKY HSO
    have HP := Lib.hid (fun i (hi : i < n) W (hb : Below w7.heap.size w7 W) => (show ∃ ad x, ks[i]? = some x ∧ A5 = some ad ∧ Flds W (ad.add (i * 2)) [.int .u64 ((Nt.lo x : Nat) : Int), .int .u64 ((Nt.hi x : Nat) : Int)] from by
      have hs := HS7.out.on1 hb
      obtain ⟨A, c, e, _, _, hat⟩ := hs.open
      injection e with e1 _ _
      subst e1
      have hil : i < ks.length := by rw [HKL.out]; exact hi
      obtain ⟨ad, h1, _, h3⟩ := hat i hil
      exact ⟨ad, ks[i], List.getElem?_eq_getElem hil, h1, h3⟩))
    go_wp2_with fail
    go_loopw [9] (fun s9 wr => ∃ i : Nat, i ≤ n ∧ s9 = .int .i64 i ∧ Aside (Below w7.heap.size w7 wr)) (fun s9 _ => n - (intOf s9).toNat)
    case atStart => exact ⟨0, by omega, rfl, B0 w7⟩
    case round =>
      obtain ⟨i, hi, rfl, hB⟩ := hrel
      replace hB : Below w7.heap.size w7 wr := hB
      by_cases hlt : i < n
      · have hltI : (i : Int) < n := by omega
        obtain ⟨ad, x, hx, rfl, hfl⟩ := HP.out i hlt wr hB
        have p0 := hfl.f0 rfl
        have p1 := hfl.f1 rfl
        have hiM : i < M.length := by rw [HM7.out.1]; exact hlt
        obtain ⟨y0, y1⟩ := ntCs_get hiM
        have hK := HK7.out.below hB HK7.out.lt
        have z0 := (hK.cell (i * 2)).trans ((List.getElem?_toArray).trans y0)
        have z1 := (hK.cell (i * 2 + 1)).trans ((List.getElem?_toArray).trans y1)
        have hil : i < ks.length := by rw [HKL.out]; exact hlt
        rw [List.getElem?_eq_getElem hil] at hx
        injection hx with hx
        have hsub : Hit.andn x M[i] = 0 := Nat.eq_of_testBit_eq fun k => by
          rw [Hit.andn_test, Nat.zero_testBit]
          cases hb : x.testBit k with
          | false => rfl
          | true =>
            have := HM7.out.2.2 i k hlt (by rw [List.getD_eq_getElem?_getD, List.getElem?_eq_getElem hil]; show ks[i].testBit k = true; rw [hx]; exact hb)
            rw [List.getD_eq_getElem?_getD, List.getElem?_eq_getElem hiM] at this
            simp only [Option.getD_some] at this
            rw [this]
            rfl
        have hwi := fun W => within_any x M[i] (by rw [← hx]; exact HKS.out _ (List.getElem_mem hil)) (HM7.out.2.1 _ (List.getElem_mem hiM)) W
        simp only [hsub, decide_true] at hwi
        have HWI := Lib.hid hwi
        have HB := Lib.hid hB
        clear hB hfl hx hsub hwi hK y0 y1 hil
        generalize M[i] = y at *
        unfold ntV at HWI
        clear hiM
        go_upto_region 11 with fail
        go_region_with (go_at_call 25; (with_reducible refine ((HWI.out _).mono ?_)); rintro e w8 ⟨rfl, hb8⟩; have HB8 := Lib.hid hb8; clear hb8)
        all_goals
          go_wp2_with fail
          go_roundw
          case rel => exact ⟨i + 1, by omega, by go_num, Bt HB.out ((B0 wr).drew.trans (HB8.out.mono (Nat.le_refl _)))⟩
          case measure => simp [intOf]; omega
      · obtain rfl : i = n := by omega
        obtain ⟨W9, rfl⟩ : ∃ W9 : World, W9 = wr := ⟨_, rfl⟩
        have hB49 : Below W4.heap.size W4 W9 := Bt HB7.out hB
        have HB9 := Lib.hid (Bt HB4.out hB49)
        have HO9 := Lib.hid (HO4.out.below hB49)
        have HA9 := Lib.hid (HAB.out.below hB49 HAB.out.lt)
        have hld := ldrawn_any (.slice Ad i cd) (.slice Ac cl cc) a.drawn hdr
        have HLD := Lib.hid hld
        have hab := HAG.out
        clear hB hB49 hld
        go_wp2_with fail
        go_loopw [10, 11] (fun s10 s11 wr => ∃ k : Nat, k ≤ cl ∧ s11 = .int .i64 k ∧ s10 = .int .i64 (Cou.cntF a.drawn k : Nat) ∧ Aside (AcO w.heap.size wr (.slice Ad i cd) (.slice Ac cl cc) (Cou.offA a k)) ∧ Aside (Blk wr ab 34 #[.slice Ad i cd, .slice Ac cl cc, .int .u64 a.drawn]) ∧ Aside (Below w.heap.size w wr)) (fun _ s11 _ => cl - (intOf s11).toNat)
        case atStart => exact ⟨0, by omega, rfl, rfl, (by show AcO _ _ _ _ (Cou.offA a 0); unfold Cou.offA; rw [Cou.offL_zero]; exact HO9.out), HA9.out, HB9.out⟩
        case round =>
          clear HO9 HA9 HB9
          obtain ⟨k, hk, rfl, rfl, hO, hA, hB⟩ := hrel
          replace hO : AcO w.heap.size wr (.slice Ad i cd) (.slice Ac cl cc) (Cou.offA a k) := hO
          replace hA : Blk wr ab 34 #[.slice Ad i cd, .slice Ac cl cc, .int .u64 a.drawn] := hA
          replace hB : Below w.heap.size w wr := hB
          have x0 := hA.cell 0
          have x1 := hA.cell 1
          have x2 := hA.cell 2
          simp only [List.getElem?_toArray, List.getElem?_cons_zero, List.getElem?_cons_succ] at x0 x1 x2
          by_cases hlt : k < cl
          · have hltI : (k : Int) < cl := by omega
            obtain ⟨g, cap, e, hg0, hg1, hf, ⟨b0, hc⟩, ⟨cs2, hB2⟩, hO2⟩ := hO.off (by rw [HCL.out]; exact hlt)
            rw [HCL.out] at e
            injection e with e1 e2 e3
            subst e1
            subst e3
            have hne : ab ≠ g := hA.ne_ hB2 (by decide)
            have hA2 := hA.far (p := ⟨g, k * 5 + 4, none⟩) hne (.bool false)
            have hB3 := hB.setCell (p := ⟨g, k * 5 + 4, none⟩) hg0 (.bool false)
            obtain ⟨w8, hw8⟩ : ∃ w8 : World, wr.setCell ⟨g, k * 5 + 4, none⟩ (.bool false) = w8 := ⟨_, rfl⟩
            rw [hw8] at hO2 hA2 hB3
            have hcs := Cou.cntF_succ a.drawn k
            have HO2 := Lib.hid hO2
            have HA2 := Lib.hid hA2
            have HB3 := Lib.hid hB3
            have HLK := Lib.hid (fun W => HLD.out k (by omega) W)
            have hcle := Cou.cntF_le a.drawn k
            obtain ⟨c0, hc0⟩ : ∃ c0, Cou.cntF a.drawn k = c0 := ⟨_, rfl⟩
            rw [hc0] at hcs hcle ⊢
            clear hc0
            clear hO hA hB hO2 hA2 hB3 hB2 hne
            go_upto_region 18 with fail
            try rw [hw8]
            clear x0 x1 x2 hf hc hw8
            have x0 := HA2.out.cell 0
            have x1 := HA2.out.cell 1
            have x2 := HA2.out.cell 2
            simp only [List.getElem?_toArray, List.getElem?_cons_zero, List.getElem?_cons_succ] at x0 x1 x2
            cases hb : a.drawn.testBit k with
            | true =>
              rw [hb] at hcs HLK
              have HC1 : Hid (Cou.cntF a.drawn (k + 1) = c0 + 1) := Lib.hid hcs
              clear hb hcs
              go_wp2_with (go_at_call 26; (with_reducible refine ((HLK.out _).mono ?_)); rintro e w10 ⟨rfl, hb10⟩; have HB10 := Lib.hid hb10; clear hb10)
              go_roundw
              case rel => exact ⟨k + 1, by omega, by go_num, by rw [HC1.out]; go_num, HO2.out.below HB10.out, HA2.out.below HB10.out HA2.out.lt, HB3.out.trans (HB10.out.mono HB3.out.size)⟩
              case measure => simp [intOf]; omega
            | false =>
              rw [hb] at hcs HLK
              have HC1 : Hid (Cou.cntF a.drawn (k + 1) = c0) := Lib.hid hcs
              clear hb hcs
              go_wp2_with (go_at_call 26; (with_reducible refine ((HLK.out _).mono ?_)); rintro e w10 ⟨rfl, hb10⟩; have HB10 := Lib.hid hb10; clear hb10)
              go_roundw
              case rel => exact ⟨k + 1, by omega, by go_num, by rw [HC1.out], HO2.out.below HB10.out, HA2.out.below HB10.out HA2.out.lt, HB3.out.trans (HB10.out.mono HB3.out.size)⟩
              case measure => simp [intOf]; omega
          · obtain rfl : k = cl := by omega
            obtain ⟨W10, rfl⟩ : ∃ W10 : World, W10 = wr := ⟨_, rfl⟩
            have hkc : Cou.offA a k = Cou.offA a a.cps.length := by rw [HCL.out]
            rw [hkc] at hO
            have hr2 : Cou.rightF (Cou.offA a a.cps.length) = 0 := by rw [Cou.rightF_off]; exact HRT.out
            have hoF : Cou.Ok (Cou.offA a a.cps.length) := Cou.right_ok hr2
            have hat := hO.at_ (by have := hoF.nd; omega) (by have := hoF.nc; omega)
            have HRE := Lib.hid (fun (c : Cou.Ct) W (hb : Below W10.heap.size W10 W) => Reach_any (Cou.offA a a.cps.length) _ _ hdr c W _ (hat.on hb) (HT0.out W (Bt hB hb)).1 (HT0.out W (Bt hB hb)).2)
            have hre : ∀ j (hj : j < a.divs.length), reachErr (Cou.offA a a.cps.length) ((j : Int), a.divs[j].2) = 0 := fun j hj => by
              unfold reachErr Cou.wrongF
              rw [if_pos hr2, if_neg (by show ¬ ((j : Int) < 0 ∨ (a.divs.length : Int) ≤ (j : Int)); omega)]
              show (bif Cou.inB (a.divs.getD ((j : Int)).toNat (0, -1)) a.divs[j].2 then (0 : Int) else 23) = 0
              rw [Int.toNat_natCast, List.getD_eq_getElem?_getD, List.getElem?_eq_getElem hj]
              have := HOK.out.div _ (List.getElem_mem hj)
              rw [show Cou.inB ((some a.divs[j]).getD (0, -1)) a.divs[j].2 = true from Cou.inB_iff.2 ⟨this.2.1, Int.le_refl _⟩]
              rfl
            have hsh : ∀ (j : Nat) (hj : j < a.divs.length) (l : List Cou.Ct), Cou.Srt l → (∀ t, t ∈ l ↔ Cou.Hop (Cou.offA a a.cps.length) [((j : Int), a.divs[j].2)] t) → l.length ≤ Cou.cntF a.drawn k := fun j hj l h1 h2 => by
              have := Cou.reach_short h1 fun t ht => (h2 t).1 ht
              rw [HCL.out] at this
              exact this
            have hfl : ∀ j (hj : j < a.divs.length) W, Below W10.heap.size W10 W → ∃ ad, Ad = some ad ∧ Flds W (ad.add (j * 2)) [.int .i64 a.divs[j].1, .int .i64 a.divs[j].2] := fun j hj W hb => by
              obtain ⟨A, c, e, _, h⟩ := (hat.on hb).dv.open
              injection e with e1 e2 e3
              subst e1
              obtain ⟨ad, h1, _, h3⟩ := h j hj
              exact ⟨ad, h1, h3⟩
            have HRR := Lib.hid hre
            have HSH := Lib.hid hsh
            have HFL := Lib.hid hfl
            have HB := Lib.hid hB
            have HA := Lib.hid hA
            have hcle := Cou.cntF_le a.drawn k
            generalize Cou.cntF a.drawn k = c0 at *
            clear hkc hO hr2 hoF hat hre hsh hfl hB hA hi
            go_wp2_with fail
            clear x0 x1 x2
            go_loopw [12] (fun s12 wr => ∃ j : Nat, j ≤ i ∧ s12 = .int .i64 j ∧ Aside (Below W10.heap.size W10 wr)) (fun s12 _ => i - (intOf s12).toNat)
            case atStart => exact ⟨0, by omega, rfl, B0 W10⟩
            case round =>
              obtain ⟨j, hj, rfl, hBr⟩ := hrel
              replace hBr : Below W10.heap.size W10 wr := hBr
              have hA := HA.out.below hBr HA.out.lt
              have x0 := hA.cell 0
              have x1 := hA.cell 1
              have x2 := hA.cell 2
              simp only [List.getElem?_toArray, List.getElem?_cons_zero, List.getElem?_cons_succ] at x0 x1 x2
              by_cases hlt : j < i
              · have hltI : (j : Int) < i := by omega
                have hjd : j < a.divs.length := by rw [HN.out]; exact hlt
                obtain ⟨ad, rfl, hfl⟩ := HFL.out j hjd wr hBr
                have f1 := hfl.f1 rfl
                have hr0 := HRR.out j hjd
                have hsh := HSH.out j hjd
                have hre := fun W hb => (show Calls Tryd.prog 13 #[.agg #[_, _, .int .u64 a.drawn], .agg #[.int .i64 (j : Int), .int .i64 a.divs[j].2]] _ _ from HRE.out ((j : Int), a.divs[j].2) W hb)
                rw [hr0] at hre
                have HRJ := Lib.hid hre
                have HSJ := Lib.hid hsh
                have HBr := Lib.hid hBr
                clear hA hfl hre hr0 hsh hBr
                generalize a.divs[j].2 = hj2 at *
                clear hjd
                go_upto_region 23 with fail
                go_region_with (go_at_call 13; (with_reducible refine ((HRJ.out _ (HBr.out.drew)).mono ?_)); rintro e w12 ⟨v12, l12, rfl, hs12, _, hl12, hb12⟩; obtain ⟨A12, c12, rfl, -, -⟩ := id hs12.open; have hlen12 := HSJ.out l12 (hl12 rfl).1 (hl12 rfl).2; have HB12 := Lib.hid hb12; clear hs12 hl12 hb12)
                all_goals
                  generalize l12.length = ln at *
                  have d1 : decide ((c0 : Int) < ln) = false := decide_eq_false (by omega)
                  go_wp2_with fail
                  go_roundw
                  case rel => exact ⟨j + 1, by omega, by go_num, Bt HBr.out ((B0 wr).drew.trans (HB12.out.mono (Nat.le_refl _)))⟩
                  case measure => simp [intOf]; omega
              · obtain rfl : j = i := by omega
                have HBr := Lib.hid hBr
                clear hBr hA
                go_wp2_with fail
                go_ret
                exact ⟨rfl, Bt HB.out HBr.out⟩
end Go.Proofs.YtnkjhppjjklgfaaDoor
