/- Walks over coupler's statements: check. -/
import Derived.Test.YtnkjhppjjklgfaaDoorKh
import Derived.Laws.StructEq
namespace Go.Proofs.YtnkjhppjjklgfaaDoor
open Go Go.RowKit Go.Shelf
set_option maxRecDepth 100000 in
set_option maxHeartbeats 4000000 in
theorem lcheck_any (vd vc : Value) (divs : List (Int × Int)) (cps : List Cou.Cpl) (w : World) (F : Nat → Prop) (hF : ∀ b, F b → b < w.heap.size) (hd : SlD F w vd divs) (hc : SlCp F w vc cps) :
    Calls Tryd.prog 33 #[vd, vc] w fun e w' => e = .returned (.int .i64 (Cou.checkF divs cps)) ∧ Below w.heap.size w w' := by
  obtain ⟨Ad, cd, rfl, hd1, hdat⟩ := id hd.open
  obtain ⟨Ac, cc, rfl, hc1, hcat⟩ := id hc.open
  by_cases h1 : 8 < divs.length
  · have HZ : Hid (Cou.checkF divs cps = 4) := Lib.hid (by unfold Cou.checkF; rw [if_pos (.inl h1)])
    have d1 : decide ((8 : Int) < divs.length) = true := decide_eq_true (by omega)
    clear hd hc hdat hcat h1
    go_enter Tryd.func33, Tryd.ntmps33
    go_wp2
    go_ret
    exact ⟨by rw [HZ.out]; rfl, B0 w⟩
  have d1 : decide ((8 : Int) < divs.length) = false := decide_eq_false (by omega)
  by_cases h2 : 40 < cps.length
  · have HZ : Hid (Cou.checkF divs cps = 4) := Lib.hid (by unfold Cou.checkF; rw [if_pos (.inr h2)])
    have d2 : decide ((40 : Int) < cps.length) = true := decide_eq_true (by omega)
    clear hd hc hdat hcat h1 h2
    go_enter Tryd.func33, Tryd.ntmps33
    go_wp2
    go_ret
    exact ⟨by rw [HZ.out]; rfl, B0 w⟩
  have d2 : decide ((40 : Int) < cps.length) = false := decide_eq_false (by omega)
  have hz : Cou.checkF divs cps = if Cou.divF divs = 0 then Cou.goF divs.length cps cps.length else 23 := by unfold Cou.checkF; rw [if_neg (by omega)]
  have HZ := Lib.hid hz
  have HDAT := Lib.hid hdat
  have HCAT := Lib.hid hcat
  obtain ⟨nd, hnd⟩ : ∃ nd, divs.length = nd := ⟨_, rfl⟩
  obtain ⟨nc, hnc⟩ : ∃ nc, cps.length = nc := ⟨_, rfl⟩
  have HND := Lib.hid hnd
  have HNC := Lib.hid hnc
  rw [hnd] at d1 h1 ⊢
  rw [hnc] at d2 h2 ⊢
  clear hz hdat hcat hd hc hnd hnc
  go_enter Tryd.func33, Tryd.ntmps33
  go_wp2
  go_loopw [5] (fun s wr => ∃ k : Nat, k ≤ nd ∧ s = .int .i64 k ∧ Aside (Cou.divF divs = Cou.divF (divs.drop k)) ∧ Aside (Below w.heap.size w wr)) (fun s _ => nd - (intOf s).toNat)
  case atStart => exact ⟨0, by omega, rfl, by rw [List.drop_zero]; trivial, B0 w⟩
  case round =>
    obtain ⟨k, hk, rfl, HA, HB⟩ := hrel
    by_cases hlt : k < nd
    · have hkl : (k : Int) < nd := by omega
      have hkd : k < divs.length := by rw [HND.out]; exact hlt
      obtain ⟨ad, rfl, hfb, hfl⟩ := HDAT.out k hkd
      have hfb2 : (ad.add (k * 2)).block < w.heap.size := by rw [block_of_add]; exact hF _ hfb
      have hfl2 := hfl.below HB hfb2
      have f0 := hfl2.f0 rfl
      have f1 := hfl2.f1 rfl
      have hdr := HA.trans (Cou.divF_drop hkd)
      have HB2 := Lib.hid HB
      have HCO := Lib.hid (fun W => compass_any divs[k].1 divs[k].2 W)
      generalize hx : divs[k] = x at *
      clear hfl hfl2 HA HB hx
      by_cases hcf : Cou.compF x = 0
      · rw [if_pos hcf] at hdr
        have HDR := Lib.hid hdr
        have HCF := Lib.hid hcf
        clear hdr hcf hkd
        go_wp2_with (go_at_call 55; (with_reducible refine ((HCO.out _).mono ?_)); rintro e w3 ⟨rfl, hb⟩; rw [HCF.out])
        go_roundw
        case rel => exact ⟨k + 1, by omega, by go_num, HDR.out, Bt HB2.out hb⟩
        case measure => simp [intOf]; omega
      · rw [if_neg hcf] at hdr
        have HZ2 : Hid (Cou.checkF divs cps = 23) := Lib.hid (by rw [HZ.out, if_neg (by rw [hdr]; decide)])
        have d3 : (Cou.compF x != 0) = true := by simpa using hcf
        clear hdr hcf hkd
        go_wp2_with (go_at_call 55; (with_reducible refine ((HCO.out _).mono ?_)); rintro e w3 ⟨rfl, hb⟩)
        go_ret
        exact ⟨by rw [HZ2.out]; rfl, Bt HB2.out hb⟩
    · obtain rfl : k = nd := by omega
      have hz2 : Cou.checkF divs cps = Cou.goF k cps cps.length := by rw [HZ.out, if_pos (by rw [HA, ← HND.out, List.drop_length]; rfl), HND.out]
      have HZ2 := Lib.hid hz2
      have HB2 := Lib.hid HB
      clear HA HB hz2
      go_wp2
      go_loopw [6] (fun s wr => ∃ i : Nat, i ≤ nc ∧ s = .int .i64 i ∧ Aside (Cou.goF k cps cps.length = Cou.goF k cps (cps.length - i)) ∧ Aside (Below w.heap.size w wr)) (fun s _ => nc - (intOf s).toNat)
      case atStart => exact ⟨0, by omega, rfl, rfl, HB2.out⟩
      case round =>
        clear HB2
        obtain ⟨i, hi, rfl, HA, HB⟩ := hrel
        by_cases hlt2 : i < nc
        · have hil : (i : Int) < nc := by omega
          have hic : i < cps.length := by rw [HNC.out]; exact hlt2
          obtain ⟨ad, rfl, hfb, hfl⟩ := HCAT.out i hic
          have hfb2 : (ad.add (i * 5)).block < w.heap.size := by rw [block_of_add]; exact hF _ hfb
          have hfl2 := hfl.below HB hfb2
          have f0 := hfl2.f0 rfl
          have f1 := hfl2.f1 rfl
          have f2 := hfl2.f2 rfl
          have f3 := hfl2.f3 rfl
          have f4 := hfl2.f4 rfl
          have hA2 := HA.trans (Cou.goF_at hic)
          have HOK : Hid (∀ j, j < i → ∃ x, cps[j]? = some x ∧ ∀ W, Below w.heap.size w W → W.cell? (ad.add (j * 5)) = some (.string x.name)) := Lib.hid fun j hj => by
            obtain ⟨ad', e, hfb', hfl'⟩ := HCAT.out j (by omega)
            injection e with e
            subst e
            exact ⟨_, List.getElem?_eq_getElem (by omega), fun W hb => (hfl'.below hb (by rw [block_of_add]; exact hF _ hfb')).f0 rfl⟩
          have HB2 := Lib.hid HB
          generalize cps[i] = x at *
          obtain ⟨nm, fr, to_, sh, th⟩ := x
          dsimp only at f0 f1 f2 f3 f4
          have HZ3 : Hid (Cou.checkF divs cps = if Cou.oneF k cps i ⟨nm, fr, to_, sh, th⟩ = 0 then Cou.goF k cps (cps.length - (i + 1)) else Cou.oneF k cps i ⟨nm, fr, to_, sh, th⟩) := Lib.hid (HZ2.out.trans hA2)
          have HZ4 : Hid (Cou.goF k cps cps.length = if Cou.oneF k cps i ⟨nm, fr, to_, sh, th⟩ = 0 then Cou.goF k cps (cps.length - (i + 1)) else Cou.oneF k cps i ⟨nm, fr, to_, sh, th⟩) := Lib.hid hA2
          have hNM := fun W => isName_any nm W
          clear hfl hfl2 HA HB hA2 hic
          cases hnm : Cou.nameF nm with
          | false =>
            rw [hnm] at hNM
            have HNM := Lib.hid hNM
            have hone : Cou.oneF k cps i ⟨nm, fr, to_, sh, th⟩ = 8 := by unfold Cou.oneF; dsimp only; rw [if_pos hnm]
            have HE : Hid (Cou.checkF divs cps = 8) := Lib.hid (by rw [HZ3.out, hone, if_neg (by decide)])
            clear hone hnm hNM
            go_wp2_with (go_at_call 56; (with_reducible refine ((HNM.out _).mono ?_)); rintro e w3 ⟨rfl, rfl⟩)
            go_ret
            exact ⟨by rw [HE.out]; rfl, Ba HB2.out _⟩
          | true =>
            rw [hnm] at hNM
            have HNM := Lib.hid hNM
            have HNA := Lib.hid hnm
            clear hnm hNM
            go_upto_region 12 with fail
            obtain ⟨w2, hw2⟩ : ∃ w2 : World, wr.alloc (.cells #[.string nm, .int .i64 fr, .int .i64 to_, .int .i64 sh, .bool th] 72) = w2 := ⟨_, rfl⟩
            obtain ⟨bx, hbx⟩ : ∃ bx, wr.heap.size = bx := ⟨_, rfl⟩
            have X2 : Blk w2 bx 72 #[.string nm, .int .i64 fr, .int .i64 to_, .int .i64 sh, .bool th] := by rw [← hw2, ← hbx]; exact Blk.new _ _ _
            have B2 : Below w.heap.size w w2 := by rw [← hw2]; exact Ba HB2.out _
            rw [hw2, hbx]
            have c0 := X2.cell 0
            simp only [List.getElem?_toArray, List.getElem?_cons_zero] at c0
            have HX2 := Lib.hid X2
            have HBW := Lib.hid B2
            clear X2 B2 hw2 hbx f0 f1 f2 f3 f4
            go_wp2_with (go_at_call 56; (with_reducible refine ((HNM.out _).mono ?_)); rintro e w3 ⟨rfl, rfl⟩)
            clear c0
            go_loopw [8] (fun s wr => ∃ j : Nat, j ≤ i ∧ s = .int .i64 j ∧ Aside (∀ q, q < j → ∃ x, cps[q]? = some x ∧ x.name ≠ nm) ∧ Aside (Below w3.heap.size w3 wr)) (fun s _ => i - (intOf s).toNat)
            case atStart => exact ⟨0, by omega, rfl, (fun q hq => absurd hq (by omega)), B0 _⟩
            case round =>
              obtain ⟨j, hj, rfl, hN, hB⟩ := hrel
              replace hN : ∀ q, q < j → ∃ x, cps[q]? = some x ∧ x.name ≠ nm := hN
              replace hB : Below w3.heap.size w3 wr := hB
              have hX := HX2.out.below hB HX2.out.lt
              have c0 := hX.cell 0
              have c1 := hX.cell 1
              have c2 := hX.cell 2
              have c3 := hX.cell 3
              simp only [List.getElem?_toArray, List.getElem?_cons_zero, List.getElem?_cons_succ] at c0 c1 c2 c3
              have HBB := Lib.hid (Bt HBW.out hB)
              have HB3 := Lib.hid hB
              by_cases hlt3 : j < i
              · have hjl : (j : Int) < i := by omega
                have hjc : (j : Int) < nc := by omega
                obtain ⟨y, hy, hcy⟩ := HOK.out j hlt3
                have g0 := hcy wr HBB.out
                have hbe := bytes_eq y.name nm
                have HN := Lib.hid hN
                have HY := Lib.hid hy
                by_cases hyn : y.name = nm
                · have hse : (y.name.toList == nm.toList) = true := by rw [hbe]; exact decide_eq_true hyn
                  have hone : Cou.oneF k cps i ⟨nm, fr, to_, sh, th⟩ = 9 := by
                    unfold Cou.oneF
                    dsimp only
                    rw [if_neg (by rw [HNA.out]; decide), if_pos]
                    rw [List.any_eq_true]
                    refine ⟨y, ?_, by simpa using hyn⟩
                    rw [List.mem_take_iff_getElem]
                    obtain ⟨hjl2, e⟩ := List.getElem?_eq_some_iff.1 hy
                    exact ⟨j, by omega, e⟩
                  have HE : Hid (Cou.checkF divs cps = 9) := Lib.hid (by rw [HZ3.out, hone, if_neg (by decide)])
                  clear hone hyn hbe hy hcy hN hB hX
                  generalize y.name = yn at *
                  go_upto_region 17 with fail
                  go_quiet (fail)
                  go_wp2
                  go_ret
                  exact ⟨by rw [HE.out]; rfl, below_drewN HBB.out _⟩
                · have hse : (y.name.toList == nm.toList) = false := by rw [hbe]; exact decide_eq_false hyn
                  have HYN := Lib.hid hyn
                  clear hbe hy hcy hN hB hX hyn
                  obtain ⟨yn, hyn⟩ : ∃ yn, y.name = yn := ⟨_, rfl⟩
                  rw [hyn] at hse g0
                  clear hyn
                  go_upto_region 17 with fail
                  go_quiet (fail)
                  go_wp2
                  go_roundw
                  case rel => exact ⟨j + 1, by omega, by go_num, (fun q hq => by
                    by_cases e : q = j
                    · subst e; exact ⟨y, HY.out, HYN.out⟩
                    · exact HN.out q (by omega)), below_drewN HB3.out _⟩
                  case measure => simp [intOf]; omega
              · obtain rfl : j = i := by omega
                have hany : (cps.take j).any (fun y => decide (y.name = nm)) = false := by
                  rw [List.any_eq_false]
                  intro y hy
                  rw [List.mem_take_iff_getElem] at hy
                  obtain ⟨q, hq, e⟩ := hy
                  obtain ⟨z, hz, hzn⟩ := hN q (by omega)
                  rw [List.getElem?_eq_getElem (by omega)] at hz
                  injection hz with hz
                  rw [← e, hz]
                  simpa using hzn
                have hone : Cou.oneF k cps j ⟨nm, fr, to_, sh, th⟩ = if fr < 0 ∨ (k : Int) ≤ fr ∨ to_ < 0 ∨ (k : Int) ≤ to_ then 10 else if sh < -127 ∨ 127 < sh then 3 else if fr = to_ ∧ sh = 0 then 7 else 0 := by
                  unfold Cou.oneF
                  dsimp only
                  rw [if_neg (by rw [HNA.out]; decide), if_neg (by rw [hany]; decide)]
                rw [hone] at HZ3 HZ4
                clear hone hany hN hB hX HOK HX2 HNA HNM
                by_cases h10 : fr < 0
                · have e0 : decide (fr < 0) = true := decide_eq_true h10
                  have HE : Hid (Cou.checkF divs cps = 10) := Lib.hid (by rw [HZ3.out, if_pos (by omega : fr < 0 ∨ (k : Int) ≤ fr ∨ to_ < 0 ∨ (k : Int) ≤ to_)]; rfl)
                  clear HZ3 HZ4
                  go_wp2
                  go_ret
                  exact ⟨by rw [HE.out]; rfl, HBB.out⟩
                have e0 : decide (fr < 0) = false := decide_eq_false h10
                by_cases h11 : (k : Int) ≤ fr
                · have e1 : decide ((k : Int) ≤ fr) = true := decide_eq_true h11
                  have HE : Hid (Cou.checkF divs cps = 10) := Lib.hid (by rw [HZ3.out, if_pos (by omega : fr < 0 ∨ (k : Int) ≤ fr ∨ to_ < 0 ∨ (k : Int) ≤ to_)]; rfl)
                  clear HZ3 HZ4
                  go_wp2
                  go_ret
                  exact ⟨by rw [HE.out]; rfl, HBB.out⟩
                have e1 : decide ((k : Int) ≤ fr) = false := decide_eq_false h11
                by_cases h12 : to_ < 0
                · have e2 : decide (to_ < 0) = true := decide_eq_true h12
                  have HE : Hid (Cou.checkF divs cps = 10) := Lib.hid (by rw [HZ3.out, if_pos (by omega : fr < 0 ∨ (k : Int) ≤ fr ∨ to_ < 0 ∨ (k : Int) ≤ to_)]; rfl)
                  clear HZ3 HZ4
                  go_wp2
                  go_ret
                  exact ⟨by rw [HE.out]; rfl, HBB.out⟩
                have e2 : decide (to_ < 0) = false := decide_eq_false h12
                by_cases h13 : (k : Int) ≤ to_
                · have e3 : decide ((k : Int) ≤ to_) = true := decide_eq_true h13
                  have HE : Hid (Cou.checkF divs cps = 10) := Lib.hid (by rw [HZ3.out, if_pos (by omega : fr < 0 ∨ (k : Int) ≤ fr ∨ to_ < 0 ∨ (k : Int) ≤ to_)]; rfl)
                  clear HZ3 HZ4
                  go_wp2
                  go_ret
                  exact ⟨by rw [HE.out]; rfl, HBB.out⟩
                have e3 : decide ((k : Int) ≤ to_) = false := decide_eq_false h13
                have hu : ¬ (fr < 0 ∨ (k : Int) ≤ fr ∨ to_ < 0 ∨ (k : Int) ≤ to_) := by omega
                rw [if_neg hu] at HZ3 HZ4
                by_cases h14 : sh < -127
                · have e4 : decide (sh < -127) = true := decide_eq_true h14
                  have HE : Hid (Cou.checkF divs cps = 3) := Lib.hid (by rw [HZ3.out, if_pos (by omega : sh < -127 ∨ 127 < sh)]; rfl)
                  clear HZ3 HZ4
                  go_wp2
                  go_ret
                  exact ⟨by rw [HE.out]; rfl, HBB.out⟩
                have e4 : decide (sh < -127) = false := decide_eq_false h14
                by_cases h15 : 127 < sh
                · have e5 : decide (127 < sh) = true := decide_eq_true h15
                  have HE : Hid (Cou.checkF divs cps = 3) := Lib.hid (by rw [HZ3.out, if_pos (by omega : sh < -127 ∨ 127 < sh)]; rfl)
                  clear HZ3 HZ4
                  go_wp2
                  go_ret
                  exact ⟨by rw [HE.out]; rfl, HBB.out⟩
                have e5 : decide (127 < sh) = false := decide_eq_false h15
                rw [if_neg (by omega : ¬ (sh < -127 ∨ 127 < sh))] at HZ3 HZ4
                by_cases h16 : fr = to_
                · by_cases h17 : sh = 0
                  · have e6 : (fr == to_) = true := by simpa using h16
                    have e7 : (sh == 0) = true := by simpa using h17
                    have HE : Hid (Cou.checkF divs cps = 7) := Lib.hid (by rw [HZ3.out, if_pos (And.intro h16 h17)]; rfl)
                    clear HZ3 HZ4
                    go_wp2
                    go_ret
                    exact ⟨by rw [HE.out]; rfl, HBB.out⟩
                  · have e6 : (fr == to_) = true := by simpa using h16
                    have e7 : (sh == 0) = false := by simpa using h17
                    rw [if_neg (by omega : ¬ (fr = to_ ∧ sh = 0)), if_pos rfl] at HZ4
                    clear HZ3
                    go_wp2
                    go_roundw
                    case rel => exact ⟨j + 1, by omega, by go_num, HZ4.out, HBB.out⟩
                    case measure => simp [intOf]; omega
                · have e6 : (fr == to_) = false := by simpa using h16
                  rw [if_neg (by omega : ¬ (fr = to_ ∧ sh = 0)), if_pos rfl] at HZ4
                  clear HZ3
                  go_wp2
                  go_roundw
                  case rel => exact ⟨j + 1, by omega, by go_num, HZ4.out, HBB.out⟩
                  case measure => simp [intOf]; omega
        · obtain rfl : i = nc := by omega
          have HE : Hid (Cou.checkF divs cps = 0) := Lib.hid (by rw [HZ2.out, HA, ← HNC.out, Nat.sub_self]; rfl)
          have HB3 := Lib.hid HB
          clear HA HB
          go_wp2
          go_ret
          exact ⟨by rw [HE.out]; rfl, HB3.out⟩
end Go.Proofs.YtnkjhppjjklgfaaDoor
