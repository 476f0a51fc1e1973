/- Walks over coupler's statements: CouplerSteps. -/
import Derived.Test.YtnkjhppjjklgfaaDoorKu
import Derived.Test.YtnkjhppjjklgfaaDoorKw
import Derived.Test.YtnkjhppjjklgfaaDoorKv
import Derived.Laws.StructEq
namespace Go.Proofs.YtnkjhppjjklgfaaDoor
open Go Go.RowKit Go.Shelf
/-- What a plan's action is, once made. -/
theorem makeF_cps {p : Cou.Pl} : (Cou.makeF p).cps.length ≤ 4 := by
  show (Cou.cpsL _ 0 (p.links.take 4)).length ≤ 4
  rw [Cou.cpsL_len, List.length_take]; omega
theorem makeF_drawn {p : Cou.Pl} (hp : PlOk p) : (Cou.makeF p).drawn < 2 ^ 64 := by
  have h1 : p.drawn &&& (2 ^ (p.links.take 4).length - 1) ≤ p.drawn := Nat.and_le_left
  have := hp.drawn
  show p.drawn &&& (2 ^ (p.links.take 4).length - 1) < _
  omega
set_option maxRecDepth 100000 in
set_option maxHeartbeats 4000000 in
theorem law_steps (p : Cou.Pl) (hp : PlOk p) (vl : Value) (i : Int) (c : Cou.Ct) (w : World) (F : Nat → Prop) (hF : ∀ b, F b → b < w.heap.size) (hl : SlLk F w vl p.links) (hT : Tab64 w) (hg : 0 < w.heap.size) :
    Calls Tryd.prog 4 #[.agg (plCells p vl), .int .i64 i, .agg #[.int .i64 c.1, .int .i64 c.2]] w fun e w' => e = .returned (.bool true) ∧ Below w.heap.size w w' := by
  have HK := Lib.hid (fun W (hb : Below w.heap.size w W) => known_any W (hT.below hb) (Nat.lt_of_lt_of_le hg hb.size))
  have HM := Lib.hid (fun W (hb : Below w.heap.size w W) => make_any p hp vl W F (fun b h => Nat.lt_of_lt_of_le (hF b h) hb.size) (Sl.keep hl (Agree.below hb hF) fun _ _ h => h))
  obtain ⟨Al, al, hvl, _, hll, _⟩ := id hl
  have hok : Cou.Ok (Cou.makeF p) := Cou.right_ok (Cou.make_right hp.len)
  have hrt : Cou.rightF (Cou.makeF p) = 0 := Cou.make_right hp.len
  have hcl4 : (Cou.makeF p).cps.length ≤ 4 := makeF_cps
  have hdr := makeF_drawn hp
  subst hvl
  obtain ⟨c1, c2⟩ := c
  unfold plCells at *
  obtain ⟨ll, hll9⟩ : ∃ ll, p.links.length = ll := ⟨_, rfl⟩
  rw [hll9] at hll HM ⊢
  generalize ((p.dv.getD 0 (0, 0)).1 : Int) = d0 at *
  generalize ((p.dv.getD 0 (0, 0)).2 : Int) = d1 at *
  generalize ((p.dv.getD 1 (0, 0)).1 : Int) = d2 at *
  generalize ((p.dv.getD 1 (0, 0)).2 : Int) = d3 at *
  generalize ((p.dv.getD 2 (0, 0)).1 : Int) = d4 at *
  generalize ((p.dv.getD 2 (0, 0)).2 : Int) = d5 at *
  generalize (p.more : Int) = mo at *
  generalize (p.drawn : Int) = dr at *
  generalize Cou.makeF p = a at *
  dsimp only
  clear hl hll9 hp
  obtain ⟨w1, hw1⟩ : ∃ w1 : World, (w.alloc (.cells #[.int .u8 d0, .int .u8 d1, .int .u8 d2, .int .u8 d3, .int .u8 d4, .int .u8 d5, .int .u8 mo, .slice Al ll al, .int .u8 dr] 26)).alloc (.cells #[.int .i64 c1, .int .i64 c2] 28) = w1 := ⟨_, rfl⟩
  obtain ⟨pb, hpb⟩ : ∃ pb, w.heap.size = pb := ⟨_, rfl⟩
  have PB : Blk w1 pb 26 #[.int .u8 d0, .int .u8 d1, .int .u8 d2, .int .u8 d3, .int .u8 d4, .int .u8 d5, .int .u8 mo, .slice Al ll al, .int .u8 dr] := by
    rw [← hw1, ← hpb]; exact (Blk.new w _ _).alloc _
  have CB : Blk w1 (pb + 1) 28 #[.int .i64 c1, .int .i64 c2] := by
    have := Blk.new (w.alloc (.cells #[.int .u8 d0, .int .u8 d1, .int .u8 d2, .int .u8 d3, .int .u8 d4, .int .u8 d5, .int .u8 mo, .slice Al ll al, .int .u8 dr] 26)) 28 #[.int .i64 c1, .int .i64 c2]
    rw [hw1] at this
    simpa [hpb] using this
  have B1 : Below w.heap.size w w1 := by rw [← hw1]; exact Ba (Ba (B0 w) _) _
  have HPB := Lib.hid PB
  have HCB := Lib.hid CB
  have HB1 := Lib.hid B1
  have HW1 := Lib.hid hw1
  have HPP := Lib.hid hpb
  clear PB CB B1 hw1 hpb hT
  go_enter Tryd.func4, Tryd.ntmps4
  go_upto_region 1 with fail
  rw [HW1.out, HPP.out]
  by_cases h4 : 4 < ll
  · have d4' : decide ((4 : Int) < ll) = true := decide_eq_true (by omega)
    go_wp2_with (first
      | (go_at_call 11; (with_reducible refine ((HK.out _ HB2.out).mono ?_)); rintro e w3 ⟨rfl, hb3⟩; have HB3 := Lib.hid (Bt HB2.out hb3); clear hb3)
      | (go_at_call 11; (with_reducible refine ((HK.out _ HB1.out).mono ?_)); rintro e w2 ⟨rfl, hb2⟩; have HB2 := Lib.hid (Bt HB1.out hb2); have k7 := (HPB.out.below hb2 HPB.out.lt).cell 7; simp only [List.getElem?_toArray, List.getElem?_cons_zero, List.getElem?_cons_succ] at k7; clear hb2))
    go_ret
    exact ⟨rfl, HB3.out⟩
  · have d4' : decide ((4 : Int) < ll) = false := decide_eq_false (by omega)
    go_upto_region 3 with (go_at_call 11; (with_reducible refine ((HK.out _ HB1.out).mono ?_)); rintro e w2 ⟨rfl, hb2⟩; have HB2 := Lib.hid (Bt HB1.out hb2); have HP2 := Lib.hid (HPB.out.below hb2 HPB.out.lt); have HC2 := Lib.hid (HCB.out.below hb2 HCB.out.lt); have k7 := HP2.out.cell 7; simp only [List.getElem?_toArray, List.getElem?_cons_zero, List.getElem?_cons_succ] at k7; clear hb2)
    have k0 := HP2.out.cell 0
    have k1 := HP2.out.cell 1
    have k2 := HP2.out.cell 2
    have k3 := HP2.out.cell 3
    have k4 := HP2.out.cell 4
    have k5 := HP2.out.cell 5
    have k6 := HP2.out.cell 6
    have k8 := HP2.out.cell 8
    simp only [List.getElem?_toArray, List.getElem?_cons_zero, List.getElem?_cons_succ] at k0 k1 k2 k3 k4 k5 k6 k8
    go_upto_region 4 with (go_at_call 12; (with_reducible refine ((HM.out _ HB2.out).mono ?_)); rintro e w3 ⟨vd, vc, rfl, hA3, hb3⟩; obtain ⟨Ad, cd, rfl, _, _⟩ := id hA3.dv.open; obtain ⟨Ac, cc, rfl, _, _⟩ := id hA3.cp.open; have HA3 := Lib.hid hA3; have HB3 := Lib.hid (Bt HB2.out hb3); have HC3 := Lib.hid (HC2.out.below hb3 HC2.out.lt); clear hb3 hA3)
    obtain ⟨W4, hW4⟩ : ∃ W4 : World, w3.alloc (.cells #[.slice Ad a.divs.length cd, .slice Ac a.cps.length cc, .int .u64 a.drawn] 34) = W4 := ⟨_, rfl⟩
    obtain ⟨ab, hab⟩ : ∃ ab, w3.heap.size = ab := ⟨_, rfl⟩
    have AB : Blk W4 ab 34 #[.slice Ad a.divs.length cd, .slice Ac a.cps.length cc, .int .u64 a.drawn] := by rw [← hW4, ← hab]; exact Blk.new _ _ _
    have B4 : Below w3.heap.size w3 W4 := by rw [← hW4]; exact Ba (B0 w3) _
    have A4 := HA3.out.on B4
    have C4 := HC3.out.below B4 HC3.out.lt
    rw [hW4, hab]
    have hcl4I : (a.cps.length : Int) ≤ 4 := by omega
    have hSt := fun W (hb : Below W4.heap.size W4 W) => Step_any a _ _ hdr i (c1, c2) W _ (A4.on hb)
    have hWr := fun W (hb : Below W4.heap.size W4 W) => wrong_any a _ _ (c1, c2) a.drawn W _ (A4.on hb)
    have hLs : ∀ (n : Nat) (_ : n < a.cps.length) (_ : -1000 ≤ c2 ∧ c2 ≤ 1000) W (_ : Below W4.heap.size W4 W), _ := fun n hn hc W hb => lstep_any a hok _ _ n hn (c1, c2) hc a.drawn W _ (A4.on hb)
    have x0 := AB.cell 0
    have x1 := AB.cell 1
    have x2 := AB.cell 2
    have y0 := C4.cell 0
    have y1 := C4.cell 1
    simp only [List.getElem?_toArray, List.getElem?_cons_zero, List.getElem?_cons_succ] at x0 x1 x2 y0 y1
    have HB4 := Lib.hid (Bt HB3.out B4)
    have HST := Lib.hid hSt
    have HWR := Lib.hid hWr
    have HLS := Lib.hid hLs
    have HAB := Lib.hid AB
    have HC4 := Lib.hid C4
    have HRT := Lib.hid hrt
    have HOK := Lib.hid hok
    clear AB B4 A4 C4 hW4 hab hSt hWr hLs hrt hok HA3 HB3 HC3 HP2 HC2 HPB HCB HK HM k0 k1 k2 k3 k4 k5 k6 k7 k8
    obtain ⟨cl, hcl⟩ : ∃ cl, a.cps.length = cl := ⟨_, rfl⟩
    rw [hcl] at x1 hcl4 hcl4I HLS HST HWR
    rw [hcl]
    obtain ⟨W0, hW0⟩ : ∃ W0, Cou.wrongF a (c1, c2) = W0 := ⟨_, rfl⟩
    dsimp only at HWR HST
    rw [hW0] at HWR
    have hcase : (i < 0) ∨ (0 ≤ i ∧ (cl : Int) ≤ i) ∨ (0 ≤ i ∧ i < cl ∧ W0 ≠ 0) ∨ (0 ≤ i ∧ i < cl ∧ W0 = 0) := by omega
    have hkeep : ∀ W, Below W4.heap.size W4 W → W.cell? ⟨ab, 0, none⟩ = some (.slice Ad a.divs.length cd) ∧ W.cell? ⟨ab, 1, none⟩ = some (.slice Ac cl cc) ∧ W.cell? ⟨ab, 2, none⟩ = some (.int .u64 a.drawn) ∧ W.cell? ⟨pb + 1, 0, none⟩ = some (.int .i64 c1) ∧ W.cell? ⟨pb + 1, 1, none⟩ = some (.int .i64 c2) := fun W hb =>
      ⟨(Bc hb HAB.out.lt).trans x0, (Bc hb HAB.out.lt).trans x1, (Bc hb HAB.out.lt).trans x2, (Bc hb HC4.out.lt).trans y0, (Bc hb HC4.out.lt).trans y1⟩
    have HKE := Lib.hid hkeep
    have HW0 := Lib.hid hW0
    have HCL := Lib.hid hcl
    clear hkeep hW0 hcl
    have hgen : ∀ t1 t2 fl er, stepR a i (c1, c2) = ((t1, t2), fl, er) → ∀ W (_ : Below W4.heap.size W4 W), Calls Tryd.prog 17 #[.agg #[.slice Ad a.divs.length cd, .slice Ac cl cc, .int .u64 a.drawn], .int .i64 i, .agg #[.int .i64 c1, .int .i64 c2]] W fun e w' => e = .returned (.tuple #[.agg #[.int .i64 t1, .int .i64 t2], .bool fl, .int .i64 er]) ∧ Below W.heap.size W w' := fun t1 t2 fl er hr W hb => by
      have := HST.out W hb
      rw [hr] at this
      exact this
    have HGEN := Lib.hid hgen
    clear hgen HST
    rcases hcase with hi | ⟨hi, hi2⟩ | ⟨hi, hi2, hw⟩ | ⟨hi, hi2, hw⟩
    · have hr : stepR a i (c1, c2) = ((0, 0), false, 10) := by unfold stepR; rw [if_pos HRT.out, if_pos (.inl hi)]
      have d1 : decide (i < 0) = true := decide_eq_true hi
      clear hi
      have HG := Lib.hid (HGEN.out 0 0 false 10 hr)
      clear hr HRT HOK
      go_upto_region 5 with (go_at_call 17; (with_reducible refine ((HG.out _ (B0 W4)).mono ?_)); rintro e w5 ⟨rfl, hb5⟩; have HB5 := Lib.hid hb5; clear hb5)
      obtain ⟨W6, hW6⟩ : ∃ W6 : World, w5.alloc (.cells #[.int .i64 0, .int .i64 0] 28) = W6 := ⟨_, rfl⟩
      obtain ⟨tb, htb⟩ : ∃ tb, w5.heap.size = tb := ⟨_, rfl⟩
      have T6 : Blk W6 tb 28 #[.int .i64 0, .int .i64 0] := by rw [← hW6, ← htb]; exact Blk.new _ _ _
      have B6 : Below W4.heap.size W4 W6 := by rw [← hW6]; exact Ba HB5.out _
      rw [hW6, htb]
      have HB6 := Lib.hid B6
      have HT6 := Lib.hid T6
      clear T6 hW6 htb HB5 x0 x1 x2 y0 y1 B6
      obtain ⟨x0, x1, x2, y0, y1⟩ := HKE.out W6 HB6.out
      have hTW := fun W (hb : Below W6.heap.size W6 W) => (HT6.out.below hb HT6.out.lt)
      have HTW := Lib.hid hTW
      clear hTW
      go_wp2_with (go_at_call 14; (with_reducible refine ((HWR.out _ HB6.out).mono ?_)); rintro e w7 ⟨rfl, hb7⟩; have HB7 := Lib.hid hb7; obtain ⟨_, r1, _, _, _⟩ := HKE.out w7 (Bt HB6.out hb7); have T7 := HTW.out w7 hb7; have z0 := T7.cell 0; have z1 := T7.cell 1; simp only [List.getElem?_toArray, List.getElem?_cons_zero, List.getElem?_cons_succ] at z0 z1; clear hb7 T7)
      go_ret
      exact ⟨rfl, Bt HB4.out (Bt HB6.out HB7.out)⟩
    · have hr : stepR a i (c1, c2) = ((0, 0), false, 10) := by unfold stepR; rw [if_pos HRT.out, if_pos (.inr (by rw [HCL.out]; exact hi2))]
      have d1 : decide (i < 0) = false := decide_eq_false (by omega)
      have d2 : decide ((cl : Int) ≤ i) = true := decide_eq_true hi2
      clear hi hi2
      have HG := Lib.hid (HGEN.out 0 0 false 10 hr)
      clear hr HRT HOK
      go_upto_region 5 with (go_at_call 17; (with_reducible refine ((HG.out _ (B0 W4)).mono ?_)); rintro e w5 ⟨rfl, hb5⟩; have HB5 := Lib.hid hb5; clear hb5)
      obtain ⟨W6, hW6⟩ : ∃ W6 : World, w5.alloc (.cells #[.int .i64 0, .int .i64 0] 28) = W6 := ⟨_, rfl⟩
      obtain ⟨tb, htb⟩ : ∃ tb, w5.heap.size = tb := ⟨_, rfl⟩
      have T6 : Blk W6 tb 28 #[.int .i64 0, .int .i64 0] := by rw [← hW6, ← htb]; exact Blk.new _ _ _
      have B6 : Below W4.heap.size W4 W6 := by rw [← hW6]; exact Ba HB5.out _
      rw [hW6, htb]
      have HB6 := Lib.hid B6
      have HT6 := Lib.hid T6
      clear T6 hW6 htb HB5 x0 x1 x2 y0 y1 B6
      obtain ⟨x0, x1, x2, y0, y1⟩ := HKE.out W6 HB6.out
      have hTW := fun W (hb : Below W6.heap.size W6 W) => (HT6.out.below hb HT6.out.lt)
      have HTW := Lib.hid hTW
      clear hTW
      go_wp2_with (go_at_call 14; (with_reducible refine ((HWR.out _ HB6.out).mono ?_)); rintro e w7 ⟨rfl, hb7⟩; have HB7 := Lib.hid hb7; obtain ⟨_, r1, _, _, _⟩ := HKE.out w7 (Bt HB6.out hb7); have T7 := HTW.out w7 hb7; have z0 := T7.cell 0; have z1 := T7.cell 1; simp only [List.getElem?_toArray, List.getElem?_cons_zero, List.getElem?_cons_succ] at z0 z1; clear hb7 T7)
      go_ret
      exact ⟨rfl, Bt HB4.out (Bt HB6.out HB7.out)⟩
    · have hr : stepR a i (c1, c2) = ((0, 0), false, W0) := by unfold stepR; rw [if_pos HRT.out, if_neg (by rw [HCL.out]; omega), if_neg (by rw [HW0.out]; exact hw), HW0.out]
      have d1 : decide (i < 0) = false := decide_eq_false (by omega)
      have d2 : decide ((cl : Int) ≤ i) = false := decide_eq_false (by omega)
      have d3 : (W0 != 0) = true := by simpa using hw
      clear hi hi2 hw
      have HG := Lib.hid (HGEN.out 0 0 false W0 hr)
      clear hr HRT HOK
      go_upto_region 5 with (go_at_call 17; (with_reducible refine ((HG.out _ (B0 W4)).mono ?_)); rintro e w5 ⟨rfl, hb5⟩; have HB5 := Lib.hid hb5; clear hb5)
      obtain ⟨W6, hW6⟩ : ∃ W6 : World, w5.alloc (.cells #[.int .i64 0, .int .i64 0] 28) = W6 := ⟨_, rfl⟩
      obtain ⟨tb, htb⟩ : ∃ tb, w5.heap.size = tb := ⟨_, rfl⟩
      have T6 : Blk W6 tb 28 #[.int .i64 0, .int .i64 0] := by rw [← hW6, ← htb]; exact Blk.new _ _ _
      have B6 : Below W4.heap.size W4 W6 := by rw [← hW6]; exact Ba HB5.out _
      rw [hW6, htb]
      have HB6 := Lib.hid B6
      have HT6 := Lib.hid T6
      clear T6 hW6 htb HB5 x0 x1 x2 y0 y1 B6
      obtain ⟨x0, x1, x2, y0, y1⟩ := HKE.out W6 HB6.out
      have hTW := fun W (hb : Below W6.heap.size W6 W) => (HT6.out.below hb HT6.out.lt)
      have HTW := Lib.hid hTW
      clear hTW
      go_wp2_with (go_at_call 14; (with_reducible refine ((HWR.out _ HB6.out).mono ?_)); rintro e w7 ⟨rfl, hb7⟩; have HB7 := Lib.hid hb7; obtain ⟨_, r1, _, _, _⟩ := HKE.out w7 (Bt HB6.out hb7); have T7 := HTW.out w7 hb7; have z0 := T7.cell 0; have z1 := T7.cell 1; simp only [List.getElem?_toArray, List.getElem?_cons_zero, List.getElem?_cons_succ] at z0 z1; clear hb7 T7)
      go_ret
      exact ⟨rfl, Bt HB4.out (Bt HB6.out HB7.out)⟩
    · subst hw
      have d1 : decide (i < 0) = false := decide_eq_false (by omega)
      have d2 : decide ((cl : Int) ≤ i) = false := decide_eq_false (by omega)
      obtain ⟨j, rfl⟩ : ∃ j : Nat, i = j := ⟨i.toNat, by omega⟩
      have hjl : j < cl := by omega
      have d3 : decide (cl ≤ j) = false := decide_eq_false (by omega)
      have hin := wrongF_in HW0.out
      have hkey := hin.key HOK.out
      have hL0 := HLS.out j (by first | exact hjl | (rw [HCL.out]; exact hjl)) (by dsimp only at hkey; omega)
      cases hst : Cou.stepF a j (c1, c2) with
      | none =>
        have hr : stepR a j (c1, c2) = ((0, 0), false, 0) := by unfold stepR; rw [if_pos HRT.out, if_neg (by rw [HCL.out]; omega), if_pos HW0.out, Int.toNat_natCast, hst]
        have hL1 : ∀ W (_ : Below W4.heap.size W4 W), Calls Tryd.prog 18 #[.agg #[.slice Ad a.divs.length cd, .slice Ac cl cc, .int .u64 a.drawn], .int .i64 j, .agg #[.int .i64 c1, .int .i64 c2]] W fun e w' => e = .returned (.tuple #[.agg #[.int .i64 0, .int .i64 0], .bool false]) ∧ Below W.heap.size W w' := fun W hb => by
          have := hL0 W hb
          rw [hst] at this
          exact this
        have HL1 := Lib.hid hL1
        clear hL0 hL1 hst hin hkey hi hi2 hjl HLS
        have HG := Lib.hid (HGEN.out 0 0 false 0 hr)
        clear hr HRT HOK
        go_upto_region 5 with (go_at_call 17; (with_reducible refine ((HG.out _ (B0 W4)).mono ?_)); rintro e w5 ⟨rfl, hb5⟩; have HB5 := Lib.hid hb5; clear hb5)
        obtain ⟨W6, hW6⟩ : ∃ W6 : World, w5.alloc (.cells #[.int .i64 0, .int .i64 0] 28) = W6 := ⟨_, rfl⟩
        obtain ⟨tb, htb⟩ : ∃ tb, w5.heap.size = tb := ⟨_, rfl⟩
        have T6 : Blk W6 tb 28 #[.int .i64 0, .int .i64 0] := by rw [← hW6, ← htb]; exact Blk.new _ _ _
        have B6 : Below W4.heap.size W4 W6 := by rw [← hW6]; exact Ba HB5.out _
        rw [hW6, htb]
        have HB6 := Lib.hid B6
        have HT6 := Lib.hid T6
        clear T6 hW6 htb HB5 x0 x1 x2 y0 y1 B6
        obtain ⟨x0, x1, x2, y0, y1⟩ := HKE.out W6 HB6.out
        have hTW := fun W (hb : Below W6.heap.size W6 W) => (HT6.out.below hb HT6.out.lt)
        have HTW := Lib.hid hTW
        clear hTW
        go_wp2_with (first
          | (go_at_call 14; (with_reducible refine ((HWR.out _ HB6.out).mono ?_)); rintro e w7 ⟨rfl, hb7⟩; have HB7 := Lib.hid hb7; obtain ⟨r0, r1, r2, s0, s1⟩ := HKE.out w7 (Bt HB6.out hb7); clear hb7)
          | (go_at_call 18; (with_reducible refine ((HL1.out _ (Bt HB6.out HB7.out)).mono ?_)); rintro e w8 ⟨rfl, hb8⟩; have HB8 := Lib.hid (Bt HB7.out hb8); have T8 := HTW.out w8 HB8.out; have z0 := T8.cell 0; have z1 := T8.cell 1; simp only [List.getElem?_toArray, List.getElem?_cons_zero, List.getElem?_cons_succ] at z0 z1; have T8' := HTW.out (w8.alloc (.cells #[.int .i64 0, .int .i64 0] 28)) (Ba HB8.out _); have z0' := T8'.cell 0; have z1' := T8'.cell 1; simp only [List.getElem?_toArray, List.getElem?_cons_zero, List.getElem?_cons_succ] at z0' z1'; clear hb8 T8 T8'))
        go_ret
        exact ⟨rfl, Bt HB4.out (Bt HB6.out (Ba HB8.out _))⟩
      | some t =>
        obtain ⟨t1, t2⟩ := t
        have hr : stepR a j (c1, c2) = ((t1, t2), true, 0) := by unfold stepR; rw [if_pos HRT.out, if_neg (by rw [HCL.out]; omega), if_pos HW0.out, Int.toNat_natCast, hst]
        have hL1 : ∀ W (_ : Below W4.heap.size W4 W), Calls Tryd.prog 18 #[.agg #[.slice Ad a.divs.length cd, .slice Ac cl cc, .int .u64 a.drawn], .int .i64 j, .agg #[.int .i64 c1, .int .i64 c2]] W fun e w' => e = .returned (.tuple #[.agg #[.int .i64 t1, .int .i64 t2], .bool true]) ∧ Below W.heap.size W w' := fun W hb => by
          have := hL0 W hb
          rw [hst] at this
          exact this
        have HL1 := Lib.hid hL1
        clear hL0 hL1 hst hin hkey hi hi2 hjl HLS
        have HG := Lib.hid (HGEN.out t1 t2 true 0 hr)
        clear hr HRT HOK
        go_upto_region 5 with (go_at_call 17; (with_reducible refine ((HG.out _ (B0 W4)).mono ?_)); rintro e w5 ⟨rfl, hb5⟩; have HB5 := Lib.hid hb5; clear hb5)
        obtain ⟨W6, hW6⟩ : ∃ W6 : World, w5.alloc (.cells #[.int .i64 t1, .int .i64 t2] 28) = W6 := ⟨_, rfl⟩
        obtain ⟨tb, htb⟩ : ∃ tb, w5.heap.size = tb := ⟨_, rfl⟩
        have T6 : Blk W6 tb 28 #[.int .i64 t1, .int .i64 t2] := by rw [← hW6, ← htb]; exact Blk.new _ _ _
        have B6 : Below W4.heap.size W4 W6 := by rw [← hW6]; exact Ba HB5.out _
        rw [hW6, htb]
        have HB6 := Lib.hid B6
        have HT6 := Lib.hid T6
        clear T6 hW6 htb HB5 x0 x1 x2 y0 y1 B6
        obtain ⟨x0, x1, x2, y0, y1⟩ := HKE.out W6 HB6.out
        have hTW := fun W (hb : Below W6.heap.size W6 W) => (HT6.out.below hb HT6.out.lt)
        have HTW := Lib.hid hTW
        clear hTW
        go_wp2_with (first
          | (go_at_call 14; (with_reducible refine ((HWR.out _ HB6.out).mono ?_)); rintro e w7 ⟨rfl, hb7⟩; have HB7 := Lib.hid hb7; obtain ⟨r0, r1, r2, s0, s1⟩ := HKE.out w7 (Bt HB6.out hb7); clear hb7)
          | (go_at_call 18; (with_reducible refine ((HL1.out _ (Bt HB6.out HB7.out)).mono ?_)); rintro e w8 ⟨rfl, hb8⟩; have HB8 := Lib.hid (Bt HB7.out hb8); have T8 := HTW.out w8 HB8.out; have z0 := T8.cell 0; have z1 := T8.cell 1; simp only [List.getElem?_toArray, List.getElem?_cons_zero, List.getElem?_cons_succ] at z0 z1; have T8' := HTW.out (w8.alloc (.cells #[.int .i64 t1, .int .i64 t2] 28)) (Ba HB8.out _); have z0' := T8'.cell 0; have z1' := T8'.cell 1; simp only [List.getElem?_toArray, List.getElem?_cons_zero, List.getElem?_cons_succ] at z0' z1'; clear hb8 T8 T8'))
        go_ret
        exact ⟨rfl, Bt HB4.out (Bt HB6.out (Ba HB8.out _))⟩
end Go.Proofs.YtnkjhppjjklgfaaDoor
