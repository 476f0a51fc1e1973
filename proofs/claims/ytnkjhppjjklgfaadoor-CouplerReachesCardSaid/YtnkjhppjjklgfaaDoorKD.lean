/- Walks over coupler's statements: CouplerReaches. -/
import Derived.Test.YtnkjhppjjklgfaaDoorKC
import Derived.Test.YtnkjhppjjklgfaaDoorKB
namespace Go.Proofs.YtnkjhppjjklgfaaDoor
open Go Go.RowKit Go.Shelf
theorem SlCt.bound {F : Nat → Prop} {w : World} {v : Value} {l : List Cou.Ct} (h : SlCt F w v l) : SlCt (fun b => b < w.heap.size) w v l := by
  obtain ⟨A, c, hv, hc, hl, hat⟩ := h
  refine ⟨A, c, hv, hc, hl, fun i hi => ?_⟩
  obtain ⟨ad, cs, e, hf, hk, hr, hfl⟩ := hat i hi
  refine ⟨ad, cs, e, ?_, hk, hr, hfl⟩
  have := World.block_lt_of_cell? _ _ (hfl 0 (cs[0]'(by omega)) (List.getElem?_eq_getElem _))
  rwa [block_of_add, block_of_add] at this
theorem SlCt.on1 {w w' : World} {v : Value} {l : List Cou.Ct} (h : SlCt (fun b => b < w.heap.size) w v l) (hb : Below w.heap.size w w') : SlCt (fun b => b < w'.heap.size) w' v l :=
  Sl.mono (SlCt.keep h (Agree.below hb fun _ q => q)) fun _ q => Nat.lt_of_lt_of_le q hb.size
set_option maxRecDepth 100000 in
set_option maxHeartbeats 4000000 in
theorem law_reaches (p : Cou.Pl) (hp : PlOk p) (vl : Value) (c : Cou.Ct) (w : World) (F : Nat → Prop) (hF : ∀ b, F b → b < w.heap.size) (hl : SlLk F w vl p.links) (hT : Tab64 w) (hg : 0 < w.heap.size) :
    Calls Tryd.prog 3 #[.agg (plCells p vl), .agg #[.int .i64 c.1, .int .i64 c.2]] w fun e w' => e = .returned (.bool true) ∧ Below w.heap.size w w' := by
  have HTT := Lib.hid hT
  have HK := Lib.hid (fun W (hb : Below w.heap.size w W) => known_any W (hT.below hb) (Nat.lt_of_lt_of_le hg hb.size))
  have HM := Lib.hid (fun W (hb : Below w.heap.size w W) => make_any p hp vl W F (fun b h => Nat.lt_of_lt_of_le (hF b h) hb.size) (Sl.keep hl (Agree.below hb hF) fun _ _ h => h))
  obtain ⟨Al, al, hvl, _, hll, _⟩ := id hl
  have hok : Cou.Ok (Cou.makeF p) := Cou.right_ok (Cou.make_right hp.len)
  have hrt : Cou.rightF (Cou.makeF p) = 0 := Cou.make_right hp.len
  have hcl4 : (Cou.makeF p).cps.length ≤ 4 := makeF_cps
  have hdr := makeF_drawn hp
  subst hvl
  obtain ⟨c1, c2⟩ := c
  unfold plCells at *
  obtain ⟨ll, hll9⟩ : ∃ ll, p.links.length = ll := ⟨_, rfl⟩
  rw [hll9] at hll HM ⊢
  generalize ((p.dv.getD 0 (0, 0)).1 : Int) = d0 at *
  generalize ((p.dv.getD 0 (0, 0)).2 : Int) = d1 at *
  generalize ((p.dv.getD 1 (0, 0)).1 : Int) = d2 at *
  generalize ((p.dv.getD 1 (0, 0)).2 : Int) = d3 at *
  generalize ((p.dv.getD 2 (0, 0)).1 : Int) = d4 at *
  generalize ((p.dv.getD 2 (0, 0)).2 : Int) = d5 at *
  generalize (p.more : Int) = mo at *
  generalize (p.drawn : Int) = dr at *
  generalize Cou.makeF p = a at *
  dsimp only
  clear hl hll9 hp
  obtain ⟨w1, hw1⟩ : ∃ w1 : World, (w.alloc (.cells #[.int .u8 d0, .int .u8 d1, .int .u8 d2, .int .u8 d3, .int .u8 d4, .int .u8 d5, .int .u8 mo, .slice Al ll al, .int .u8 dr] 26)).alloc (.cells #[.int .i64 c1, .int .i64 c2] 28) = w1 := ⟨_, rfl⟩
  obtain ⟨pb, hpb⟩ : ∃ pb, w.heap.size = pb := ⟨_, rfl⟩
  have PB : Blk w1 pb 26 #[.int .u8 d0, .int .u8 d1, .int .u8 d2, .int .u8 d3, .int .u8 d4, .int .u8 d5, .int .u8 mo, .slice Al ll al, .int .u8 dr] := by
    rw [← hw1, ← hpb]; exact (Blk.new w _ _).alloc _
  have CB : Blk w1 (pb + 1) 28 #[.int .i64 c1, .int .i64 c2] := by
    have := Blk.new (w.alloc (.cells #[.int .u8 d0, .int .u8 d1, .int .u8 d2, .int .u8 d3, .int .u8 d4, .int .u8 d5, .int .u8 mo, .slice Al ll al, .int .u8 dr] 26)) 28 #[.int .i64 c1, .int .i64 c2]
    rw [hw1] at this
    simpa [hpb] using this
  have B1 : Below w.heap.size w w1 := by rw [← hw1]; exact Ba (Ba (B0 w) _) _
  have HPB := Lib.hid PB
  have HCB := Lib.hid CB
  have HB1 := Lib.hid B1
  have HW1 := Lib.hid hw1
  have HPP := Lib.hid hpb
  clear PB CB B1 hw1 hpb hT
  go_enter Tryd.func3, Tryd.ntmps3
  go_upto_region 1 with fail
  rw [HW1.out, HPP.out]
  by_cases h4 : 4 < ll
  · have d4' : decide ((4 : Int) < ll) = true := decide_eq_true (by omega)
    go_wp2_with (first
      | (go_at_call 11; (with_reducible refine ((HK.out _ HB2.out).mono ?_)); rintro e w3 ⟨rfl, hb3⟩; have HB3 := Lib.hid (Bt HB2.out hb3); clear hb3)
      | (go_at_call 11; (with_reducible refine ((HK.out _ HB1.out).mono ?_)); rintro e w2 ⟨rfl, hb2⟩; have HB2 := Lib.hid (Bt HB1.out hb2); have k7 := (HPB.out.below hb2 HPB.out.lt).cell 7; simp only [List.getElem?_toArray, List.getElem?_cons_zero, List.getElem?_cons_succ] at k7; clear hb2))
    go_ret
    exact ⟨rfl, HB3.out⟩
  · have d4' : decide ((4 : Int) < ll) = false := decide_eq_false (by omega)
    go_upto_region 3 with (go_at_call 11; (with_reducible refine ((HK.out _ HB1.out).mono ?_)); rintro e w2 ⟨rfl, hb2⟩; have HB2 := Lib.hid (Bt HB1.out hb2); have HP2 := Lib.hid (HPB.out.below hb2 HPB.out.lt); have HC2 := Lib.hid (HCB.out.below hb2 HCB.out.lt); have k7 := HP2.out.cell 7; simp only [List.getElem?_toArray, List.getElem?_cons_zero, List.getElem?_cons_succ] at k7; clear hb2)
    have k0 := HP2.out.cell 0
    have k1 := HP2.out.cell 1
    have k2 := HP2.out.cell 2
    have k3 := HP2.out.cell 3
    have k4 := HP2.out.cell 4
    have k5 := HP2.out.cell 5
    have k6 := HP2.out.cell 6
    have k8 := HP2.out.cell 8
    simp only [List.getElem?_toArray, List.getElem?_cons_zero, List.getElem?_cons_succ] at k0 k1 k2 k3 k4 k5 k6 k8
    go_upto_region 4 with (go_at_call 12; (with_reducible refine ((HM.out _ HB2.out).mono ?_)); rintro e w3 ⟨vd, vc, rfl, hA3, hb3⟩; obtain ⟨Ad, cd, rfl, _, _⟩ := id hA3.dv.open; obtain ⟨Ac, cc, rfl, _, _⟩ := id hA3.cp.open; have HA3 := Lib.hid hA3; have HB3 := Lib.hid (Bt HB2.out hb3); have HC3 := Lib.hid (HC2.out.below hb3 HC2.out.lt); clear hb3 hA3)
    obtain ⟨W4, hW4⟩ : ∃ W4 : World, w3.alloc (.cells #[.slice Ad a.divs.length cd, .slice Ac a.cps.length cc, .int .u64 a.drawn] 34) = W4 := ⟨_, rfl⟩
    obtain ⟨ab, hab⟩ : ∃ ab, w3.heap.size = ab := ⟨_, rfl⟩
    have AB : Blk W4 ab 34 #[.slice Ad a.divs.length cd, .slice Ac a.cps.length cc, .int .u64 a.drawn] := by rw [← hW4, ← hab]; exact Blk.new _ _ _
    have B4 : Below w3.heap.size w3 W4 := by rw [← hW4]; exact Ba (B0 w3) _
    have A4 := HA3.out.on B4
    have C4 := HC3.out.below B4 HC3.out.lt
    rw [hW4, hab]
    have hB04 := Bt HB3.out B4
    have hRe := fun W (hb : Below W4.heap.size W4 W) => Reach_any a _ _ hdr (c1, c2) W _ (A4.on hb) (HTT.out.below (Bt hB04 hb)) (Nat.lt_of_lt_of_le hg (Bt hB04 hb).size)
    have hWr := fun W (hb : Below W4.heap.size W4 W) => wrong_any a _ _ (c1, c2) a.drawn W _ (A4.on hb)
    have hLr := fun (hc : -1000 ≤ c2 ∧ c2 ≤ 1000) W (hb : Below W4.heap.size W4 W) => lreach_any a hok _ _ (c1, c2) hc W _ (A4.on hb)
    have x0 := AB.cell 0
    have x1 := AB.cell 1
    have x2 := AB.cell 2
    have y0 := C4.cell 0
    have y1 := C4.cell 1
    simp only [List.getElem?_toArray, List.getElem?_cons_zero, List.getElem?_cons_succ] at x0 x1 x2 y0 y1
    have HB4 := Lib.hid hB04
    have HRE := Lib.hid hRe
    have HWR := Lib.hid hWr
    have HLR := Lib.hid hLr
    have HAB := Lib.hid AB
    have HC4 := Lib.hid C4
    have HOK := Lib.hid hok
    clear AB B4 A4 C4 hW4 hab hRe hWr hLr hB04 hok HA3 HB3 HC3 HP2 HC2 HPB HCB HK HM HTT k0 k1 k2 k3 k4 k5 k6 k7 k8
    obtain ⟨W0, hW0⟩ : ∃ W0, Cou.wrongF a (c1, c2) = W0 := ⟨_, rfl⟩
    have hre : reachErr a (c1, c2) = W0 := by unfold reachErr; rw [if_pos hrt, hW0]
    dsimp only at HWR HRE HLR
    rw [hW0] at HWR
    rw [hre] at HRE
    have hkeep : ∀ W, Below W4.heap.size W4 W → W.cell? ⟨ab, 0, none⟩ = some (.slice Ad a.divs.length cd) ∧ W.cell? ⟨ab, 1, none⟩ = some (.slice Ac a.cps.length cc) ∧ W.cell? ⟨ab, 2, none⟩ = some (.int .u64 a.drawn) ∧ W.cell? ⟨pb + 1, 0, none⟩ = some (.int .i64 c1) ∧ W.cell? ⟨pb + 1, 1, none⟩ = some (.int .i64 c2) := fun W hb =>
      ⟨(Bc hb HAB.out.lt).trans x0, (Bc hb HAB.out.lt).trans x1, (Bc hb HAB.out.lt).trans x2, (Bc hb HC4.out.lt).trans y0, (Bc hb HC4.out.lt).trans y1⟩
    have HKE := Lib.hid hkeep
    have HW0 := Lib.hid hW0
    clear hkeep hW0 hre hrt
    by_cases hw : W0 = 0
    · subst hw
      have hkey := (wrongF_in HW0.out).key HOK.out
      have hc2 : -1000 ≤ c2 ∧ c2 ≤ 1000 := by dsimp only at hkey; omega
      have HL2 := Lib.hid (fun W hb => HLR.out hc2 W hb)
      clear hkey hc2 HLR
      go_wp2_with (first
        | (go_at_call 13; (with_reducible refine ((HRE.out _ (B0 W4)).mono ?_)); rintro e w5 ⟨v5, l5, rfl, hs5, _, hl5, hb5⟩; obtain ⟨A5, c5, rfl, _, _⟩ := id hs5.open; have HB5 := Lib.hid hb5; have HS5 := Lib.hid (SlCt.bound hs5); have HL5 := Lib.hid (hl5 rfl); obtain ⟨r0, r1, r2, r3, r4⟩ := HKE.out w5 hb5; clear hb5 hs5 hl5)
        | (go_at_call 14; (with_reducible refine ((HWR.out _ HB5.out).mono ?_)); rintro e w6 ⟨rfl, hb6⟩; have HB6 := Lib.hid (Bt HB5.out hb6); have HS6 := Lib.hid (SlCt.on1 HS5.out hb6); obtain ⟨s0, s1, s2, s3, s4⟩ := HKE.out w6 HB6.out; clear hb6)
        | (go_at_call 16; (with_reducible refine ((HL2.out _ HB6.out).mono ?_)); rintro e w7 ⟨v7, l7, rfl, hs7, ho7, hm7, hb7⟩; have HB7 := Lib.hid (Bt HB6.out hb7); have HS7 := Lib.hid hs7; have HS5' := Lib.hid (SlCt.on1 HS6.out hb7); have HE := Lib.hid (Cou.Srt.eq HL5.out.1 ho7 fun t => (HL5.out.2 t).trans (hm7 t).symm); clear hb7 hs7 ho7 hm7)
        | (go_at_call 15; (with_reducible refine ((same_ct _ v7 l5 l7 _ (fun b => b < w7.heap.size) (fun b h => h) (Sl.mono HS5'.out fun b h => h) (Sl.mono HS7.out fun b h => h.2)).mono ?_)); rintro e w8 ⟨rfl, hb8⟩; rw [decide_eq_true HE.out]; have HB8 := Lib.hid (Bt HB7.out hb8); clear hb8))
      go_ret
      exact ⟨rfl, Bt HB4.out HB8.out⟩
    · have d3 : (W0 != 0) = true := by simpa using hw
      have HW := Lib.hid hw
      clear hw
      go_wp2_with (first
        | (go_at_call 13; (with_reducible refine ((HRE.out _ (B0 W4)).mono ?_)); rintro e w5 ⟨v5, l5, rfl, hs5, hl5, _, hb5⟩; obtain rfl := hl5 HW.out; obtain ⟨A5, c5, rfl, _, _⟩ := id hs5.open; simp only [List.length_nil]; have HB5 := Lib.hid hb5; obtain ⟨r0, r1, r2, r3, r4⟩ := HKE.out w5 hb5; clear hb5 hs5 hl5)
        | (go_at_call 14; (with_reducible refine ((HWR.out _ HB5.out).mono ?_)); rintro e w6 ⟨rfl, hb6⟩; have HB6 := Lib.hid (Bt HB5.out hb6); clear hb6))
      go_ret
      exact ⟨rfl, Bt HB4.out HB6.out⟩
end Go.Proofs.YtnkjhppjjklgfaaDoor
