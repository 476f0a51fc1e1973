/- Walks over coupler's statements: CouplerSounds. -/
import Derived.Test.YtnkjhppjjklgfaaDoorSe
namespace Go.Proofs.YtnkjhppjjklgfaaDoor
open Go Go.RowKit Go.Shelf
set_option maxRecDepth 100000 in
set_option maxHeartbeats 8000000 in
theorem law_sounds (p : Cou.Pl) (hp : PlOk p) (vl : Value) (b0 b1 b2 : Nat) (hb0 : b0 < 65536) (hb1 : b1 < 65536) (hb2 : b2 < 65536) (off : Nat) (hoff : off < 2 ^ 64) (w : World) (F : Nat → Prop) (hF : ∀ b, F b → b < w.heap.size) (hl : SlLk F w vl p.links) (hT : Tab64 w) (hg : 0 < w.heap.size) :
    Calls Tryd.prog 7 #[.agg (plCells p vl), .agg #[.int .u16 b0, .int .u16 b1, .int .u16 b2], .int .u64 off] w fun e w' => e = .returned (.bool true) ∧ Below w.heap.size w w' := by
  have HTT := Lib.hid hT
  have HK := Lib.hid (fun W (hb : Below w.heap.size w W) => known_any W (hT.below hb) (Nat.lt_of_lt_of_le hg hb.size))
  have HM := Lib.hid (fun W (hb : Below w.heap.size w W) => make_any p hp vl W F (fun b h => Nat.lt_of_lt_of_le (hF b h) hb.size) (Sl.keep hl (Agree.below hb hF) fun _ _ h => h))
  obtain ⟨Al, al, hvl, _, hll, _⟩ := id hl
  have hok : Cou.Ok (Cou.makeF p) := Cou.right_ok (Cou.make_right hp.len)
  have hrt : Cou.rightF (Cou.makeF p) = 0 := Cou.make_right hp.len
  have hcl4 : (Cou.makeF p).cps.length ≤ 4 := makeF_cps
  have hdr := makeF_drawn hp
  have hsm := (makeF_divs (p := p)).1
  have hd3 := (makeF_divs (p := p)).2
  subst hvl
  unfold plCells at *
  obtain ⟨ll, hll9⟩ : ∃ ll, p.links.length = ll := ⟨_, rfl⟩
  rw [hll9] at hll HM ⊢
  generalize ((p.dv.getD 0 (0, 0)).1 : Int) = d0 at *
  generalize ((p.dv.getD 0 (0, 0)).2 : Int) = d1 at *
  generalize ((p.dv.getD 1 (0, 0)).1 : Int) = d2 at *
  generalize ((p.dv.getD 1 (0, 0)).2 : Int) = d3 at *
  generalize ((p.dv.getD 2 (0, 0)).1 : Int) = d4 at *
  generalize ((p.dv.getD 2 (0, 0)).2 : Int) = d5 at *
  generalize (p.more : Int) = mo at *
  generalize (p.drawn : Int) = dr at *
  generalize Cou.makeF p = a at *
  try dsimp only
  clear hl hll9 hp
  obtain ⟨w1, hw1⟩ : ∃ w1 : World, (w.alloc (.cells #[.int .u8 d0, .int .u8 d1, .int .u8 d2, .int .u8 d3, .int .u8 d4, .int .u8 d5, .int .u8 mo, .slice Al ll al, .int .u8 dr] 26)).alloc (.cells #[.int .u16 b0, .int .u16 b1, .int .u16 b2] 62) = w1 := ⟨_, rfl⟩
  obtain ⟨pb, hpb⟩ : ∃ pb, w.heap.size = pb := ⟨_, rfl⟩
  have PB : Blk w1 pb 26 #[.int .u8 d0, .int .u8 d1, .int .u8 d2, .int .u8 d3, .int .u8 d4, .int .u8 d5, .int .u8 mo, .slice Al ll al, .int .u8 dr] := by
    rw [← hw1, ← hpb]; exact (Blk.new w _ _).alloc _
  have CB0 : Blk w1 (pb + 1) 62 #[.int .u16 b0, .int .u16 b1, .int .u16 b2] := by
    have := Blk.new (w.alloc (.cells #[.int .u8 d0, .int .u8 d1, .int .u8 d2, .int .u8 d3, .int .u8 d4, .int .u8 d5, .int .u8 mo, .slice Al ll al, .int .u8 dr] 26)) 62 #[.int .u16 b0, .int .u16 b1, .int .u16 b2]
    rw [hw1] at this
    simpa [hpb] using this
  have B1 : Below w.heap.size w w1 := by rw [← hw1]; exact Ba (Ba (B0 w) _) _
  have HPB := Lib.hid PB
  have HCB0 := Lib.hid CB0
  have HB1 := Lib.hid B1
  have HW1 := Lib.hid hw1
  have HPP := Lib.hid hpb
  clear PB CB0 B1 hw1 hpb hT
  go_enter Tryd.func7, Tryd.ntmps7
  go_upto_region 1 with fail
  rw [HW1.out, HPP.out]
  by_cases h4 : 4 < ll
  · have d4' : decide ((4 : Int) < ll) = true := decide_eq_true (by omega)
    go_wp2_with (first
      | (go_at_call 11; (with_reducible refine ((HK.out _ HB2.out).mono ?_)); rintro e w3 ⟨rfl, hb3⟩; have HB3 := Lib.hid (Bt HB2.out hb3); clear hb3)
      | (go_at_call 11; (with_reducible refine ((HK.out _ HB1.out).mono ?_)); rintro e w2 ⟨rfl, hb2⟩; have HB2 := Lib.hid (Bt HB1.out hb2); have k7 := (HPB.out.below hb2 HPB.out.lt).cell 7; simp only [List.getElem?_toArray, List.getElem?_cons_zero, List.getElem?_cons_succ] at k7; clear hb2))
    go_ret
    exact ⟨rfl, HB3.out⟩
  · have d4' : decide ((4 : Int) < ll) = false := decide_eq_false (by omega)
    go_upto_region 3 with (go_at_call 11; (with_reducible refine ((HK.out _ HB1.out).mono ?_)); rintro e w2 ⟨rfl, hb2⟩; have HB2 := Lib.hid (Bt HB1.out hb2); have HP2 := Lib.hid (HPB.out.below hb2 HPB.out.lt); have HC20 := Lib.hid (HCB0.out.below hb2 HCB0.out.lt); have k7 := HP2.out.cell 7; simp only [List.getElem?_toArray, List.getElem?_cons_zero, List.getElem?_cons_succ] at k7; clear hb2)
    have k0 := HP2.out.cell 0
    have k1 := HP2.out.cell 1
    have k2 := HP2.out.cell 2
    have k3 := HP2.out.cell 3
    have k4 := HP2.out.cell 4
    have k5 := HP2.out.cell 5
    have k6 := HP2.out.cell 6
    have k8 := HP2.out.cell 8
    simp only [List.getElem?_toArray, List.getElem?_cons_zero, List.getElem?_cons_succ] at k0 k1 k2 k3 k4 k5 k6 k8
    go_upto_region 4 with (go_at_call 12; (with_reducible refine ((HM.out _ HB2.out).mono ?_)); rintro e w3 ⟨vd, vc, rfl, hA3, hb3⟩; obtain ⟨Ad, cd, rfl, _, _⟩ := id hA3.dv.open; obtain ⟨Ac, cc, rfl, _, _⟩ := id hA3.cp.open; have HA3 := Lib.hid hA3; have HB3 := Lib.hid (Bt HB2.out hb3); have HC30 := Lib.hid (HC20.out.below hb3 HC20.out.lt); clear hb3 hA3)
    obtain ⟨W4, hW4⟩ : ∃ W4 : World, w3.alloc (.cells #[.slice Ad a.divs.length cd, .slice Ac a.cps.length cc, .int .u64 a.drawn] 34) = W4 := ⟨_, rfl⟩
    obtain ⟨ab, hab⟩ : ∃ ab, w3.heap.size = ab := ⟨_, rfl⟩
    have AB : Blk W4 ab 34 #[.slice Ad a.divs.length cd, .slice Ac a.cps.length cc, .int .u64 a.drawn] := by rw [← hW4, ← hab]; exact Blk.new _ _ _
    have B4 : Below w3.heap.size w3 W4 := by rw [← hW4]; exact Ba (B0 w3) _
    have A4 := HA3.out.on B4
    have C40 := HC30.out.below B4 HC30.out.lt
    rw [hW4, hab]
    have hB04 := Bt HB3.out B4
    have HKE := Lib.hid (fun W (hb : Below W4.heap.size W4 W) => (show W.cell? ⟨ab, 0, none⟩ = some (.slice Ad a.divs.length cd) ∧ W.cell? ⟨ab, 1, none⟩ = some (.slice Ac a.cps.length cc) ∧ W.cell? ⟨ab, 2, none⟩ = some (.int .u64 a.drawn) ∧ W.cell? ⟨pb + 1, 0, none⟩ = some (.int .u16 b0) ∧ W.cell? ⟨pb + 1, 1, none⟩ = some (.int .u16 b1) ∧ W.cell? ⟨pb + 1, 2, none⟩ = some (.int .u16 b2) from ⟨(Bc hb AB.lt).trans (AB.cell 0), (Bc hb AB.lt).trans (AB.cell 1), (Bc hb AB.lt).trans (AB.cell 2), (Bc hb C40.lt).trans (C40.cell 0), (Bc hb C40.lt).trans (C40.cell 1), (Bc hb C40.lt).trans (C40.cell 2)⟩))
    have HTW := Lib.hid (fun W (hb : Below W4.heap.size W4 W) => (show Tab64 W ∧ 0 < W.heap.size from ⟨HTT.out.below (Bt hB04 hb), Nat.lt_of_lt_of_le hg (Bt hB04 hb).size⟩))
    have HAW := Lib.hid (fun W (hb : Below W4.heap.size W4 W) => A4.on hb)
    have HB4 := Lib.hid hB04
    have HOK := Lib.hid hok
    have HRT := Lib.hid hrt
    have HSM := Lib.hid hsm
    have HAB := Lib.hid AB
    clear AB B4 A4 C40 hW4 hab hB04 hok hrt hsm HA3 HB3 HC30 HP2 HC20 HPB HCB0 HK HM HTT k0 k1 k2 k3 k4 k5 k6 k7 k8
    obtain ⟨x0, x1, x2, x3, x4, x5⟩ := HKE.out W4 (B0 W4)
    have hks := Cou.bitK_lt HOK.out [b0, b1, b2]
    have hkl := Cou.bitK_len a [b0, b1, b2]
    have hal := Cou.bitK_ok HOK.out HRT.out [b0, b1, b2]
    obtain ⟨ks, hksE⟩ : ∃ ks, Cou.bitK a [b0, b1, b2] = ks := ⟨_, rfl⟩
    rw [hksE] at hks hkl hal
    have hoA := (Cou.allErr_ok hal).2.2
    have HKY := Lib.hid (fun W (hb : Below W4.heap.size W4 W) => Keys_any a HOK.out HSM.out _ _ a.drawn b0 b1 b2 hb0 hb1 hb2 W _ (HAW.out W hb))
    rw [hksE] at HKY
    have HAL := Lib.hid (fun pv W (hb : Below W4.heap.size W4 W) (hS : SlK (fun b => b < W.heap.size) W pv ks) => All_any a _ _ pv hdr ks hks W _ _ (HAW.out W hb) (fun _ h => h) hS (HTW.out W hb).1 (HTW.out W hb).2)
    have HSO := Lib.hid (fun pv W (hb : Below W4.heap.size W4 W) (hS : SlK (fun b => b < W.heap.size) W pv ks) => Sounding_any a _ _ pv hdr ks hks off hoff W _ _ (HAW.out W hb) (fun _ h => h) hS (HTW.out W hb).1 (HTW.out W hb).2)
    have HLS := Lib.hid (fun pv o (ho : o < 2 ^ 64) W (hb : Below W4.heap.size W4 W) (hS : SlK (fun b => b < W.heap.size) W pv ks) => lsound_any a HOK.out HSM.out _ _ pv ks hkl hks o ho W _ _ (HAW.out W hb) (fun _ h => h) hS)
    have HL7 := Lib.hid (fun pv W (hb : Below W4.heap.size W4 W) (hS : SlK (fun b => b < W.heap.size) W pv ks) => (show Calls Tryd.prog 29 #[_, _, .int .u64 7] _ _ from HLS.out pv 7 (by decide) W hb hS))
    have HE7 : Hid (∀ d i : Nat, d < a.divs.length → (Cou.Got a 7 (Cou.Pld a ks a.divs.length 0) ((d : Int), (i : Int)) ↔ Cou.Hop a (Cou.allL 0 ks) ((d : Int), (i : Int)))) := Lib.hid fun d i hd => by
      rw [Cou.got_snd HOK.out hkl hks hoA hd]
      unfold Cou.Snd
      rw [seven_bit (by omega)]
      simp
    have HEO : Hid (∀ d i : Nat, d < a.divs.length → (Cou.Got a off (Cou.Pld a ks a.divs.length 0) ((d : Int), (i : Int)) ↔ Cou.Snd a ks off d i)) := Lib.hid fun d i hd => Cou.got_snd HOK.out hkl hks hoA hd
    have hsh := shr_of off a.divs.length (by omega)
    have h3 : ((a.divs.length : Nat) : Int) % 18446744073709551616 = a.divs.length := by omega
    have hm : min a.divs.length 64 = a.divs.length := by omega
    have HKL := Lib.hid hkl
    have HALE := Lib.hid hal
    clear hks hkl hksE hoA
    by_cases h0 : off >>> a.divs.length = 0
    · have d0 : ((off : Int) / 2 ^ a.divs.length != 0) = false := by rw [hsh, h0]; rfl
      have hse : Cou.soundErr a ks off = 0 := by unfold Cou.soundErr; rw [if_pos HALE.out, if_pos h0]
      have HSE := Lib.hid hse
      rw [hse] at HSO
      rw [hal] at HAL
      clear hsh h0 hse hal
      go_wp2_with (first
        | (go_at_call 23; (with_reducible refine ((HKY.out _ (B0 W4)).mono ?_)); rintro e w5 ⟨v5, rfl, hs5, hb5⟩; have HB5 := Lib.hid hb5; have HS5 : Hid (SlK (fun b => b < w5.heap.size) w5 v5 ks) := Lib.hid (Sl.mono hs5 fun _ h => h.2); obtain ⟨r0, r1, r2, _⟩ := HKE.out w5 hb5; clear hb5 hs5)
        | (go_at_call 27; (with_reducible refine ((HAL.out v5 _ HB5.out HS5.out).mono ?_)); rintro e w6 ⟨v6, rfl, hs6, hb6⟩; obtain ⟨M6, k6, rfl, hS6, hl6, hlt6, ht6⟩ := (hs6.keys HALE.out).slK (by omega); have HB6 := Lib.hid (Bt HB5.out hb6); have HS56 := Lib.hid (HS5.out.on1 hb6); have HS6 := Lib.hid hS6; have HT6 := Lib.hid (And.intro hl6 ht6); obtain ⟨s0, s1, s2, _⟩ := HKE.out w6 HB6.out; clear hb6 hs6 hS6 hl6 hlt6 ht6)
        | (go_at_call 24; (with_reducible refine ((HSO.out v5 _ HB6.out HS56.out).mono ?_)); rintro e w7 ⟨v7, rfl, hs7, hb7⟩; obtain ⟨M7, k7, rfl, hS7, hl7, hlt7, ht7⟩ := (hs7.2 HSE.out).slK (by omega); have HB7 := Lib.hid (Bt HB6.out hb7); have HS57 := Lib.hid (HS56.out.on1 hb7); have HS67 := Lib.hid (HS6.out.on1 hb7); have HS7 := Lib.hid hS7; have HT7 := Lib.hid (And.intro hl7 ht7); obtain ⟨t0, t1, t2, _⟩ := HKE.out w7 HB7.out; clear hb7 hs7 hS7 hl7 hlt7 ht7)
        | (go_at_call 29; (with_reducible refine ((HL7.out v5 _ HB7.out HS57.out).mono ?_)); rintro e w8 ⟨v8, M8, rfl, hs8, hl8, hlt8, ht8, hb8⟩; have HE8 := Lib.hid (Cou.sets_eq (P := fun d i => Cou.Hop a (Cou.allL 0 ks) ((d : Int), (i : Int))) HT6.out.1 hl8 HT6.out.2 fun d i hd => (ht8 d i hd).trans (HE7.out d i hd)); have HB8 := Lib.hid (Bt HB7.out hb8); have HS58 := Lib.hid (HS57.out.on1 hb8); have HS68 := Lib.hid (HS67.out.on1 hb8); have HS78 := Lib.hid (HS7.out.on1 hb8); have HS8 : Hid (SlK (fun b => b < w8.heap.size) w8 v8 M8) := Lib.hid (Sl.mono hs8 fun _ h => h.2); obtain ⟨y0, y1, y2, _⟩ := HKE.out w8 HB8.out; clear hb8 hs8 hl8 hlt8 ht8)
        | (go_at_call 28; (with_reducible refine ((sameKeys_any _ v8 M6 M8 _ (fun b => b < w8.heap.size) (fun b h => h) HS68.out HS8.out).mono ?_)); rintro e w9 ⟨rfl, hb9⟩; rw [decide_eq_true HE8.out]; have HB9 := Lib.hid (Bt HB8.out hb9); have HS59 := Lib.hid (HS58.out.on1 hb9); have HS79 := Lib.hid (HS78.out.on1 hb9); obtain ⟨z0, z1, z2, _⟩ := HKE.out w9 HB9.out; clear hb9)
        | (go_at_call 29; (with_reducible refine ((HLS.out v5 off hoff _ HB9.out HS59.out).mono ?_)); rintro e w10 ⟨v10, M10, rfl, hs10, hl10, hlt10, ht10, hb10⟩; have HE10 := Lib.hid (Cou.sets_eq (P := Cou.Snd a ks off) HT7.out.1 hl10 HT7.out.2 fun d i hd => (ht10 d i hd).trans (HEO.out d i hd)); have HB10 := Lib.hid (Bt HB9.out hb10); have HS710 := Lib.hid (HS79.out.on1 hb10); have HS10 : Hid (SlK (fun b => b < w10.heap.size) w10 v10 M10) := Lib.hid (Sl.mono hs10 fun _ h => h.2); clear hb10 hs10 hl10 hlt10 ht10)
        | (go_at_call 28; (with_reducible refine ((sameKeys_any _ v10 M7 M10 _ (fun b => b < w10.heap.size) (fun b h => h) HS710.out HS10.out).mono ?_)); rintro e w11 ⟨rfl, hb11⟩; rw [decide_eq_true HE10.out]; have HB11 := Lib.hid (Bt HB10.out hb11); clear hb11))
      go_ret
      exact ⟨rfl, Bt HB4.out HB11.out⟩
    · have d0 : ((off : Int) / 2 ^ a.divs.length != 0) = true := by
        rw [hsh]
        generalize off >>> a.divs.length = q at h0
        simp only [bne_iff_ne, ne_eq]
        omega
      have hse : Cou.soundErr a ks off = 3 := by unfold Cou.soundErr; rw [if_pos HALE.out, if_neg h0]
      have HSE : Hid (∀ B v w', SndIs a ks off B v w' → v = .slice none 0 0) := Lib.hid fun B v w' h => h.1 (by rw [hse]; decide)
      rw [hse] at HSO
      rw [hal] at HAL
      clear hsh h0 hse hal
      go_wp2_with (first
        | (go_at_call 23; (with_reducible refine ((HKY.out _ (B0 W4)).mono ?_)); rintro e w5 ⟨v5, rfl, hs5, hb5⟩; have HB5 := Lib.hid hb5; have HS5 : Hid (SlK (fun b => b < w5.heap.size) w5 v5 ks) := Lib.hid (Sl.mono hs5 fun _ h => h.2); obtain ⟨r0, r1, r2, _⟩ := HKE.out w5 hb5; clear hb5 hs5)
        | (go_at_call 27; (with_reducible refine ((HAL.out v5 _ HB5.out HS5.out).mono ?_)); rintro e w6 ⟨v6, rfl, hs6, hb6⟩; obtain ⟨M6, k6, rfl, hS6, hl6, hlt6, ht6⟩ := (hs6.keys HALE.out).slK (by omega); have HB6 := Lib.hid (Bt HB5.out hb6); have HS56 := Lib.hid (HS5.out.on1 hb6); have HS6 := Lib.hid hS6; have HT6 := Lib.hid (And.intro hl6 ht6); obtain ⟨s0, s1, s2, _⟩ := HKE.out w6 HB6.out; clear hb6 hs6 hS6 hl6 hlt6 ht6)
        | (go_at_call 24; (with_reducible refine ((HSO.out v5 _ HB6.out HS56.out).mono ?_)); rintro e w7 ⟨v7, rfl, hs7, hb7⟩; obtain rfl := HSE.out _ _ _ hs7; have HB7 := Lib.hid (Bt HB6.out hb7); have HS57 := Lib.hid (HS56.out.on1 hb7); have HS67 := Lib.hid (HS6.out.on1 hb7); obtain ⟨t0, t1, t2, _⟩ := HKE.out w7 HB7.out; clear hb7 hs7)
        | (go_at_call 29; (with_reducible refine ((HL7.out v5 _ HB7.out HS57.out).mono ?_)); rintro e w8 ⟨v8, M8, rfl, hs8, hl8, hlt8, ht8, hb8⟩; have HE8 := Lib.hid (Cou.sets_eq (P := fun d i => Cou.Hop a (Cou.allL 0 ks) ((d : Int), (i : Int))) HT6.out.1 hl8 HT6.out.2 fun d i hd => (ht8 d i hd).trans (HE7.out d i hd)); have HB8 := Lib.hid (Bt HB7.out hb8); have HS68 := Lib.hid (HS67.out.on1 hb8); have HS8 : Hid (SlK (fun b => b < w8.heap.size) w8 v8 M8) := Lib.hid (Sl.mono hs8 fun _ h => h.2); obtain ⟨y0, y1, y2, _⟩ := HKE.out w8 HB8.out; clear hb8 hs8 hl8 hlt8 ht8)
        | (go_at_call 28; (with_reducible refine ((sameKeys_any _ v8 M6 M8 _ (fun b => b < w8.heap.size) (fun b h => h) HS68.out HS8.out).mono ?_)); rintro e w9 ⟨rfl, hb9⟩; rw [decide_eq_true HE8.out]; have HB9 := Lib.hid (Bt HB8.out hb9); obtain ⟨z0, z1, z2, _⟩ := HKE.out w9 HB9.out; clear hb9))
      go_ret
      exact ⟨rfl, Bt HB4.out HB9.out⟩
end Go.Proofs.YtnkjhppjjklgfaaDoor
