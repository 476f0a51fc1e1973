/- Walks over coupler's statements: CouplerKeys. -/
import Derived.Test.YtnkjhppjjklgfaaDoorSe
namespace Go.Proofs.YtnkjhppjjklgfaaDoor
open Go Go.RowKit Go.Shelf
set_option maxRecDepth 100000 in
set_option maxHeartbeats 8000000 in
theorem law_keys (p : Cou.Pl) (hp : PlOk p) (vl : Value) (pv : Value) (ks : List Nat) (hks : ∀ x ∈ ks, x < 2 ^ 128) (w : World) (F : Nat → Prop) (hF : ∀ b, F b → b < w.heap.size) (hl : SlLk F w vl p.links) (hT : Tab64 w) (hg : 0 < w.heap.size) (hP : SlK F w pv ks) :
    Calls Tryd.prog 8 #[.agg (plCells p vl), pv] w fun e w' => e = .returned (.bool true) ∧ Below w.heap.size w w' := by
  have HTT := Lib.hid hT
  have HK := Lib.hid (fun W (hb : Below w.heap.size w W) => known_any W (hT.below hb) (Nat.lt_of_lt_of_le hg hb.size))
  have HM := Lib.hid (fun W (hb : Below w.heap.size w W) => make_any p hp vl W F (fun b h => Nat.lt_of_lt_of_le (hF b h) hb.size) (Sl.keep hl (Agree.below hb hF) fun _ _ h => h))
  obtain ⟨Al, al, hvl, _, hll, _⟩ := id hl
  have hok : Cou.Ok (Cou.makeF p) := Cou.right_ok (Cou.make_right hp.len)
  have hrt : Cou.rightF (Cou.makeF p) = 0 := Cou.make_right hp.len
  have hcl4 : (Cou.makeF p).cps.length ≤ 4 := makeF_cps
  have hdr := makeF_drawn hp
  have hsm := (makeF_divs (p := p)).1
  have hd3 := (makeF_divs (p := p)).2
  subst hvl
  unfold plCells at *
  obtain ⟨ll, hll9⟩ : ∃ ll, p.links.length = ll := ⟨_, rfl⟩
  rw [hll9] at hll HM ⊢
  generalize ((p.dv.getD 0 (0, 0)).1 : Int) = d0 at *
  generalize ((p.dv.getD 0 (0, 0)).2 : Int) = d1 at *
  generalize ((p.dv.getD 1 (0, 0)).1 : Int) = d2 at *
  generalize ((p.dv.getD 1 (0, 0)).2 : Int) = d3 at *
  generalize ((p.dv.getD 2 (0, 0)).1 : Int) = d4 at *
  generalize ((p.dv.getD 2 (0, 0)).2 : Int) = d5 at *
  generalize (p.more : Int) = mo at *
  generalize (p.drawn : Int) = dr at *
  generalize Cou.makeF p = a at *
  try dsimp only
  clear hl hll9 hp
  obtain ⟨Ap, cp, rfl, hpc, _, hpat⟩ := id hP.open
  obtain ⟨kl, hkl⟩ : ∃ kl, ks.length = kl := ⟨_, rfl⟩
  rw [hkl] at hP hpc ⊢
  have HKL := Lib.hid hkl
  clear hkl
  obtain ⟨w1, hw1⟩ : ∃ w1 : World, (w.alloc (.cells #[.int .u8 d0, .int .u8 d1, .int .u8 d2, .int .u8 d3, .int .u8 d4, .int .u8 d5, .int .u8 mo, .slice Al ll al, .int .u8 dr] 26)) = w1 := ⟨_, rfl⟩
  obtain ⟨pb, hpb⟩ : ∃ pb, w.heap.size = pb := ⟨_, rfl⟩
  have PB : Blk w1 pb 26 #[.int .u8 d0, .int .u8 d1, .int .u8 d2, .int .u8 d3, .int .u8 d4, .int .u8 d5, .int .u8 mo, .slice Al ll al, .int .u8 dr] := by
    rw [← hw1, ← hpb]; exact Blk.new w _ _
  have B1 : Below w.heap.size w w1 := by rw [← hw1]; exact Ba (B0 w) _
  have HPB := Lib.hid PB
  have HB1 := Lib.hid B1
  have HW1 := Lib.hid hw1
  have HPP := Lib.hid hpb
  clear PB  B1 hw1 hpb hT
  go_enter Tryd.func8, Tryd.ntmps8
  go_upto_region 1 with fail
  rw [HW1.out, HPP.out]
  by_cases h4 : 4 < ll
  · have d4' : decide ((4 : Int) < ll) = true := decide_eq_true (by omega)
    go_wp2_with (first
      | (go_at_call 11; (with_reducible refine ((HK.out _ HB2.out).mono ?_)); rintro e w3 ⟨rfl, hb3⟩; have HB3 := Lib.hid (Bt HB2.out hb3); clear hb3)
      | (go_at_call 11; (with_reducible refine ((HK.out _ HB1.out).mono ?_)); rintro e w2 ⟨rfl, hb2⟩; have HB2 := Lib.hid (Bt HB1.out hb2); have k7 := (HPB.out.below hb2 HPB.out.lt).cell 7; simp only [List.getElem?_toArray, List.getElem?_cons_zero, List.getElem?_cons_succ] at k7; clear hb2))
    go_ret
    exact ⟨rfl, HB3.out⟩
  · have d4' : decide ((4 : Int) < ll) = false := decide_eq_false (by omega)
    by_cases h5 : 5 < kl
    · have d5' : decide ((5 : Int) < kl) = true := decide_eq_true (by omega)
      go_wp2_with (first
        | (go_at_call 11; (with_reducible refine ((HK.out _ HB2.out).mono ?_)); rintro e w3 ⟨rfl, hb3⟩; have HB3 := Lib.hid (Bt HB2.out hb3); clear hb3)
        | (go_at_call 11; (with_reducible refine ((HK.out _ HB1.out).mono ?_)); rintro e w2 ⟨rfl, hb2⟩; have HB2 := Lib.hid (Bt HB1.out hb2); have k7 := (HPB.out.below hb2 HPB.out.lt).cell 7; simp only [List.getElem?_toArray, List.getElem?_cons_zero, List.getElem?_cons_succ] at k7; clear hb2))
      go_ret
      exact ⟨rfl, HB3.out⟩
    have d5' : decide ((5 : Int) < kl) = false := decide_eq_false (by omega)
    go_upto_region 3 with (go_at_call 11; (with_reducible refine ((HK.out _ HB1.out).mono ?_)); rintro e w2 ⟨rfl, hb2⟩; have HB2 := Lib.hid (Bt HB1.out hb2); have HP2 := Lib.hid (HPB.out.below hb2 HPB.out.lt);  have k7 := HP2.out.cell 7; simp only [List.getElem?_toArray, List.getElem?_cons_zero, List.getElem?_cons_succ] at k7; clear hb2)
    have k0 := HP2.out.cell 0
    have k1 := HP2.out.cell 1
    have k2 := HP2.out.cell 2
    have k3 := HP2.out.cell 3
    have k4 := HP2.out.cell 4
    have k5 := HP2.out.cell 5
    have k6 := HP2.out.cell 6
    have k8 := HP2.out.cell 8
    simp only [List.getElem?_toArray, List.getElem?_cons_zero, List.getElem?_cons_succ] at k0 k1 k2 k3 k4 k5 k6 k8
    go_upto_region 4 with (go_at_call 12; (with_reducible refine ((HM.out _ HB2.out).mono ?_)); rintro e w3 ⟨vd, vc, rfl, hA3, hb3⟩; obtain ⟨Ad, cd, rfl, _, _⟩ := id hA3.dv.open; obtain ⟨Ac, cc, rfl, _, _⟩ := id hA3.cp.open; have HA3 := Lib.hid hA3; have HB3 := Lib.hid (Bt HB2.out hb3);  clear hb3 hA3)
    obtain ⟨W4, hW4⟩ : ∃ W4 : World, w3.alloc (.cells #[.slice Ad a.divs.length cd, .slice Ac a.cps.length cc, .int .u64 a.drawn] 34) = W4 := ⟨_, rfl⟩
    obtain ⟨ab, hab⟩ : ∃ ab, w3.heap.size = ab := ⟨_, rfl⟩
    have AB : Blk W4 ab 34 #[.slice Ad a.divs.length cd, .slice Ac a.cps.length cc, .int .u64 a.drawn] := by rw [← hW4, ← hab]; exact Blk.new _ _ _
    have B4 : Below w3.heap.size w3 W4 := by rw [← hW4]; exact Ba (B0 w3) _
    have A4 := HA3.out.on B4
    rw [hW4, hab]
    have hB04 := Bt HB3.out B4
    have HKE := Lib.hid (fun W (hb : Below W4.heap.size W4 W) => (show W.cell? ⟨ab, 0, none⟩ = some (.slice Ad a.divs.length cd) ∧ W.cell? ⟨ab, 1, none⟩ = some (.slice Ac a.cps.length cc) ∧ W.cell? ⟨ab, 2, none⟩ = some (.int .u64 a.drawn) from ⟨(Bc hb AB.lt).trans (AB.cell 0), (Bc hb AB.lt).trans (AB.cell 1), (Bc hb AB.lt).trans (AB.cell 2)⟩))
    have HTW := Lib.hid (fun W (hb : Below W4.heap.size W4 W) => (show Tab64 W ∧ 0 < W.heap.size from ⟨HTT.out.below (Bt hB04 hb), Nat.lt_of_lt_of_le hg (Bt hB04 hb).size⟩))
    have HAW := Lib.hid (fun W (hb : Below W4.heap.size W4 W) => A4.on hb)
    have HB4 := Lib.hid hB04
    have HOK := Lib.hid hok
    have HRT := Lib.hid hrt
    have HSM := Lib.hid hsm
    have HAB := Lib.hid AB
    clear AB B4 A4  hW4 hab hB04 hok hrt hsm HA3 HB3  HP2  HPB  HK HM HTT k0 k1 k2 k3 k4 k5 k6 k7 k8
    obtain ⟨x0, x1, x2⟩ := HKE.out W4 (B0 W4)
    have hPW : ∀ W, Below W4.heap.size W4 W → SlK (fun b => b < W.heap.size) W (.slice Ap kl cp) ks := fun W hb => Sl.mono (SlK.keep hP (Agree.below (Bt HB4.out hb) hF)) fun b h => Nat.lt_of_lt_of_le (hF b h) (Bt HB4.out hb).size
    have HAL := Lib.hid (fun W (hb : Below W4.heap.size W4 W) => All_any a _ _ _ hdr ks hks W _ _ (HAW.out W hb) (fun _ h => h) (hPW W hb) (HTW.out W hb).1 (HTW.out W hb).2)
    have HSO := Lib.hid (fun W (hb : Below W4.heap.size W4 W) => (show Calls Tryd.prog 24 #[_, _, .int .u64 0] _ _ from Sounding_any a _ _ _ hdr ks hks 0 (by decide) W _ _ (HAW.out W hb) (fun _ h => h) (hPW W hb) (HTW.out W hb).1 (HTW.out W hb).2))
    have hso : Cou.soundErr a ks 0 = Cou.allErr a ks := by
      unfold Cou.soundErr
      rw [Nat.zero_shiftRight, if_pos rfl]
      split <;> simp_all
    rw [hso] at HSO
    have HSOE := Lib.hid hso
    have hne : ∀ B v w', Cou.allErr a ks ≠ 0 → AllIs a ks B v w' → v = .slice none 0 0 := fun B v w' h h2 => h2.1 h
    have hne2 : ∀ B v w', Cou.allErr a ks ≠ 0 → SndIs a ks 0 B v w' → v = .slice none 0 0 := fun B v w' h h2 => h2.1 (by rw [hso]; exact h)
    have hyes : ∀ B v w', Cou.allErr a ks = 0 → AllIs a ks B v w' → ∃ kb, v = .slice (some ⟨kb, 0, none⟩) kl kl := fun B v w' h h2 => by
      obtain ⟨kb, M, e, _⟩ := h2.2 h
      have := (Cou.allErr_ok h).2.1
      rw [HKL.out] at this
      rw [← this] at e
      exact ⟨kb, e⟩
    have hyes2 : ∀ B v w', Cou.allErr a ks = 0 → SndIs a ks 0 B v w' → ∃ kb, v = .slice (some ⟨kb, 0, none⟩) kl kl := fun B v w' h h2 => by
      obtain ⟨kb, M, e, _⟩ := h2.2 (by rw [hso]; exact h)
      have := (Cou.allErr_ok h).2.1
      rw [HKL.out] at this
      rw [← this] at e
      exact ⟨kb, e⟩
    have HNE := Lib.hid (And.intro hne hne2)
    have HYE := Lib.hid (And.intro hyes hyes2)
    have HPW := Lib.hid hPW
    clear hPW hso hne hne2 hyes hyes2 hP
    by_cases hlen : kl = a.divs.length
    · have hfl : ∀ i (hi : i < a.divs.length) W, Below W4.heap.size W4 W → ∃ ad, Ad = some ad ∧ Flds W (ad.add (i * 2)) [.int .i64 a.divs[i].1, .int .i64 a.divs[i].2] := fun i hi W hb => by
        obtain ⟨A, c, e, _, hat⟩ := (HAW.out W hb).dv.open
        injection e with e1 e2 e3
        subst e1
        obtain ⟨ad, h1, _, h3⟩ := hat i hi
        exact ⟨ad, h1, h3⟩
      have hflp : ∀ i (hi : i < ks.length) W, Below W4.heap.size W4 W → ∃ ad, Ap = some ad ∧ Flds W (ad.add (i * 2)) [.int .u64 ((Nt.lo ks[i] : Nat) : Int), .int .u64 ((Nt.hi ks[i] : Nat) : Int)] := fun i hi W hb => by
        obtain ⟨A, c, e, _, _, hat⟩ := (HPW.out W hb).open
        injection e with e1 e2 e3
        subst e1
        obtain ⟨ad, h1, _, h3⟩ := hat i hi
        exact ⟨ad, h1, h3⟩
      have HFL := Lib.hid hfl
      have HFP := Lib.hid hflp
      have HHS := Lib.hid (fun (x : Nat) (hx : x < 2 ^ 128) (k : Int) W => has_any x hx k W)
      obtain ⟨n, hn⟩ : ∃ n, a.divs.length = n := ⟨_, rfl⟩
      have HN := Lib.hid hn
      have hkn : kl = n := by omega
      subst hkn
      rw [hn] at HKE x0 hd3 HAL HSO ⊢
      clear hfl hflp hlen hn hpat
      go_wp2_with fail
      go_loopw [6, 7] (fun s6 s7 wr => ∃ i : Nat, i ≤ kl ∧ s7 = .int .i64 i ∧ ((s6 = .int .i64 0 ∧ Aside (∀ j, j < i → Cou.okOne (a.divs.getD j (0, -1)) (ks.getD j 0) = true)) ∨ (s6 = .int .i64 23 ∧ Aside (Cou.allErr a ks = 23))) ∧ Aside (Below W4.heap.size W4 wr)) (fun _ s7 _ => kl - (intOf s7).toNat)
      case atStart => exact ⟨0, by omega, rfl, .inl ⟨rfl, fun j hj => absurd hj (by omega)⟩, B0 W4⟩
      case round =>
        obtain ⟨i, hi, rfl, hS, hB⟩ := hrel
        replace hB : Below W4.heap.size W4 wr := hB
        obtain ⟨x0, x1, x2⟩ := HKE.out wr hB
        rcases hS with ⟨rfl, hS⟩ | ⟨rfl, hS⟩
        · replace hS : ∀ j, j < i → Cou.okOne (a.divs.getD j (0, -1)) (ks.getD j 0) = true := hS
          by_cases hlt : i < kl
          · have hltI : (i : Int) < kl := by omega
            have hi1 : i < a.divs.length := by rw [HN.out]; exact hlt
            have hi2 : i < ks.length := by rw [HKL.out]; exact hlt
            obtain ⟨ad, rfl, _⟩ := HFL.out i hi1 wr hB
            obtain ⟨ap, rfl, _⟩ := HFP.out i hi2 wr hB
            have hgc : a.divs.getD i (0, -1) = a.divs[i] := by rw [List.getD_eq_getElem?_getD, List.getElem?_eq_getElem hi1]; rfl
            have hgk : ks.getD i 0 = ks[i] := by rw [List.getD_eq_getElem?_getD, List.getElem?_eq_getElem hi2]; rfl
            have hxk := hks _ (List.getElem_mem hi2)
            have hf1 : ∀ W, Below W4.heap.size W4 W → Flds W (ad.add (i * 2)) [.int .i64 a.divs[i].1, .int .i64 a.divs[i].2] := fun W hb => by
              obtain ⟨ad', e, h⟩ := HFL.out i hi1 W hb
              injection e with e
              subst e
              exact h
            have hf2 : ∀ W, Below W4.heap.size W4 W → Flds W (ap.add (i * 2)) [.int .u64 ((Nt.lo ks[i] : Nat) : Int), .int .u64 ((Nt.hi ks[i] : Nat) : Int)] := fun W hb => by
              obtain ⟨ad', e, h⟩ := HFP.out i hi2 W hb
              injection e with e
              subst e
              exact h
            have hbad := fun h => Cou.allErr_bad HRT.out (by rw [HKL.out, HN.out]) hi2 (a := a) (ks := ks) h
            rw [hgc, hgk] at hbad
            have hgo : Cou.okOne a.divs[i] ks[i] = true → ∀ j, j < i + 1 → Cou.okOne (a.divs.getD j (0, -1)) (ks.getD j 0) = true := fun h j hj => by
              by_cases e : j = i
              · subst e
                rw [hgc, hgk]
                exact h
              · exact hS j (by omega)
            have hbA := fun (c : Int × Int) => Cou.badB_all (c := c) hxk
            have HF1 := Lib.hid hf1
            have HF2 := Lib.hid hf2
            have HBAD := Lib.hid hbad
            have HGO := Lib.hid hgo
            have HHK := Lib.hid (fun k W => HHS.out ks[i] hxk k W)
            have HBA := Lib.hid (hbA a.divs[i])
            have HBS := Lib.hid (Cou.badB_succ a.divs[i] ks[i])
            have HIB := Lib.hid (fun k => Cou.inB_iff (c := a.divs[i]) (k := k))
            have HB := Lib.hid hB
            clear hgc hgk hf1 hf2 hbad hgo hbA hS hB hxk
            generalize a.divs[i] = dv at *
            generalize ks[i] = xk at *
            obtain ⟨lo, hi'⟩ := dv
            dsimp only at HF1 HIB
            unfold ntV at HHK
            clear hi1 hi2
            go_wp2_with fail
            obtain ⟨wo, rfl⟩ : ∃ wo : World, wo = wr := ⟨_, rfl⟩
            go_loopw [6, 8] (fun s6 s8 wr => ∃ k : Nat, k ≤ 128 ∧ s8 = .int .i64 k ∧ s6 = .int .i64 (if Cou.badB (lo, hi') xk k = true then 23 else 0) ∧ Aside (Below W4.heap.size W4 wr)) (fun _ s8 _ => 128 - (intOf s8).toNat)
            case atStart => exact ⟨0, by omega, rfl, rfl, HB.out⟩
            case round =>
              clear HB x0 x1 x2
              obtain ⟨k, hk, rfl, rfl, hB⟩ := hrel
              replace hB : Below W4.heap.size W4 wr := hB
              obtain ⟨x0, x1, x2⟩ := HKE.out wr hB
              have q1 := HF1.out wr hB
              have f0 := q1.f0 rfl
              have f1 := q1.f1 rfl
              have q2 := HF2.out wr hB
              have p0 := q2.f0 rfl
              have p1 := q2.f1 rfl
              have hbk := HBS.out k
              have hib := HIB.out (k : Int)
              have hhk := fun W => HHK.out (k : Int) W
              have hhB : Nt.hasB xk (k : Int) = (decide (k ≤ 127) && xk.testBit k) := by
                unfold Nt.hasB Nt.noteB
                rw [Int.toNat_natCast, show decide ((0 : Int) ≤ (k : Int)) = true from decide_eq_true (by omega), Bool.true_and, show decide ((k : Int) ≤ 127) = decide (k ≤ 127) from decide_eq_decide.2 (by omega)]
              rw [hhB] at hhk
              have HBw := Lib.hid hB
              clear q1 q2 hB hhB
              obtain ⟨bb, hbb⟩ : ∃ bb, Cou.badB (lo, hi') xk k = bb := ⟨_, rfl⟩
              rw [hbb] at hbk ⊢
              have HBB := Lib.hid hbb
              clear hbb
              by_cases hk128 : k < 128
              · have d1 : decide ((k : Int) ≤ 127) = true := decide_eq_true (by omega)
                have d2 : decide (k ≤ 127) = true := decide_eq_true (by omega)
                rw [d2, Bool.true_and] at hhk
                have HHK2 := Lib.hid hhk
                cases hx : xk.testBit k with
                | false =>
                  rw [hx] at hhk hbk
                  have HBK : Hid (Cou.badB (lo, hi') xk (k + 1) = bb) := Lib.hid (by rw [hbk]; cases bb <;> rfl)
                  have HHK3 := Lib.hid hhk
                  clear hhk hbk hib hx HHK2
                  go_wp2_with (go_at_call 30; (with_reducible refine ((HHK3.out _).mono ?_)); rintro e w5 ⟨rfl, hb5⟩; have HB5 := Lib.hid (Bt HBw.out hb5); clear hb5)
                  go_roundw
                  case rel => exact ⟨k + 1, by omega, by go_num, by rw [HBK.out], HB5.out⟩
                  case measure => simp [intOf]; omega
                | true =>
                  rw [hx] at hhk hbk
                  have HHK3 := Lib.hid hhk
                  by_cases hlo : (k : Int) < lo
                  · have e1 : decide ((k : Int) < lo) = true := decide_eq_true hlo
                    have hin : Cou.inB (lo, hi') (k : Int) = false := by
                      cases h : Cou.inB (lo, hi') (k : Int) with
                      | false => rfl
                      | true => have := hib.1 h; omega
                    rw [hin] at hbk
                    have HBK : Hid (Cou.badB (lo, hi') xk (k + 1) = true) := Lib.hid (by rw [hbk]; cases bb <;> rfl)
                    clear hhk hbk hib hx hin HHK2
                    go_wp2_with (go_at_call 30; (with_reducible refine ((HHK3.out _).mono ?_)); rintro e w5 ⟨rfl, hb5⟩; have HB5 := Lib.hid (Bt HBw.out hb5); obtain ⟨y0, y1, y2⟩ := HKE.out w5 (Bt HBw.out hb5); have q3 := HF1.out w5 (Bt HBw.out hb5); have g0 := q3.f0 rfl; have g1 := q3.f1 rfl; clear hb5 q3)
                    go_roundw
                    case rel => exact ⟨k + 1, by omega, by go_num, by rw [HBK.out]; rfl, HB5.out⟩
                    case measure => simp [intOf]; omega
                  · have e1 : decide ((k : Int) < lo) = false := decide_eq_false hlo
                    by_cases hhi : hi' < (k : Int)
                    · have e2 : decide (hi' < (k : Int)) = true := decide_eq_true hhi
                      have hin : Cou.inB (lo, hi') (k : Int) = false := by
                        cases h : Cou.inB (lo, hi') (k : Int) with
                        | false => rfl
                        | true => have := hib.1 h; omega
                      rw [hin] at hbk
                      have HBK : Hid (Cou.badB (lo, hi') xk (k + 1) = true) := Lib.hid (by rw [hbk]; cases bb <;> rfl)
                      clear hhk hbk hib hx hin HHK2
                      go_wp2_with (go_at_call 30; (with_reducible refine ((HHK3.out _).mono ?_)); rintro e w5 ⟨rfl, hb5⟩; have HB5 := Lib.hid (Bt HBw.out hb5); obtain ⟨y0, y1, y2⟩ := HKE.out w5 (Bt HBw.out hb5); have q3 := HF1.out w5 (Bt HBw.out hb5); have g0 := q3.f0 rfl; have g1 := q3.f1 rfl; clear hb5 q3)
                      go_roundw
                      case rel => exact ⟨k + 1, by omega, by go_num, by rw [HBK.out]; rfl, HB5.out⟩
                      case measure => simp [intOf]; omega
                    · have e2 : decide (hi' < (k : Int)) = false := decide_eq_false hhi
                      have hin : Cou.inB (lo, hi') (k : Int) = true := hib.2 ⟨by omega, by omega⟩
                      rw [hin] at hbk
                      have HBK : Hid (Cou.badB (lo, hi') xk (k + 1) = bb) := Lib.hid (by rw [hbk]; cases bb <;> rfl)
                      clear hhk hbk hib hx hin HHK2
                      go_wp2_with (go_at_call 30; (with_reducible refine ((HHK3.out _).mono ?_)); rintro e w5 ⟨rfl, hb5⟩; have HB5 := Lib.hid (Bt HBw.out hb5); obtain ⟨y0, y1, y2⟩ := HKE.out w5 (Bt HBw.out hb5); have q3 := HF1.out w5 (Bt HBw.out hb5); have g0 := q3.f0 rfl; have g1 := q3.f1 rfl; clear hb5 q3)
                      go_roundw
                      case rel => exact ⟨k + 1, by omega, by go_num, by rw [HBK.out], HB5.out⟩
                      case measure => simp [intOf]; omega
              · obtain rfl : k = 128 := by omega
                have d1 : decide (((128 : Nat) : Int) ≤ 127) = false := by decide
                clear hhk hbk hib
                cases hok1 : Cou.okOne (lo, hi') xk with
                | true =>
                  obtain rfl : bb = false := by rw [← HBB.out, HBA.out, hok1]; rfl
                  have HG1 := Lib.hid (HGO.out hok1)
                  clear hok1
                  go_wp2_with fail
                  go_roundw
                  case rel => exact ⟨i + 1, by omega, by go_num, .inl ⟨rfl, HG1.out⟩, HBw.out⟩
                  case measure => simp [intOf]; omega
                | false =>
                  obtain rfl : bb = true := by rw [← HBB.out, HBA.out, hok1]; rfl
                  have HG1 := Lib.hid (HBAD.out hok1)
                  clear hok1
                  go_wp2_with fail
                  go_roundw
                  case rel => exact ⟨i + 1, by omega, by go_num, .inr ⟨rfl, HG1.out⟩, HBw.out⟩
                  case measure => simp [intOf]; omega
          · obtain rfl : i = kl := by omega
            have hz : Cou.allErr a ks = 0 := Cou.allErr_zero HRT.out (by rw [HKL.out, HN.out]) (fun j hj => hS j (by rw [HKL.out] at hj; exact hj))
            rw [hz] at HAL HSO
            have HZ := Lib.hid hz
            have HB := Lib.hid hB
            clear hz hS hB
            go_wp2_with (first
              | (go_at_call 27; (with_reducible refine ((HAL.out _ HB.out).mono ?_)); rintro e w6 ⟨v6, rfl, hs6, hb6⟩; obtain ⟨k6, rfl⟩ := HYE.out.1 _ _ _ HZ.out hs6; have HB6 := Lib.hid (Bt HB.out hb6); obtain ⟨s0, s1, s2⟩ := HKE.out w6 HB6.out; clear hb6 hs6)
              | (go_at_call 24; (with_reducible refine ((HSO.out _ HB6.out).mono ?_)); rintro e w7 ⟨v7, rfl, hs7, hb7⟩; obtain ⟨k7, rfl⟩ := HYE.out.2 _ _ _ HZ.out hs7; have HB7 := Lib.hid (Bt HB6.out hb7); clear hb7 hs7))
            go_ret
            exact ⟨rfl, Bt HB4.out HB7.out⟩
        · replace hS : Cou.allErr a ks = 23 := hS
          rw [hS] at HAL HSO
          have HNZ : Hid (Cou.allErr a ks ≠ 0) := Lib.hid (by rw [hS]; decide)
          have HB := Lib.hid hB
          clear hS hB
          by_cases hlt : i < kl
          · have hltI : (i : Int) < kl := by omega
            go_wp2_with (first
              | (go_at_call 27; (with_reducible refine ((HAL.out _ HB.out).mono ?_)); rintro e w6 ⟨v6, rfl, hs6, hb6⟩; obtain rfl := HNE.out.1 _ _ _ HNZ.out hs6; have HB6 := Lib.hid (Bt HB.out hb6); obtain ⟨s0, s1, s2⟩ := HKE.out w6 HB6.out; clear hb6 hs6)
              | (go_at_call 24; (with_reducible refine ((HSO.out _ HB6.out).mono ?_)); rintro e w7 ⟨v7, rfl, hs7, hb7⟩; obtain rfl := HNE.out.2 _ _ _ HNZ.out hs7; have HB7 := Lib.hid (Bt HB6.out hb7); clear hb7 hs7))
            go_ret
            exact ⟨rfl, Bt HB4.out HB7.out⟩
          · obtain rfl : i = kl := by omega
            go_wp2_with (first
              | (go_at_call 27; (with_reducible refine ((HAL.out _ HB.out).mono ?_)); rintro e w6 ⟨v6, rfl, hs6, hb6⟩; obtain rfl := HNE.out.1 _ _ _ HNZ.out hs6; have HB6 := Lib.hid (Bt HB.out hb6); obtain ⟨s0, s1, s2⟩ := HKE.out w6 HB6.out; clear hb6 hs6)
              | (go_at_call 24; (with_reducible refine ((HSO.out _ HB6.out).mono ?_)); rintro e w7 ⟨v7, rfl, hs7, hb7⟩; obtain rfl := HNE.out.2 _ _ _ HNZ.out hs7; have HB7 := Lib.hid (Bt HB6.out hb7); clear hb7 hs7))
            go_ret
            exact ⟨rfl, Bt HB4.out HB7.out⟩
    · have h5e : Cou.allErr a ks = 5 := Cou.allErr_size HRT.out (by rw [HKL.out]; exact hlen)
      rw [h5e] at HAL HSO
      have HNZ : Hid (Cou.allErr a ks ≠ 0) := Lib.hid (by rw [h5e]; decide)
      have hq : ((kl : Int) != a.divs.length) = true := by simp; omega
      clear h5e hlen hpat
      go_wp2_with fail
      go_loopw [6, 7] (fun s6 s7 wr => s6 = .int .i64 5 ∧ s7 = .int .i64 0 ∧ Aside (Below W4.heap.size W4 wr)) (fun _ _ _ => 0)
      case atStart => exact ⟨rfl, rfl, B0 W4⟩
      case round =>
        obtain ⟨rfl, rfl, hB⟩ := hrel
        replace hB : Below W4.heap.size W4 wr := hB
        have HB := Lib.hid hB
        clear x0 x1 x2
        obtain ⟨x0, x1, x2⟩ := HKE.out wr hB
        clear hB
        have hkz : kl = 0 ∨ 0 < kl := by omega
        rcases hkz with rfl | hpos
        · go_wp2_with (first
            | (go_at_call 27; (with_reducible refine ((HAL.out _ HB.out).mono ?_)); rintro e w6 ⟨v6, rfl, hs6, hb6⟩; obtain rfl := HNE.out.1 _ _ _ HNZ.out hs6; have HB6 := Lib.hid (Bt HB.out hb6); obtain ⟨s0, s1, s2⟩ := HKE.out w6 HB6.out; clear hb6 hs6)
            | (go_at_call 24; (with_reducible refine ((HSO.out _ HB6.out).mono ?_)); rintro e w7 ⟨v7, rfl, hs7, hb7⟩; obtain rfl := HNE.out.2 _ _ _ HNZ.out hs7; have HB7 := Lib.hid (Bt HB6.out hb7); clear hb7 hs7))
          go_ret
          exact ⟨rfl, Bt HB4.out HB7.out⟩
        · have hposI : (0 : Int) < kl := by omega
          go_wp2_with (first
            | (go_at_call 27; (with_reducible refine ((HAL.out _ HB.out).mono ?_)); rintro e w6 ⟨v6, rfl, hs6, hb6⟩; obtain rfl := HNE.out.1 _ _ _ HNZ.out hs6; have HB6 := Lib.hid (Bt HB.out hb6); obtain ⟨s0, s1, s2⟩ := HKE.out w6 HB6.out; clear hb6 hs6)
            | (go_at_call 24; (with_reducible refine ((HSO.out _ HB6.out).mono ?_)); rintro e w7 ⟨v7, rfl, hs7, hb7⟩; obtain rfl := HNE.out.2 _ _ _ HNZ.out hs7; have HB7 := Lib.hid (Bt HB6.out hb7); clear hb7 hs7))
          go_ret
          exact ⟨rfl, Bt HB4.out HB7.out⟩
end Go.Proofs.YtnkjhppjjklgfaaDoor
