/- Walks over coupler's statements: CouplerMatrices. -/
import Derived.Test.YtnkjhppjjklgfaaDoorVg
import Derived.Test.YtnkjhppjjklgfaaDoorVf
import Derived.Test.YtnkjhppjjklgfaaDoorVd
import Derived.Test.YtnkjhppjjklgfaaDoorSe
import Derived.Test.YtnkjhppjjklgfaaDoorKC
namespace Go.Proofs.YtnkjhppjjklgfaaDoor
open Go Go.RowKit Go.Shelf
set_option maxRecDepth 100000 in
set_option maxHeartbeats 8000000 in
theorem law_matrices (p : Cou.Pl) (hp : PlOk p) (vl : Value)  (w : World) (F : Nat → Prop) (hF : ∀ b, F b → b < w.heap.size) (hl : SlLk F w vl p.links) (hT : Tab64 w) (hg : 0 < w.heap.size) :
    Calls Tryd.prog 5 #[.agg (plCells p vl)] w fun e w' => e = .returned (.bool true) ∧ Below w.heap.size w w' := by
  have HTT := Lib.hid hT
  have HK := Lib.hid (fun W (hb : Below w.heap.size w W) => known_any W (hT.below hb) (Nat.lt_of_lt_of_le hg hb.size))
  have HM := Lib.hid (fun W (hb : Below w.heap.size w W) => make_any p hp vl W F (fun b h => Nat.lt_of_lt_of_le (hF b h) hb.size) (Sl.keep hl (Agree.below hb hF) fun _ _ h => h))
  obtain ⟨Al, al, hvl, _, hll, _⟩ := id hl
  have hok : Cou.Ok (Cou.makeF p) := Cou.right_ok (Cou.make_right hp.len)
  have hrt : Cou.rightF (Cou.makeF p) = 0 := Cou.make_right hp.len
  have hcl4 : (Cou.makeF p).cps.length ≤ 4 := makeF_cps
  have hdr := makeF_drawn hp
  have hsm := (makeF_divs (p := p)).1
  have hd3 := (makeF_divs (p := p)).2
  subst hvl
  unfold plCells at *
  obtain ⟨ll, hll9⟩ : ∃ ll, p.links.length = ll := ⟨_, rfl⟩
  rw [hll9] at hll HM ⊢
  generalize ((p.dv.getD 0 (0, 0)).1 : Int) = d0 at *
  generalize ((p.dv.getD 0 (0, 0)).2 : Int) = d1 at *
  generalize ((p.dv.getD 1 (0, 0)).1 : Int) = d2 at *
  generalize ((p.dv.getD 1 (0, 0)).2 : Int) = d3 at *
  generalize ((p.dv.getD 2 (0, 0)).1 : Int) = d4 at *
  generalize ((p.dv.getD 2 (0, 0)).2 : Int) = d5 at *
  generalize (p.more : Int) = mo at *
  generalize (p.drawn : Int) = dr at *
  generalize Cou.makeF p = a at *
  try dsimp only
  clear hl hll9 hp
  obtain ⟨w1, hw1⟩ : ∃ w1 : World, (w.alloc (.cells #[.int .u8 d0, .int .u8 d1, .int .u8 d2, .int .u8 d3, .int .u8 d4, .int .u8 d5, .int .u8 mo, .slice Al ll al, .int .u8 dr] 26)) = w1 := ⟨_, rfl⟩
  obtain ⟨pb, hpb⟩ : ∃ pb, w.heap.size = pb := ⟨_, rfl⟩
  have PB : Blk w1 pb 26 #[.int .u8 d0, .int .u8 d1, .int .u8 d2, .int .u8 d3, .int .u8 d4, .int .u8 d5, .int .u8 mo, .slice Al ll al, .int .u8 dr] := by
    rw [← hw1, ← hpb]; exact Blk.new w _ _
  have B1 : Below w.heap.size w w1 := by rw [← hw1]; exact Ba (B0 w) _
  have HPB := Lib.hid PB
  have HB1 := Lib.hid B1
  have HW1 := Lib.hid hw1
  have HPP := Lib.hid hpb
  clear PB  B1 hw1 hpb hT
  go_enter Tryd.func5, Tryd.ntmps5
  go_upto_region 1 with fail
  rw [HW1.out, HPP.out]
  by_cases h4 : 4 < ll
  · have d4' : decide ((4 : Int) < ll) = true := decide_eq_true (by omega)
    go_wp2_with (first
      | (go_at_call 11; (with_reducible refine ((HK.out _ HB2.out).mono ?_)); rintro e w3 ⟨rfl, hb3⟩; have HB3 := Lib.hid (Bt HB2.out hb3); clear hb3)
      | (go_at_call 11; (with_reducible refine ((HK.out _ HB1.out).mono ?_)); rintro e w2 ⟨rfl, hb2⟩; have HB2 := Lib.hid (Bt HB1.out hb2); have k7 := (HPB.out.below hb2 HPB.out.lt).cell 7; simp only [List.getElem?_toArray, List.getElem?_cons_zero, List.getElem?_cons_succ] at k7; clear hb2))
    go_ret
    exact ⟨rfl, HB3.out⟩
  · have d4' : decide ((4 : Int) < ll) = false := decide_eq_false (by omega)
    go_upto_region 3 with (go_at_call 11; (with_reducible refine ((HK.out _ HB1.out).mono ?_)); rintro e w2 ⟨rfl, hb2⟩; have HB2 := Lib.hid (Bt HB1.out hb2); have HP2 := Lib.hid (HPB.out.below hb2 HPB.out.lt);  have k7 := HP2.out.cell 7; simp only [List.getElem?_toArray, List.getElem?_cons_zero, List.getElem?_cons_succ] at k7; clear hb2)
    have k0 := HP2.out.cell 0
    have k1 := HP2.out.cell 1
    have k2 := HP2.out.cell 2
    have k3 := HP2.out.cell 3
    have k4 := HP2.out.cell 4
    have k5 := HP2.out.cell 5
    have k6 := HP2.out.cell 6
    have k8 := HP2.out.cell 8
    simp only [List.getElem?_toArray, List.getElem?_cons_zero, List.getElem?_cons_succ] at k0 k1 k2 k3 k4 k5 k6 k8
    go_upto_region 4 with (go_at_call 12; (with_reducible refine ((HM.out _ HB2.out).mono ?_)); rintro e w3 ⟨vd, vc, rfl, hA3, hb3⟩; obtain ⟨Ad, cd, rfl, _, _⟩ := id hA3.dv.open; obtain ⟨Ac, cc, rfl, _, _⟩ := id hA3.cp.open; have HA3 := Lib.hid hA3; have HB3 := Lib.hid (Bt HB2.out hb3);  clear hb3 hA3)
    obtain ⟨W4, hW4⟩ : ∃ W4 : World, w3.alloc (.cells #[.slice Ad a.divs.length cd, .slice Ac a.cps.length cc, .int .u64 a.drawn] 34) = W4 := ⟨_, rfl⟩
    obtain ⟨ab, hab⟩ : ∃ ab, w3.heap.size = ab := ⟨_, rfl⟩
    have AB : Blk W4 ab 34 #[.slice Ad a.divs.length cd, .slice Ac a.cps.length cc, .int .u64 a.drawn] := by rw [← hW4, ← hab]; exact Blk.new _ _ _
    have B4 : Below w3.heap.size w3 W4 := by rw [← hW4]; exact Ba (B0 w3) _
    have A4 := HA3.out.on B4
    rw [hW4, hab]
    have hB04 := Bt HB3.out B4
    have HKE := Lib.hid (fun W (hb : Below W4.heap.size W4 W) => (show W.cell? ⟨ab, 0, none⟩ = some (.slice Ad a.divs.length cd) ∧ W.cell? ⟨ab, 1, none⟩ = some (.slice Ac a.cps.length cc) ∧ W.cell? ⟨ab, 2, none⟩ = some (.int .u64 a.drawn) from ⟨(Bc hb AB.lt).trans (AB.cell 0), (Bc hb AB.lt).trans (AB.cell 1), (Bc hb AB.lt).trans (AB.cell 2)⟩))
    have HTW := Lib.hid (fun W (hb : Below W4.heap.size W4 W) => (show Tab64 W ∧ 0 < W.heap.size from ⟨HTT.out.below (Bt hB04 hb), Nat.lt_of_lt_of_le hg (Bt hB04 hb).size⟩))
    have HAW := Lib.hid (fun W (hb : Below W4.heap.size W4 W) => A4.on hb)
    have HB4 := Lib.hid hB04
    have HOK := Lib.hid hok
    have HRT := Lib.hid hrt
    have HSM := Lib.hid hsm
    have HAB := Lib.hid AB
    clear AB B4 A4  hW4 hab hB04 hok hrt hsm HA3 HB3  HP2  HPB  HK HM HTT k0 k1 k2 k3 k4 k5 k6 k7 k8
    obtain ⟨x0, x1, x2⟩ := HKE.out W4 (B0 W4)
    have HMA := Lib.hid (fun W (hb : Below W4.heap.size W4 W) => Matrix_ok a HRT.out _ _ hdr W _ (HAW.out W hb) (HTW.out W hb).1 (HTW.out W hb).2)
    have HBA := Lib.hid (fun W (hb : Below W4.heap.size W4 W) => Back_ok a HRT.out _ _ hdr W _ (HAW.out W hb) (HTW.out W hb).1 (HTW.out W hb).2)
    have HID := Lib.hid (fun W (hb : Below W4.heap.size W4 W) => Idle_ok a HRT.out _ _ hdr W _ (HAW.out W hb) (HTW.out W hb).1 (HTW.out W hb).2)
    have HLR := Lib.hid (fun (c : Cou.Ct) (hc : -1000 ≤ c.2 ∧ c.2 ≤ 1000) W (hb : Below W4.heap.size W4 W) => lreach_any a HOK.out _ _ c hc W _ (HAW.out W hb))
    have hDW : ∀ i (hi : i < a.divs.length), ∃ ad, Ad = some ad ∧ ∀ W, Below W4.heap.size W4 W → W.cell? (ad.add (i * 2)) = some (.int .i64 a.divs[i].1) ∧ W.cell? ⟨(ad.add (i * 2)).block, (ad.add (i * 2)).off + 1, none⟩ = some (.int .i64 a.divs[i].2) := fun i hi => by
      obtain ⟨A, c, e, _, hat⟩ := (HAW.out W4 (B0 _)).dv.open
      injection e with e1 e2 e3
      subst e1
      obtain ⟨ad, h1, h2, h3⟩ := hat i hi
      have l1 : (ad.add (i * 2)).block < W4.heap.size := by rw [block_of_add]; exact (HAW.out W4 (B0 _)).inW _ h2
      exact ⟨ad, h1, fun W hb => ⟨(h3.below hb l1).f0 rfl, (h3.below hb l1).f1 rfl⟩⟩
    have HDW := Lib.hid hDW
    have hIDL : ∀ W vl w' w'' (_ : Below w'.heap.size w' w'') (_ : Below W4.heap.size W4 w'') (_ : SlI (fun b => W ≤ b ∧ b < w'.heap.size) w' vl (Cou.idL a)), Calls Tryd.prog 22 #[.agg #[.slice Ad a.divs.length cd, .slice Ac a.cps.length cc, .int .u64 a.drawn], vl] w'' fun e w3 => e = .returned (.bool true) ∧ Below w''.heap.size w'' w3 := fun W vl w' w'' h1 h2 h3 =>
      lidle_any a HOK.out _ _ vl w'' _ (fun b => b < w'.heap.size) (HAW.out w'' h2) (fun b h => Nat.lt_of_lt_of_le h h1.size) (SlI.keep (Sl.mono h3 fun b h => h.2) (Agree.below h1 fun _ h => h))
    have HIDL := Lib.hid hIDL
    have hnd8 : a.divs.length ≤ 8 := HOK.out.nd
    have hndI : (a.divs.length : Int) ≤ 8 := by omega
    clear hDW hIDL HAW HTW
    go_upto_region 10 with (first
      | (go_at_call 19; (with_reducible refine ((HMA.out _ (B0 W4)).mono ?_)); rintro e w5 ⟨vm, M, rfl, hsm, hmo, hb5⟩; obtain ⟨Am, cm, rfl, hmr⟩ := SlBB.rows hsm hmo.1 hmo.2.1; have HMO := Lib.hid hmo; have HMR := Lib.hid hmr; have HB5 := Lib.hid hb5; obtain ⟨z0, z1, z2⟩ := HKE.out w5 hb5; clear hsm hmo hmr hb5 x0 x1 x2)
      | (go_at_call 20; (with_reducible refine ((HBA.out _ HB5.out).mono ?_)); rintro e w6 ⟨vb, rfl, hsb, hb6⟩; have HSB := Lib.hid hsb; have HB56 := Lib.hid hb6; have HB6 := Lib.hid (Bt HB5.out hb6); obtain ⟨x0, x1, x2⟩ := HKE.out w6 HB6.out; clear hsb hb6 z0 z1 z2)
      | (go_at_call 21; (with_reducible refine ((HID.out _ HB6.out).mono ?_)); rintro e w7 ⟨vl, rfl, hsl, hb7⟩; have HSL := Lib.hid hsl; have HB67 := Lib.hid hb7; have HB7 := Lib.hid (Bt HB6.out hb7); obtain ⟨z0, z1, z2⟩ := HKE.out w7 HB7.out; clear hsl hb7 x0 x1 x2))
    have hmk := hmkBool a.divs.length (by omega)
    go_wp2_with fail
    clear z0 z1 z2
    go_loopg [11, 12] a.divs.length (fun gg s11 s12 wr => ∃ i : Nat, i ≤ a.divs.length ∧ a.divs.length - i ≤ gg ∧ s12 = .int .i64 i ∧ Aside (OwnL w7.heap.size 28 2 CtC wr s11 ((Cou.preF a i).filter (Cou.comesB a))) ∧ Aside (Below w7.heap.size w7 wr))
    case atStart => exact ⟨0, by omega, by omega, rfl, (show OwnL _ _ _ _ _ _ _ from OwnL.nil), B0 w7⟩
    case round =>
      obtain ⟨i, hi, hg, rfl, hO, hB⟩ := hrel
      replace hB : Below w7.heap.size w7 wr := hB
      replace hO : OwnL w7.heap.size 28 2 CtC wr u11 ((Cou.preF a i).filter (Cou.comesB a)) := hO
      have hb5 : Below w5.heap.size w5 wr := Bt HB56.out (Bt HB67.out hB)
      have hb4 := Bt HB7.out hB
      obtain ⟨x0, x1, x2⟩ := HKE.out wr hb4
      by_cases hlt : i < a.divs.length
      · have dlt : decide ((i : Int) < a.divs.length) = true := decide_eq_true (by omega)
        have hiI : (i : Int) < a.divs.length := by omega
        obtain ⟨adm, R, cr, rfl, hrow, hcol⟩ := HMR.out i hlt
        obtain ⟨add, rfl, hdiv⟩ := HDW.out i hlt
        have r0 := hrow wr hb5
        have hlh := HOK.out.div a.divs[i] (List.getElem_mem hlt)
        have hps := Cou.preF_succ hlt
        have hmr := fun (rb : List Bool) (m : Nat) h1 (h2 : Cou.RowS a i a.divs[i].1 m rb) => matrow HMO.out hlt (rb := rb) (m := m) h1 h2
        generalize a.divs[i] = dv at *
        obtain ⟨lo, hi2⟩ := dv
        dsimp only at hdiv hlh hps hmr
        obtain ⟨e0, e1⟩ := hdiv wr hb4
        obtain ⟨nk, hnk⟩ : ∃ nk, (hi2 + 1 - lo).toNat = nk := ⟨_, rfl⟩
        rw [hnk] at hps
        have hnk2 : lo + (nk : Int) = hi2 + 1 := by omega
        have hnk3 : nk ≤ 128 := by omega
        have HPS := Lib.hid hps
        have HMRR := Lib.hid hmr
        have HROW := Lib.hid hrow
        have HCOL := Lib.hid hcol
        have HDIV := Lib.hid hdiv
        have HO := Lib.hid hO
        have HB := Lib.hid hB
        clear hps hmr hrow hcol hdiv hO hB hnk hb4 hb5
        go_upto_region 17 with fail
        obtain ⟨w8, hw8⟩ : ∃ w8 : World, wr.alloc (.cells (Array.replicate a.divs.length (.bool false)) 4) = w8 := ⟨_, rfl⟩
        obtain ⟨g, hg9⟩ : ∃ g, wr.heap.size = g := ⟨_, rfl⟩
        have G8 : Blk w8 g 4 ((List.replicate a.divs.length false).map Value.bool).toArray := by rw [← hw8, ← hg9, List.map_replicate, List.toArray_replicate]; exact Blk.new _ _ _
        have hb8 : Below wr.heap.size wr w8 := by rw [← hw8]; exact Ba (B0 wr) _
        have hO8 : OwnL w7.heap.size 28 2 CtC w8 u11 ((Cou.preF a i ++ Cou.keysF i lo 0).filter (Cou.comesB a)) := by
          rw [← hw8, show Cou.keysF i lo 0 = [] from rfl, List.append_nil]; exact HO.out.alloc _ fun _ _ h => h
        have hgb : w7.heap.size ≤ g := by rw [← hg9]; exact HB.out.size
        have HG8 := Lib.hid G8
        have HO8 := Lib.hid hO8
        have HB8 := Lib.hid (Bt HB.out hb8)
        clear x0 x1 x2 r0 e0 e1
        rw [hw8, hg9]
        obtain ⟨x0, x1, x2⟩ := HKE.out w8 (Bt HB7.out HB8.out)
        obtain ⟨e0, e1⟩ := HDIV.out w8 (Bt HB7.out HB8.out)
        clear G8 hO8 hb8 hw8 hg9 HO HB
        go_wp2_with fail
        clear x0 x1 x2 e0 e1
        go_loopg [11, 14] nk (fun gg s11 s14 wr => ∃ (m : Nat) (rb : List Bool), m ≤ nk ∧ nk - m ≤ gg ∧ s14 = .int .i64 (lo + m) ∧ Aside (rb.length = a.divs.length) ∧ Aside (Cou.RowS a i lo m rb) ∧ Aside (Blk wr g 4 (rb.map Value.bool).toArray) ∧ Aside (OwnL w7.heap.size 28 2 CtC wr s11 ((Cou.preF a i ++ Cou.keysF i lo m).filter (Cou.comesB a))) ∧ Aside (Below w7.heap.size w7 wr))
        case atStart => exact ⟨0, _, by omega, by omega, by simp, (show Aside _ from by show _ = _; simp), Cou.RowS.start, HG8.out, HO8.out, HB8.out⟩
        case round =>
          clear HG8 HO8 HB8
          obtain ⟨m, rb, hm, hg2, rfl, hrl, hRS, hG, hO, hB⟩ := hrel
          replace hB : Below w7.heap.size w7 wr := hB
          replace hG : Blk wr g 4 (rb.map Value.bool).toArray := hG
          have hb4 := Bt HB7.out hB
          obtain ⟨x0, x1, x2⟩ := HKE.out wr hb4
          obtain ⟨e0, e1⟩ := HDIV.out wr hb4
          have HRL := Lib.hid hrl
          have HRS := Lib.hid hRS
          have HG := Lib.hid hG
          have HO := Lib.hid hO
          have HB := Lib.hid hB
          clear hrl hRS hG hO hB hb4
          by_cases hml : m < nk
          · have dk : decide (lo + (m : Int) ≤ hi2) = true := decide_eq_true (by omega)
            go_upto_region 21 with fail
            obtain ⟨w9, hw9⟩ : ∃ w9 : World, wr.alloc (.cells #[.int .i64 (i : Int), .int .i64 (lo + (m : Int))] 28) = w9 := ⟨_, rfl⟩
            obtain ⟨kb, hkb⟩ : ∃ kb, wr.heap.size = kb := ⟨_, rfl⟩
            have K9 : Blk w9 kb 28 #[.int .i64 (i : Int), .int .i64 (lo + (m : Int))] := by rw [← hw9, ← hkb]; exact Blk.new _ _ _
            have hb9 : Below wr.heap.size wr w9 := by rw [← hw9]; exact Ba (B0 wr) _
            have hs9 : w9.heap.size = kb + 1 := by rw [← hw9, ← hkb]; simp
            have hO9 := HO.out.alloc (.cells #[.int .i64 (i : Int), .int .i64 (lo + (m : Int))] 28) (R' := CtC) fun _ _ h => h
            rw [hw9] at hO9
            have hG9 := HG.out.below hb9 HG.out.lt
            have hol : ∀ b, u11.ownBlock = some b → b < kb := fun b e => by rw [← hkb]; exact (HO.out.lt b e).2
            have hgk : g < kb := by rw [← hkb]; exact HG.out.lt
            have hB9 := Bt HB.out hb9
            have hR := HLR.out ((i : Int), lo + (m : Int)) (by dsimp only; omega) w9 (Bt HB7.out hB9)
            dsimp only at hR
            clear x0 x1 x2 e0 e1
            obtain ⟨x0, x1, x2⟩ := HKE.out w9 (Bt HB7.out hB9)
            have k0 := K9.cell 0
            have k1 := K9.cell 1
            simp only [List.getElem?_toArray, List.getElem?_cons_zero, List.getElem?_cons_succ] at k0 k1
            rw [hw9, hkb]
            have HR := Lib.hid hR
            have HK9 := Lib.hid K9
            have HO9 := Lib.hid hO9
            have HG9 := Lib.hid hG9
            have HOLB := Lib.hid hol
            have HB9 := Lib.hid hB9
            clear hR K9 hO9 hG9 hol hB9 hb9 hw9 hkb HO HG HB
            go_upto_region 22 with (go_at_call 16; (with_reducible refine (HR.out.mono ?_)); rintro e w10 ⟨vr, r, rfl, hsr, hsrt, hmem, hb10⟩; obtain ⟨Ar, cr2, rfl, _, hrlen, _⟩ := id hsr.open; have HSR := Lib.hid hsr; have HSRT := Lib.hid hsrt; have HMEM := Lib.hid hmem; have HB910 := Lib.hid hb10; clear hsr hsrt hmem hb10)
            obtain ⟨s10, hs10⟩ : ∃ s10, w10.heap.size = s10 := ⟨_, rfl⟩
            have hsz := HB910.out.size
            rw [hs9, hs10] at hsz
            have hsr : SlCt (fun b => kb + 1 ≤ b ∧ b < s10) w10 (.slice Ar r.length cr2) r := by rw [← hs9, ← hs10]; exact HSR.out
            have HSR2 := Lib.hid hsr
            have HS10 := Lib.hid hs10
            have hG10 := HG9.out.below HB910.out HG9.out.lt
            have hK10 := HK9.out.below HB910.out HK9.out.lt
            have hO10 : OwnL w7.heap.size 28 2 CtC w10 u11 ((Cou.preF a i ++ Cou.keysF i lo m).filter (Cou.comesB a)) := HO9.out.keep rfl (fun _ hx => hx.kept (row := none) (only_of_below HB910.out _) (by cases hv : u11.ownBlock <;> simp)) fun _ _ h => h
            have HG10 := Lib.hid hG10
            have HK10 := Lib.hid hK10
            have HO10 := Lib.hid hO10
            have HB10 := Lib.hid (Bt HB9.out HB910.out)
            have hIN : ∀ j (hj : j < r.length), Cou.InA a r[j] := fun j hj => Cou.Hop.in_ HOK.out ((HMEM.out _).1 (List.getElem_mem hj))
            have HIN := Lib.hid hIN
            have HRLN := Lib.hid (Cou.cts_short HOK.out HSRT.out.nodup fun x hx => Cou.Hop.in_ HOK.out ((HMEM.out x).1 hx))
            clear hsr hs10 hG10 hK10 hO10 hIN HG9 HK9 HO9 HSR HR x0 x1 x2 k0 k1
            go_wp2_with fail
            go_loopg [11, 17] r.length (fun gg s11 s17 wr => ∃ (j : Nat) (rb2 : List Bool), j ≤ r.length ∧ r.length - j ≤ gg ∧ s17 = .int .i64 j ∧ Aside (rb2.length = a.divs.length) ∧ Aside (Cou.RowT rb r j rb2) ∧ Aside (Blk wr g 4 (rb2.map Value.bool).toArray) ∧ Aside (Blk wr kb 28 #[.int .i64 (i : Int), .int .i64 (lo + (m : Int))]) ∧ Aside (OwnL w7.heap.size 28 2 CtC wr s11 ((Cou.preF a i ++ Cou.keysF i lo m).filter (Cou.comesB a) ++ (r.take j).filter fun x => decide (x = ((i : Int), lo + (m : Int))))) ∧ Aside (SlCt (fun b => kb + 1 ≤ b ∧ b < s10) wr (.slice Ar r.length cr2) r) ∧ Aside (∀ b, s11.ownBlock = some b → b < kb ∨ s10 ≤ b) ∧ Aside (s10 ≤ wr.heap.size) ∧ Aside (Below w7.heap.size w7 wr))
            case atStart => exact ⟨0, rb, by omega, by omega, rfl, HRL.out, Cou.RowT.start, HG10.out, HK10.out, (show OwnL _ _ _ _ _ _ _ from by rw [show (List.take 0 r).filter _ = [] from rfl, List.append_nil]; exact HO10.out), HSR2.out, (fun b e => .inl (HOLB.out b e)), (show s10 ≤ _ from Nat.le_of_eq HS10.out.symm), HB10.out⟩
            case round =>
              clear HG10 HK10 HO10 HSR2 HB10
              obtain ⟨j, rb2, hj, hg3, rfl, hrl2, hRT, hG, hK, hO, hS, hOB, hSZ, hB⟩ := hrel
              replace hB : Below w7.heap.size w7 wr := hB
              replace hG : Blk wr g 4 (rb2.map Value.bool).toArray := hG
              replace hK : Blk wr kb 28 #[.int .i64 (i : Int), .int .i64 (lo + (m : Int))] := hK
              replace hS : SlCt (fun b => kb + 1 ≤ b ∧ b < s10) wr (.slice Ar r.length cr2) r := hS
              replace hSZ : s10 ≤ wr.heap.size := hSZ
              replace hrl2 : rb2.length = a.divs.length := hrl2
              by_cases hjl : j < r.length
              · have dj : decide ((j : Int) < r.length) = true := decide_eq_true (by omega)
                have hjI : (j : Int) < r.length := by omega
                obtain ⟨A', c', hvv, _, _, hat⟩ := hS.open
                injection hvv with h1 h2 h3
                subst h1
                obtain ⟨adr, rfl, hfb, hfl⟩ := hat j hjl
                have hin := HIN.out j hjl
                have htake : (r.take (j + 1)).filter (fun x => decide (x = ((i : Int), lo + (m : Int)))) = (r.take j).filter (fun x => decide (x = ((i : Int), lo + (m : Int)))) ++ (if r[j] = ((i : Int), lo + (m : Int)) then [((i : Int), lo + (m : Int))] else []) := by
                  rw [List.take_add_one, List.getElem?_eq_getElem hjl, List.filter_append]
                  by_cases e : r[j] = ((i : Int), lo + (m : Int))
                  · rw [if_pos e, e]; simp
                  · rw [if_neg e]; simp [e]
                obtain ⟨tj, htj⟩ : ∃ tj : Nat, r[j].1 = tj := ⟨r[j].1.toNat, by have := hin.1; omega⟩
                have hRT2 := Cou.RowT.step hRT hjl htj (by have := hin.2.1; omega)
                have htl : tj < a.divs.length := by have := hin.2.1; omega
                have htI : (tj : Int) < a.divs.length := by omega
                have hnr : (adr.add (j * 2)).block ≠ g := by rw [block_of_add]; have := hfb.1; omega
                obtain ⟨w11, hw11⟩ : ∃ w11 : World, wr.setCell ⟨g, tj, none⟩ (.bool true) = w11 := ⟨_, rfl⟩
                have hG11 : Blk w11 g 4 ((rb2.set tj true).map Value.bool).toArray := by
                  rw [← hw11]
                  have := hG.set_ tj (.bool true)
                  simpa [List.map_set] using this
                have hK11 : Blk w11 kb 28 #[.int .i64 (i : Int), .int .i64 (lo + (m : Int))] := by rw [← hw11]; exact hK.far (p := ⟨g, tj, none⟩) (by show kb ≠ g; omega) _
                have hS11 : SlCt (fun b => kb + 1 ≤ b ∧ b < s10) w11 (.slice (some adr) r.length cr2) r := by rw [← hw11]; exact Sl.keep hS (Agree.setCell _ fun b h => by show b ≠ g; omega) fun _ _ h => h
                have hO11 : OwnL w7.heap.size 28 2 CtC w11 u11 ((Cou.preF a i ++ Cou.keysF i lo m).filter (Cou.comesB a) ++ (r.take j).filter fun x => decide (x = ((i : Int), lo + (m : Int)))) := by
                  rw [← hw11]
                  exact hO.keep rfl (fun _ hx => hx.kept (grownBy_set wr ⟨g, tj, none⟩ _) (by
                    cases hv : u11.ownBlock with
                    | none => exact .inl rfl
                    | some q => exact .inr fun e => own_ne hx hG (by decide) (hv.trans e))) fun _ _ h => h
                have hB11 : Below w7.heap.size w7 w11 := by rw [← hw11]; exact Bs hB _ hgb
                have hs11 : w11.heap.size = wr.heap.size := by rw [← hw11]; simp
                have f0 := hfl.f0 rfl
                rw [htj] at f0
                obtain ⟨old, z0⟩ : ∃ old, wr.cell? ⟨g, tj, none⟩ = some old := by
                  have hz := hG.cell tj
                  rw [List.getElem?_toArray, List.getElem?_map, List.getElem?_eq_getElem (by omega)] at hz
                  exact ⟨_, hz⟩
                have zf := hG.frozen tj
                obtain ⟨_, _, hvv2, _, _, hat2⟩ := hS11.open
                injection hvv2 with h1 h2b h3b
                clear h2b h3b
                subst h1
                obtain ⟨adr2, e2, _, hfl2⟩ := hat2 j hjl
                injection e2 with e2
                subst e2
                have y0 := hfl2.f0 rfl
                have y1 := hfl2.f1 rfl
                have b0 := hK11.cell 0
                have b1 := hK11.cell 1
                simp only [List.getElem?_toArray, List.getElem?_cons_zero, List.getElem?_cons_succ] at b0 b1
                have hrl3 : (rb2.set tj true).length = a.divs.length := by rw [List.length_set]; exact hrl2
                have hlen : ((Cou.preF a i ++ Cou.keysF i lo m).filter (Cou.comesB a) ++ (r.take j).filter fun x => decide (x = ((i : Int), lo + (m : Int)))).length ≤ 100000 := matlen HOK.out (by omega) HRLN.out _ _
                generalize r[j] = x at *
                obtain ⟨x1, x2⟩ := x
                dsimp only at htj y0 y1 htake
                subst htj
                have HG11 := Lib.hid hG11
                have HK11 := Lib.hid hK11
                have HS11 := Lib.hid hS11
                have HO11 := Lib.hid hO11
                have HB11 := Lib.hid hB11
                have HOB := Lib.hid hOB
                have HRT2 := Lib.hid hRT2
                have HTK := Lib.hid htake
                have HRL3 := Lib.hid hrl3
                have hSZ11 : s10 ≤ w11.heap.size := by omega
                clear hs11
                clear hG11 hK11 hS11 hO11 hB11 hOB hRT2 htake hrl3 hrl2 hRT hG hK hO hS hB hat hat2 hfl hfl2 hin h2 h3
                obtain ⟨ln, hln⟩ : ∃ ln, ((Cou.preF a i ++ Cou.keysF i lo m).filter (Cou.comesB a) ++ (r.take j).filter fun x => decide (x = ((i : Int), lo + (m : Int)))).length = ln := ⟨_, rfl⟩
                rw [hln] at hlen
                have HLN := Lib.hid hln
                clear hln
                by_cases hx : ((tj : Int), x2) = ((i : Int), lo + (m : Int))
                · have hx1 : i = tj := by have := congrArg Prod.fst hx; dsimp only at this; omega
                  have hx2 : x2 = lo + (m : Int) := congrArg Prod.snd hx
                  subst hx1
                  subst hx2
                  clear hx
                  go_upto_region 26 with fail
                  clear hw11 z0 zf f0
                  go_quiet (fail)
                  generalize hw12 : World.drewN w11 _ = w12
                  have hO12 : OwnL w7.heap.size 28 2 CtC w12 u11 ((Cou.preF a i ++ Cou.keysF i lo m).filter (Cou.comesB a) ++ (r.take j).filter fun x => decide (x = ((i : Int), lo + (m : Int)))) := by rw [← hw12]; exact HO11.out
                  have hG12 : Blk w12 g 4 ((rb2.set i true).map Value.bool).toArray := by rw [← hw12]; exact HG11.out
                  have hK12 : Blk w12 kb 28 #[.int .i64 (i : Int), .int .i64 (lo + (m : Int))] := by rw [← hw12]; exact HK11.out
                  have hS12 : SlCt (fun b => kb + 1 ≤ b ∧ b < s10) w12 (.slice (some adr) r.length cr2) r := by rw [← hw12]; exact Sl.keep HS11.out (Agree.drewN _) fun _ _ h => h
                  have hB12 : Below w7.heap.size w7 w12 := by rw [← hw12]; exact below_drewN HB11.out _
                  have hSZ12 : s10 ≤ w12.heap.size := by rw [← hw12]; exact hSZ11
                  have hLT := hO12.lt
                  obtain ⟨cs, q1, q2, q3⟩ := id hO12
                  rw [HLN.out] at q3
                  have b0' := hK12.cell 0
                  have b1' := hK12.cell 1
                  simp only [List.getElem?_toArray, List.getElem?_cons_zero, List.getElem?_cons_succ] at b0' b1'
                  have HQ1 := Lib.hid q1
                  have HQ2 := Lib.hid q2
                  have HQ3 := Lib.hid q3
                  have HG12 := Lib.hid hG12
                  have HK12 := Lib.hid hK12
                  have HS12 := Lib.hid hS12
                  have HB12 := Lib.hid hB12
                  have HLT := Lib.hid hLT
                  have hs7 := hB12.size
                  clear hO12 hG12 hK12 hS12 hB12 hLT q1 q2 q3 hw12 b0 b1 y0 y1
                  go_wp2_with (at_builtin; refine wpList_appS elemCt (by omega) rfl _ _ rfl w7.heap.size _ ln _ rfl (HQ3.out.alloc _) ⟨w12.heap.size, 0, none⟩ 1 [.int .i64 (i : Int), .int .i64 (lo + (m : Int))] rfl rfl (Flds.new w12 _ _) (by simp [Value.oneCell']) (by omega) (by omega) (by simp; omega) ?_; intro g2 cap w13 hown8 hg8 hgg; have HO8 := Lib.hid hown8; have HG8 := Lib.hid hg8; have HGG := Lib.hid hgg; clear hown8 hg8 hgg)
                  go_roundg (r.length - (j + 1))
                  case measure => omega
                  case rel =>
                    have hsz13 := HG8.out.size
                    simp only [World.size_alloc] at hsz13
                    refine ⟨j + 1, rb2.set i true, by omega, by omega, by go_num, HRL3.out, HRT2.out, (HG12.out.alloc _).grown HG8.out fun e => own_ne HQ3.out HG12.out (by decide) e.symm, (HK12.out.alloc _).grown HG8.out fun e => ?_, ?_, ?_, fun b e => ?_, (show s10 ≤ w13.heap.size by omega), (Ba HB12.out _).grown HG8.out (by simp; omega) fun b e => (HLT.out b e).1⟩
                    · have := HOB.out kb e.symm
                      omega
                    · show OwnL _ _ _ _ _ _ _
                      rw [HTK.out, if_pos trivial, ← List.append_assoc]
                      exact OwnL.snoc HQ1.out HQ2.out rfl rfl (fun _ _ h => h) (by rw [HLN.out]; exact HO8.out)
                    · refine Sl.keep HS12.out ((Agree.alloc _ fun b h => by have := h.2; omega).trans (Agree.grown HG8.out fun b h => ⟨by have := h.2; simp; omega, fun e => ?_⟩)) fun _ _ h => h
                      have := HOB.out b e.symm
                      have := h.1
                      have := h.2
                      omega
                    · have e2 : g2 = b := by simpa [Value.ownBlock] using e
                      subst e2
                      rcases HGG.out with q | q
                      · exact HOB.out _ q.symm
                      · rw [World.size_alloc] at q
                        exact .inr (by omega)
                · have hneg : ∀ W, Blk W g 4 ((rb2.set tj true).map Value.bool).toArray → True := fun _ _ => trivial
                  clear hneg
                  have HX := Lib.hid hx
                  have hcase : ((tj : Int) == (i : Int)) = false ∨ (i = tj ∧ (x2 == lo + (m : Int)) = false) := by
                    by_cases e : i = tj
                    · subst e
                      refine .inr ⟨rfl, ?_⟩
                      rw [beq_eq_false_iff_ne]
                      intro e2
                      exact hx (by rw [e2])
                    · exact .inl (by rw [beq_eq_false_iff_ne]; omega)
                  clear hx
                  rcases hcase with h2 | ⟨e, h2⟩
                  · go_upto_region 26 with fail
                    clear hw11 z0 zf f0
                    go_quiet (fail)
                    go_wp2_with fail
                    go_roundg (r.length - (j + 1))
                    case measure => omega
                    case rel =>
                      refine ⟨j + 1, rb2.set tj true, by omega, by omega, by go_num, HRL3.out, HRT2.out, HG11.out, HK11.out, ?_, Sl.keep HS11.out (Agree.drewN _) fun _ _ h => h, HOB.out, hSZ11, below_drewN HB11.out _⟩
                      show OwnL _ _ _ _ _ _ _
                      rw [HTK.out, if_neg HX.out, List.append_nil]
                      exact HO11.out
                  · subst e
                    go_upto_region 26 with fail
                    clear hw11 z0 zf f0
                    go_quiet (fail)
                    go_wp2_with fail
                    go_roundg (r.length - (j + 1))
                    case measure => omega
                    case rel =>
                      refine ⟨j + 1, rb2.set i true, by omega, by omega, by go_num, HRL3.out, HRT2.out, HG11.out, HK11.out, ?_, Sl.keep HS11.out (Agree.drewN _) fun _ _ h => h, HOB.out, hSZ11, below_drewN HB11.out _⟩
                      show OwnL _ _ _ _ _ _ _
                      rw [HTK.out, if_neg HX.out, List.append_nil]
                      exact HO11.out
              · have dj : decide ((j : Int) < r.length) = false := decide_eq_false (by omega)
                have hjr : j = r.length := by omega
                subst hjr
                have hRS2 := Cou.RowS.step HRS.out HMEM.out hRT
                have hO2 : OwnL w7.heap.size 28 2 CtC wr u11 ((Cou.preF a i ++ Cou.keysF i lo (m + 1)).filter (Cou.comesB a)) := by
                  rw [Cou.keysF_snoc, ← List.append_assoc, List.filter_append, ← matcome HSRT.out HMEM.out]
                  rw [List.take_length] at hO
                  exact hO
                have HRS2 := Lib.hid hRS2
                have HO2 := Lib.hid hO2
                have HG2 := Lib.hid hG
                have HB2 := Lib.hid hB
                have HRL2 := Lib.hid hrl2
                clear hRS2 hO2 hG hB hO hRT hK hS hOB hSZ hrl2
                go_wp2_with fail
                go_roundg (nk - (m + 1))
                case measure => omega
                case rel => exact ⟨m + 1, rb2, by omega, by omega, by go_num, HRL2.out, HRS2.out, HG2.out, HO2.out, HB2.out⟩
          · have dk : decide (lo + (m : Int) ≤ hi2) = false := decide_eq_false (by omega)
            have hmn : m = nk := by omega
            subst hmn
            have hrow2 := HMRR.out rb m (.inl hnk2) HRS.out
            have hO2 : OwnL w7.heap.size 28 2 CtC wr u11 ((Cou.preF a (i + 1)).filter (Cou.comesB a)) := by rw [HPS.out]; exact HO.out
            have HROW2 := Lib.hid hrow2
            have HO2 := Lib.hid hO2
            clear hrow2 hO2 HO
            go_wp2_with fail
            clear x0 x1 x2 e0 e1
            go_loopg [18] a.divs.length (fun gg s18 wr => ∃ k : Nat, k ≤ a.divs.length ∧ a.divs.length - k ≤ gg ∧ s18 = .int .i64 k ∧ Aside (Blk wr g 4 (rb.map Value.bool).toArray) ∧ Aside (OwnL w7.heap.size 28 2 CtC wr u11 ((Cou.preF a (i + 1)).filter (Cou.comesB a))) ∧ Aside (Below w7.heap.size w7 wr))
            case atStart => exact ⟨0, by omega, by omega, rfl, HG.out, HO2.out, HB.out⟩
            case round =>
              clear HG HO2 HB
              obtain ⟨k, hk, hg3, rfl, hG, hO, hB⟩ := hrel
              replace hB : Below w7.heap.size w7 wr := hB
              replace hG : Blk wr g 4 (rb.map Value.bool).toArray := hG
              replace hO : OwnL w7.heap.size 28 2 CtC wr u11 ((Cou.preF a (i + 1)).filter (Cou.comesB a)) := hO
              by_cases hkl : k < a.divs.length
              · have dkk : decide ((k : Int) < a.divs.length) = true := decide_eq_true (by omega)
                have hkI : (k : Int) < a.divs.length := by omega
                have hb5 : Below w5.heap.size w5 wr := Bt HB56.out (Bt HB67.out hB)
                obtain ⟨ar, rfl, hcc⟩ := HCOL.out k hkl
                have r0 := HROW.out wr hb5
                have r1 := hcc wr hb5
                rw [← HROW2.out k] at r1
                have z0 := hG.cell k
                rw [List.getElem?_toArray, List.getElem?_map, List.getElem?_eq_getElem (by rw [HRL.out]; exact hkl)] at z0
                have e9 : rb.getD k false = rb[k]'(by rw [HRL.out]; exact hkl) := by rw [List.getD_eq_getElem?_getD, List.getElem?_eq_getElem (by rw [HRL.out]; exact hkl)]; rfl
                rw [e9] at r1
                simp only [Option.map_some] at z0
                generalize rb[k]'(by rw [HRL.out]; exact hkl) = bv at *
                have HG := Lib.hid hG
                have HO := Lib.hid hO
                have HB := Lib.hid hB
                clear hG hO hB hcc hb5 e9
                cases bv
                all_goals
                  go_upto_region 31 with fail
                  go_quiet (fail)
                  go_wp2_with fail
                  go_roundg (a.divs.length - (k + 1))
                  case measure => omega
                  case rel => exact ⟨k + 1, by omega, by omega, by go_num, HG.out, HO.out, below_drewN HB.out _⟩
              · have dkk : decide ((k : Int) < a.divs.length) = false := decide_eq_false (by omega)
                have HO := Lib.hid hO
                have HB := Lib.hid hB
                clear hG hO hB
                go_wp2_with fail
                go_roundg (a.divs.length - (i + 1))
                case measure => omega
                case rel => exact ⟨i + 1, by omega, by omega, by go_num, HO.out, HB.out⟩
      · have dlt : decide ((i : Int) < a.divs.length) = false := decide_eq_false (by omega)
        have hin : i = a.divs.length := by omega
        have hsb : SlCt (fun b => b < wr.heap.size) wr vb ((Cou.ctsF 0 a.divs).filter (Cou.comesB a)) := Sl.mono (Sl.keep HSB.out (Agree.below (Bt HB67.out hB) fun b h => h.2) fun _ _ h => h) fun b h => Nat.lt_of_lt_of_le h.2 (Bt HB67.out hB).size
        have hbk : SlCt (fun b => b < wr.heap.size) wr u11 ((Cou.ctsF 0 a.divs).filter (Cou.comesB a)) := by
          have hll : ((Cou.preF a i).filter (Cou.comesB a)).length ≤ 140737488355328 := by
            have := matlen HOK.out (i := i) (m := 0) (j := 0) (d := 0) (lo := 0) (r := []) (by omega) (by simp) (Cou.comesB a) (Cou.comesB a)
            simp [Cou.keysF] at this
            omega
          have := hO.sl (F := fun b => b < wr.heap.size) hll fun b _ h _ => h
          rw [hin, Cou.preF_all] at this
          exact this
        have hSM := same_ct vb u11 _ _ wr (fun b => b < wr.heap.size) (fun _ h => h) hsb hbk
        rw [decide_eq_true rfl] at hSM
        have hIDD := fun W (hb : Below wr.heap.size wr W) => HIDL.out _ vl w7 W (Bt hB hb) (Bt hb4 hb) HSL.out
        have HSM2 := Lib.hid hSM
        have HIDD := Lib.hid hIDD
        have HB := Lib.hid hB
        have HB4W := Lib.hid hb4
        clear hsb hbk hSM hIDD hO hB hb4 hb5 hmk hin
        go_wp2_with (first
          | (go_at_call 15; (with_reducible refine (HSM2.out.mono ?_)); rintro e w8 ⟨rfl, hb8⟩; have HB8 := Lib.hid hb8; obtain ⟨z0, z1, z2⟩ := HKE.out w8 (Bt HB4W.out hb8); clear hb8)
          | (go_at_call 22; (with_reducible refine ((HIDD.out _ HB8.out).mono ?_)); rintro e w9 ⟨rfl, hb9⟩; have HB9 := Lib.hid hb9; clear hb9))
        go_ret
        exact ⟨rfl, Bt HB4.out (Bt HB4W.out (Bt HB8.out HB9.out))⟩
end Go.Proofs.YtnkjhppjjklgfaaDoor
