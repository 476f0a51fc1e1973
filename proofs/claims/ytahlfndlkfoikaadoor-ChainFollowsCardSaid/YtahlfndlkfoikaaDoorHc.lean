/- The statement of following, walked. -/
import Derived.Test.YtahlfndlkfoikaaDoorGd
import Derived.Test.YtahlfndlkfoikaaDoorHb
import Derived.Test.YtahlfndlkfoikaaDoorEk
import Derived.Test.YtahlfndlkfoikaaDoorGa
namespace Go.Proofs.YtahlfndlkfoikaaDoor
open Go Go.RowKit Go.Shelf
set_option maxRecDepth 100000 in
set_option maxHeartbeats 8000000 in
theorem law_follows (p : Cou.Pl) (hp : PlOk p) (vl : Value) (key : Nat) (hkey : key < 256) (cv : Value) (cs : List Int) (w : World) (F : Nat → Prop) (hF : ∀ b, F b → b < w.heap.size) (hl : SlLk F w vl p.links) (hW : WOk w) (hC : SlI F w cv cs) :
    Calls Tryd.prog 3 #[.agg (plCells p vl), .int .u8 (key : Int), cv] w fun e w' => e = .returned (.bool true) ∧ Below w.heap.size w w' := by
  have HTT := Lib.hid hW
  have HK := Lib.hid (fun W (hb : Below w.heap.size w W) => (hW.below hb).known)
  have HM := Lib.hid (fun W (hb : Below w.heap.size w W) => make_any p hp vl W F (fun b h => Nat.lt_of_lt_of_le (hF b h) hb.size) (Sl.keep hl (Agree.below hb hF) fun _ _ h => h))
  obtain ⟨Al, al, hvl, _, hll, _⟩ := id hl
  have hok : Cou.Ok (Cou.makeF p) := Cou.right_ok (Cou.make_right hp.len)
  have hrt : Cou.rightF (Cou.makeF p) = 0 := Cou.make_right hp.len
  have hcl4 : (Cou.makeF p).cps.length ≤ 4 := makeF_cps
  have hdr := makeF_drawn hp
  have hsm := (makeF_divs (p := p)).1
  have hd3 := (makeF_divs (p := p)).2
  have hn1 := makeF_pos hp.len
  subst hvl
  unfold plCells at *
  obtain ⟨ll, hll9⟩ : ∃ ll, p.links.length = ll := ⟨_, rfl⟩
  rw [hll9] at hll HM ⊢
  generalize ((p.dv.getD 0 (0, 0)).1 : Int) = d0 at *
  generalize ((p.dv.getD 0 (0, 0)).2 : Int) = d1 at *
  generalize ((p.dv.getD 1 (0, 0)).1 : Int) = d2 at *
  generalize ((p.dv.getD 1 (0, 0)).2 : Int) = d3 at *
  generalize ((p.dv.getD 2 (0, 0)).1 : Int) = d4 at *
  generalize ((p.dv.getD 2 (0, 0)).2 : Int) = d5 at *
  generalize (p.more : Int) = mo at *
  generalize (p.drawn : Int) = dr at *
  generalize Cou.makeF p = a at *
  try dsimp only
  clear hl hll9 hp
  obtain ⟨Av, cc2, rfl, hcc, -, hcat⟩ := id hC.open
  obtain ⟨n, hn⟩ : ∃ n, cs.length = n := ⟨_, rfl⟩
  rw [hn] at hC hcc ⊢
  have HN := Lib.hid hn
  clear hn
  obtain ⟨w1, hw1⟩ : ∃ w1 : World, (w.alloc (.cells #[.int .u8 d0, .int .u8 d1, .int .u8 d2, .int .u8 d3, .int .u8 d4, .int .u8 d5, .int .u8 mo, .slice Al ll al, .int .u8 dr] 26)) = w1 := ⟨_, rfl⟩
  obtain ⟨pb, hpb⟩ : ∃ pb, w.heap.size = pb := ⟨_, rfl⟩
  have PB : Blk w1 pb 26 #[.int .u8 d0, .int .u8 d1, .int .u8 d2, .int .u8 d3, .int .u8 d4, .int .u8 d5, .int .u8 mo, .slice Al ll al, .int .u8 dr] := by
    rw [← hw1, ← hpb]; exact Blk.new w _ _
  have B1 : Below w.heap.size w w1 := by rw [← hw1]; exact Ba (B0 w) _
  have HPB := Lib.hid PB
  have HB1 := Lib.hid B1
  have HW1 := Lib.hid hw1
  have HPP := Lib.hid hpb
  clear PB  B1 hw1 hpb hW
  go_enter Tryd.func3, Tryd.ntmps3
  go_upto_region 1 with fail
  rw [HW1.out, HPP.out]
  by_cases h4 : 4 < ll
  · have d4' : decide ((4 : Int) < ll) = true := decide_eq_true (by omega)
    go_wp2_with (first
      | (go_at_call 11; (with_reducible refine ((HK.out _ HB2.out).mono ?_)); rintro e w3 ⟨rfl, hb3⟩; have HB3 := Lib.hid (Bt HB2.out hb3); clear hb3)
      | (go_at_call 11; (with_reducible refine ((HK.out _ HB1.out).mono ?_)); rintro e w2 ⟨rfl, hb2⟩; have HB2 := Lib.hid (Bt HB1.out hb2); have k7 := (HPB.out.below hb2 HPB.out.lt).cell 7; simp only [List.getElem?_toArray, List.getElem?_cons_zero, List.getElem?_cons_succ] at k7; clear hb2))
    go_ret
    exact ⟨rfl, HB3.out⟩
  · have d4' : decide ((4 : Int) < ll) = false := decide_eq_false (by omega)
    by_cases h6 : 6 < n
    · have d6' : decide ((6 : Int) < n) = true := decide_eq_true (by omega)
      go_wp2_with (first
        | (go_at_call 11; (with_reducible refine ((HK.out _ HB2.out).mono ?_)); rintro e w3 ⟨rfl, hb3⟩; have HB3 := Lib.hid (Bt HB2.out hb3); clear hb3)
        | (go_at_call 11; (with_reducible refine ((HK.out _ HB1.out).mono ?_)); rintro e w2 ⟨rfl, hb2⟩; have HB2 := Lib.hid (Bt HB1.out hb2); have k7 := (HPB.out.below hb2 HPB.out.lt).cell 7; simp only [List.getElem?_toArray, List.getElem?_cons_zero, List.getElem?_cons_succ] at k7; clear hb2))
      go_ret
      exact ⟨rfl, HB3.out⟩
    have d6' : decide ((6 : Int) < n) = false := decide_eq_false (by omega)
    go_upto_region 3 with (go_at_call 11; (with_reducible refine ((HK.out _ HB1.out).mono ?_)); rintro e w2 ⟨rfl, hb2⟩; have HB2 := Lib.hid (Bt HB1.out hb2); have HP2 := Lib.hid (HPB.out.below hb2 HPB.out.lt);  have k7 := HP2.out.cell 7; simp only [List.getElem?_toArray, List.getElem?_cons_zero, List.getElem?_cons_succ] at k7; clear hb2)
    have k0 := HP2.out.cell 0
    have k1 := HP2.out.cell 1
    have k2 := HP2.out.cell 2
    have k3 := HP2.out.cell 3
    have k4 := HP2.out.cell 4
    have k5 := HP2.out.cell 5
    have k6 := HP2.out.cell 6
    have k8 := HP2.out.cell 8
    simp only [List.getElem?_toArray, List.getElem?_cons_zero, List.getElem?_cons_succ] at k0 k1 k2 k3 k4 k5 k6 k8
    go_upto_region 4 with (go_at_call 12; (with_reducible refine ((HM.out _ HB2.out).mono ?_)); rintro e w3 ⟨vd, vc, rfl, hA3, hb3⟩; obtain ⟨Ad, cd, rfl, _, _⟩ := id hA3.dv.open; obtain ⟨Ac, cc, rfl, _, _⟩ := id hA3.cp.open; have HA3 := Lib.hid hA3; have HB3 := Lib.hid (Bt HB2.out hb3);  clear hb3 hA3)
    obtain ⟨W4, hW4⟩ : ∃ W4 : World, w3.alloc (.cells #[.slice Ad a.divs.length cd, .slice Ac a.cps.length cc, .int .u64 a.drawn] 33) = W4 := ⟨_, rfl⟩
    obtain ⟨ab, hab⟩ : ∃ ab, w3.heap.size = ab := ⟨_, rfl⟩
    have AB : Blk W4 ab 33 #[.slice Ad a.divs.length cd, .slice Ac a.cps.length cc, .int .u64 a.drawn] := by rw [← hW4, ← hab]; exact Blk.new _ _ _
    have B4 : Below w3.heap.size w3 W4 := by rw [← hW4]; exact Ba (B0 w3) _
    have A4 := HA3.out.on B4
    rw [hW4, hab]
    have hB04 := Bt HB3.out B4
    have HKE := Lib.hid (fun W (hb : Below W4.heap.size W4 W) => (show W.cell? ⟨ab, 0, none⟩ = some (.slice Ad a.divs.length cd) ∧ W.cell? ⟨ab, 1, none⟩ = some (.slice Ac a.cps.length cc) ∧ W.cell? ⟨ab, 2, none⟩ = some (.int .u64 a.drawn) from ⟨(Bc hb AB.lt).trans (AB.cell 0), (Bc hb AB.lt).trans (AB.cell 1), (Bc hb AB.lt).trans (AB.cell 2)⟩))
    have HTW := Lib.hid (fun W (hb : Below W4.heap.size W4 W) => HTT.out.below (Bt hB04 hb))
    have HAW := Lib.hid (fun W (hb : Below W4.heap.size W4 W) => A4.on hb)
    have HB4 := Lib.hid hB04
    have HOK := Lib.hid hok
    have HRT := Lib.hid hrt
    have HSM := Lib.hid hsm
    have HAB := Lib.hid AB
    clear AB B4 A4  hW4 hab hB04 hok hrt hsm HA3 HB3  HP2  HPB  HK HM HTT k0 k1 k2 k3 k4 k5 k6 k7 k8
    obtain ⟨x0, x1, x2⟩ := HKE.out W4 (B0 W4)
    have hn6 : n ≤ 6 := by omega
    have hCW : ∀ W, Below W4.heap.size W4 W → SlI (fun b => b < W.heap.size) W (.slice Av n cc2) cs := fun W hb => Sl.mono (SlI.keep hC (Agree.below (Bt HB4.out hb) hF)) fun b h => Nat.lt_of_lt_of_le (hF b h) (Bt HB4.out hb).size
    obtain ⟨con, hcon⟩ : ∃ con, Cha.startF a key = con := ⟨_, rfl⟩
    have hin : Cou.InA a con := by rw [← hcon]; exact Cha.start_in HOK.out hn1 key
    have hST := start_any a HOK.out hn1 _ _ key hkey a.drawn W4 _ (HAW.out W4 (B0 W4))
    rw [hcon] at hST
    obtain ⟨t1, t2⟩ := con
    have HST := Lib.hid hST
    have hbe : Cha.beginF a [(t1, t2)] = 0 := by unfold Cha.beginF Cha.wrongsF Cha.wrongsF; rw [if_pos HRT.out, if_pos (Cha.wrong_in hin)]
    have hfr : Cha.folR a (t1, t2) cs = Cha.followF a (t1, t2) cs := by unfold Cha.folR; rw [if_pos hbe]
    have hFO := fun W (hb : Below W4.heap.size W4 W) => Follow_any a (.slice Ad a.divs.length cd) (.slice Ac a.cps.length cc) hdr (t1, t2) (.slice Av n cc2) cs W _ (HAW.out W hb).all (hCW W hb) (by rw [HN.out]; omega)
    have hTX := fun W (hb : Below W4.heap.size W4 W) => Text_any a (.slice Ad a.divs.length cd) (.slice Ac a.cps.length cc) hdr (t1, t2) (.slice Av n cc2) cs W _ (HAW.out W hb).all (hCW W hb) (by rw [HN.out]; omega) (HTW.out W hb).pow
    have hLF := fun W (hb : Below W4.heap.size W4 W) => lfollow_any a HOK.out (.slice Ad a.divs.length cd) (.slice Ac a.cps.length cc) hdr (t1, t2) hin (.slice Av n cc2) cs W _ (HAW.out W hb).all (hCW W hb) (by rw [HN.out]; omega)
    have hNM := fun W (hb : Below W4.heap.size W4 W) k (hk : k ≤ 127) => Name_any k hk W (HTW.out W hb).pow
    obtain ⟨E, hE⟩ : ∃ E, (Cha.followF a (t1, t2) cs).1 = E := ⟨_, rfl⟩
    obtain ⟨ts, hts⟩ : ∃ ts, (Cha.followF a (t1, t2) cs).2 = ts := ⟨_, rfl⟩
    rw [hfr, hE, hts] at hFO
    rw [hE, hts] at hLF
    have hrd : ∀ W, Below W4.heap.size W4 W → SlI (fun b => b < W.heap.size) W (.slice Av n cc2) cs := hCW
    have HRD := Lib.hid hrd
    have hcpat : ∀ i (hi : i < a.cps.length), ∃ ad, Ac = some ad ∧ ∀ W, Below W4.heap.size W4 W → W.cell? (ad.add (i * 5)) = some (.string a.cps[i].name) := fun i hi => by
      obtain ⟨A, c, e, _, hat⟩ := (HAW.out W4 (B0 _)).cp.open
      injection e with e1 e2 e3
      subst e1
      obtain ⟨ad, h1, h2, h3⟩ := hat i hi
      have l1 : (ad.add (i * 5)).block < W4.heap.size := by rw [block_of_add]; exact (HAW.out W4 (B0 _)).inW _ h2
      exact ⟨ad, h1, fun W hb => (h3.below hb l1).f0 rfl⟩
    have HCP := Lib.hid hcpat
    clear hCW hrd hcpat HAW HTW hST hcon hcat hC
    by_cases hz : E = 0
    · have hz' : (Cha.folR a (t1, t2) cs).1 = 0 := by rw [hfr, hE]; exact hz
      obtain ⟨-, -, hlen, hins, hidx⟩ := Cha.folR_ok hz'
      rw [hfr, hts] at hlen hins
      have htx : Cha.textR a (t1, t2) cs = (0, Cha.texF a cs ts (Cha.nameF t2.toNat)) := by unfold Cha.textR; rw [if_pos hz', hfr, hts]
      rw [htx] at hTX
      rw [hz] at hFO hLF
      have hkk := hin.key HOK.out
      dsimp only at hkk hTX
      obtain ⟨kn, rfl⟩ : ∃ kn : Nat, t2 = kn := ⟨t2.toNat, by omega⟩
      have hkn : kn ≤ 127 := by omega
      rw [Int.toNat_natCast] at hTX
      rw [HN.out] at hlen
      have HLEN := Lib.hid hlen
      have HINS := Lib.hid (fun i (hi : i < ts.length) => (hins ts[i] (List.getElem_mem hi)).key HOK.out)
      have HIDX := Lib.hid (fun i (hi : i < cs.length) => hidx cs[i] (List.getElem_mem hi))
      have HSH := Lib.hid (fun i (hi : i < a.cps.length) => Cha.right_short HRT.out i hi)
      have HNK := Lib.hid (fun W hb => hNM W hb kn hkn)
      have HNA := Lib.hid hNM
      have HFO := Lib.hid hFO
      have HTX := Lib.hid hTX
      have HLF := Lib.hid hLF
      have hns := Cha.nameF_short kn hkn
      obtain ⟨S0, hS0⟩ : ∃ S0, Cha.nameF kn = S0 := ⟨_, rfl⟩
      rw [hS0] at HTX HNK hns
      obtain ⟨TT, hTT⟩ : ∃ TT, Cha.texF a cs ts S0 = TT := ⟨_, rfl⟩
      rw [hTT] at HTX
      have HTT2 := Lib.hid hTT
      clear hFO hTX hLF hNM hz hz' htx hE hts hfr hins hidx hlen hkk hS0 hTT hbe hin
      go_upto_region 5 with (go_at_call 13; (with_reducible refine (HST.out.mono ?_)); rintro e w5 ⟨rfl, hb5⟩; have HB5 := Lib.hid hb5; clear hb5)
      obtain ⟨W6, hW6⟩ : ∃ W6 : World, w5.alloc (.cells #[.int .i64 t1, .int .i64 kn] 36) = W6 := ⟨_, rfl⟩
      obtain ⟨tb, htb⟩ : ∃ tb, w5.heap.size = tb := ⟨_, rfl⟩
      have TB : Blk W6 tb 36 #[.int .i64 t1, .int .i64 kn] := by rw [← hW6, ← htb]; exact Blk.new _ _ _
      have HB6 : Hid (Below W4.heap.size W4 W6) := Lib.hid (by rw [← hW6]; exact Ba HB5.out _)
      have HKT := Lib.hid (fun W (hb : Below W6.heap.size W6 W) => (show (W.cell? ⟨ab, 0, none⟩ = some (.slice Ad a.divs.length cd) ∧ W.cell? ⟨ab, 1, none⟩ = some (.slice Ac a.cps.length cc) ∧ W.cell? ⟨ab, 2, none⟩ = some (.int .u64 a.drawn)) ∧ W.cell? ⟨tb, 0, none⟩ = some (.int .i64 t1) ∧ W.cell? ⟨tb, 1, none⟩ = some (.int .i64 kn) from
        ⟨HKE.out W (Bt HB6.out hb), (Bc hb TB.lt).trans (TB.cell 0), (Bc hb TB.lt).trans (TB.cell 1)⟩))
      rw [hW6, htb]
      clear hW6 htb TB x0 x1 x2
      obtain ⟨⟨x0, x1, x2⟩, x3, x4⟩ := HKT.out W6 (B0 W6)
      go_upto_region 8 with (first
        | (go_at_call 14; (with_reducible refine ((HFO.out _ HB6.out).mono ?_)); rintro e w7 ⟨v7, rfl, hs7, hb7⟩; (have hvs : ∃ A7 c7, v7 = .slice A7 n c7 := by obtain ⟨A7, c7, h, _⟩ := id hs7; rw [HLEN.out] at h; exact ⟨A7, c7, h⟩); obtain ⟨A7, c7, rfl⟩ := hvs; have HS7 := Lib.hid (SlCt.bnd3 hs7); have HB7 := Lib.hid hb7; clear x0 x1 x2 x3 x4; obtain ⟨⟨x0, x1, x2⟩, x3, x4⟩ := HKT.out w7 hb7; clear hb7 hs7)
        | (go_at_call 15; (with_reducible refine ((HTX.out _ (Bt HB6.out HB7.out)).mono ?_)); rintro e w8 ⟨rfl, hb8⟩; have HB78 := Lib.hid hb8; have HB8 := Lib.hid (Bt HB7.out hb8); clear x0 x1 x2 x3 x4; obtain ⟨⟨x0, x1, x2⟩, x3, x4⟩ := HKT.out w8 HB8.out; clear hb8)
        | (go_at_call 16; (with_reducible refine ((HLF.out _ (Bt HB6.out HB8.out)).mono ?_)); rintro e w9 ⟨v9, rfl, hs9, hb9⟩; (have hvs : ∃ A9 c9, v9 = .slice A9 n c9 := by obtain ⟨A9, c9, h, _⟩ := id hs9; rw [HLEN.out] at h; exact ⟨A9, c9, h⟩); obtain ⟨A9, c9, rfl⟩ := hvs; have HS9 := Lib.hid (SlCt.bnd3 hs9); have HS79 := Lib.hid (slCt_on1 HS7.out (Bt HB78.out hb9)); have HB9 := Lib.hid (Bt HB8.out hb9); clear x0 x1 x2 x3 x4; obtain ⟨⟨x0, x1, x2⟩, x3, x4⟩ := HKT.out w9 HB9.out; clear hb9 hs9))
      have g0 : (((n : Nat) : Int) != n) = false := by simp
      go_wp2_with (go_at_call 17; (with_reducible refine ((HNK.out _ (Bt HB6.out HB9.out)).mono ?_)); rintro e wa ⟨rfl, hba⟩; have HBA := Lib.hid (Bt HB9.out hba); have HS7A := Lib.hid (slCt_on1 HS79.out hba); have HS9A := Lib.hid (slCt_on1 HS9.out hba); clear hba x0 x1 x2 x3 x4)
      clear g0
      go_loopg [15, 17] n (fun gg s15 s17 wr => ∃ (k : Nat) (S : ByteArray), k ≤ n ∧ n - k ≤ gg ∧ s17 = .int .i64 k ∧ s15 = .string S ∧ Aside (S.size ≤ 4 + k * 60) ∧ Aside (Cha.texF a (cs.drop k) (ts.drop k) S = TT) ∧ Aside (Below wa.heap.size wa wr))
      case atStart => exact ⟨0, S0, by omega, by omega, rfl, rfl, (show Aside _ from by show _ ≤ _; omega), (show Aside _ from by show _ = _; rw [List.drop_zero, List.drop_zero]; exact HTT2.out), B0 wa⟩
      case round =>
        obtain ⟨k, S, hk, hg, rfl, rfl, HS, HE, HB⟩ := hrel
        replace HS : S.size ≤ 4 + k * 60 := HS
        replace HE := Lib.hid HE
        replace HB : Hid (Below wa.heap.size wa wr) := Lib.hid HB
        by_cases hlt : k < n
        · have hltI : (k : Int) < n := by omega
          have hk1 : k < ts.length := by rw [HLEN.out]; exact hlt
          have hk2 : k < cs.length := by rw [HN.out]; exact hlt
          obtain ⟨A8', c8', e, _, _, h8⟩ := SlCt.open HS7A.out
          injection e with e1 e2 e3
          subst e1; clear e2 e3
          obtain ⟨ad7, rfl, hb7, hfl7⟩ := h8 k hk1
          obtain ⟨A9', c9', e, _, _, h9⟩ := SlCt.open HS9A.out
          injection e with e1 e2 e3
          subst e1; clear e2 e3
          obtain ⟨ad9, rfl, hb9, hfl9⟩ := h9 k hk1
          obtain ⟨A', c', e, _, _, hcA⟩ := SlI.open (HRD.out wr (Bt HB6.out (Bt HBA.out HB.out)))
          injection e with e1 e2 e3
          subst e1; clear e2 e3
          obtain ⟨ad, rfl, hfb, hfl⟩ := hcA k hk2
          have hfb2 : (ad.add k).block < wr.heap.size := by rw [block_of_add]; exact hfb
          have HCE := Lib.hid (fun W (hb : Below wr.heap.size wr W) => (hb.cell (p := ad.add k) hfb2).trans hfl)
          have hb72 : (ad7.add (k * 2)).block < wa.heap.size := by rw [block_of_add]; exact hb7
          have hb92 : (ad9.add (k * 2)).block < wa.heap.size := by rw [block_of_add]; exact hb9
          have hq7 := hfl7.below HB.out hb72
          have hq9 := hfl9.below HB.out hb92
          have q0 := hq7.f0 rfl
          have q1 := hq7.f1 rfl
          have r0 := hq9.f0 rfl
          have r1 := hq9.f1 rfl
          have hkey := HINS.out k hk1
          have hix := HIDX.out k hk2
          have he := HE.out
          rw [List.drop_eq_getElem_cons hk2, List.drop_eq_getElem_cons hk1, Cha.texF] at he
          have HE2 := Lib.hid he
          clear he HE h8 h9 hcA hfl7 hfl9 hq7 hq9 hfl hfb hfb2 hb7 hb9 hb72 hb92
          generalize cs[k] = i at *
          generalize ts[k] = x at *
          obtain ⟨x1, x2⟩ := x
          dsimp only at q0 q1 r0 r1 hkey HE2
          obtain ⟨j, rfl⟩ : ∃ j : Nat, i = j := ⟨i.toNat, by omega⟩
          obtain ⟨m, rfl⟩ : ∃ m : Nat, x2 = m := ⟨x2.toNat, by omega⟩
          have hj : j < a.cps.length := by omega
          have hj3 : (j : Int) < a.cps.length := by omega
          have hm : m ≤ 127 := by omega
          have hsn := HSH.out j hj
          obtain ⟨ad2, rfl, hnm⟩ := HCP.out j hj
          have he := HE2.out
          rw [Int.toNat_natCast, Int.toNat_natCast, List.getElem?_eq_getElem hj] at he
          simp only [Option.elim_some] at he
          have hns2 := Cha.nameF_short m hm
          have HNM := Lib.hid (fun W hb => HNA.out W hb m hm)
          obtain ⟨nm, hnmE⟩ : ∃ nm, a.cps[j].name = nm := ⟨_, rfl⟩
          rw [hnmE] at he hsn hnm
          obtain ⟨s2, hs2⟩ : ∃ s2, Cha.nameF m = s2 := ⟨_, rfl⟩
          rw [hs2] at hns2 HNM he
          have he3 : Cha.texF a (cs.drop (k + 1)) (ts.drop (k + 1)) ((((S ++ ⟨#[32]⟩) ++ nm) ++ ⟨#[32]⟩) ++ s2) = TT := by
            rw [← he]
            congr 1
            simp only [ByteArray.append_assoc]
          have HE3 := Lib.hid he3
          have HNMC := Lib.hid hnm
          clear he he3 HE2 hnm hnmE hs2 hj hk1 hk2 hkey hix
          have g1 : ¬ (9223372036854775807 < S.size + 1) := by omega
          have g2 : ¬ (9223372036854775807 < S.size + 1 + nm.size) := by omega
          have g3 : ¬ (9223372036854775807 < S.size + 1 + nm.size + 1) := by omega
          have g4 : ¬ (9223372036854775807 < S.size + 1 + nm.size + 1 + s2.size) := by omega
          go_upto_region 16 with fail
          go_quiet (fail)
          go_upto_region 19 with (go_at_call 17; (with_reducible refine ((HNM.out _ (Bt HB6.out (Bt HBA.out (below_drewN HB.out _)))).mono ?_)); rintro e w5 ⟨rfl, hb5⟩; have HB5 := Lib.hid (Bt (below_drewN (B0 wr) _) hb5); clear hb5 q0 q1 r0 r1)
          obtain ⟨⟨d0, d1, d2⟩, -, -⟩ := HKT.out w5 (Bt HBA.out (Bt HB.out HB5.out))
          have f1 := HCE.out w5 HB5.out
          have f2 := HNMC.out w5 (Bt HB6.out (Bt HBA.out (Bt HB.out HB5.out)))
          go_quiet (fail)
          go_wp2_with fail
          go_roundg (n - (k + 1))
          case measure => omega
          case rel => exact ⟨k + 1, _, by omega, by omega, by go_num, rfl, (show Aside _ from by show _ ≤ _; have h32 : (⟨#[32]⟩ : ByteArray).size = 1 := rfl; simp only [ByteArray.size_append, h32]; omega), HE3.out, below_drewN (Bt HB.out HB5.out) _⟩
        · obtain rfl : k = n := by omega
          have he2 : S = TT := by
            rw [← HE.out, List.drop_eq_nil_of_le (by rw [HN.out]; exact Nat.le_refl _), List.drop_eq_nil_of_le (by rw [HLEN.out]; exact Nat.le_refl _), Cha.texF]
            intro _ _ _ _ h; cases h
          clear HE HTT2
          subst he2
          go_wp2_with fail
          go_ret
          exact ⟨by simp, Bt HB4.out (Bt HB6.out (Bt HBA.out HB.out))⟩
    · have hz' : (Cha.folR a (t1, t2) cs).1 ≠ 0 := by rw [hfr, hE]; exact hz
      have hts0 : ts = [] := by rw [← hts, ← hfr]; exact Cha.folR_bad hz'
      have htx : Cha.textR a (t1, t2) cs = (E, ⟨#[]⟩) := by unfold Cha.textR; rw [if_neg hz', hfr, hE]
      rw [htx] at hTX
      subst hts0
      have dz : (E != 0) = true := by simpa using hz
      dsimp only at hTX
      have HFO := Lib.hid hFO
      have HTX := Lib.hid hTX
      have HLF := Lib.hid hLF
      clear hFO hTX hLF hNM hz hz' htx hE hts hfr hbe hin
      go_upto_region 5 with (go_at_call 13; (with_reducible refine (HST.out.mono ?_)); rintro e w5 ⟨rfl, hb5⟩; have HB5 := Lib.hid hb5; clear hb5)
      obtain ⟨W6, hW6⟩ : ∃ W6 : World, w5.alloc (.cells #[.int .i64 t1, .int .i64 t2] 36) = W6 := ⟨_, rfl⟩
      obtain ⟨tb, htb⟩ : ∃ tb, w5.heap.size = tb := ⟨_, rfl⟩
      have TB : Blk W6 tb 36 #[.int .i64 t1, .int .i64 t2] := by rw [← hW6, ← htb]; exact Blk.new _ _ _
      have HB6 : Hid (Below W4.heap.size W4 W6) := Lib.hid (by rw [← hW6]; exact Ba HB5.out _)
      have HKT := Lib.hid (fun W (hb : Below W6.heap.size W6 W) => (show (W.cell? ⟨ab, 0, none⟩ = some (.slice Ad a.divs.length cd) ∧ W.cell? ⟨ab, 1, none⟩ = some (.slice Ac a.cps.length cc) ∧ W.cell? ⟨ab, 2, none⟩ = some (.int .u64 a.drawn)) ∧ W.cell? ⟨tb, 0, none⟩ = some (.int .i64 t1) ∧ W.cell? ⟨tb, 1, none⟩ = some (.int .i64 t2) from
        ⟨HKE.out W (Bt HB6.out hb), (Bc hb TB.lt).trans (TB.cell 0), (Bc hb TB.lt).trans (TB.cell 1)⟩))
      rw [hW6, htb]
      clear hW6 htb TB x0 x1 x2
      obtain ⟨⟨x0, x1, x2⟩, x3, x4⟩ := HKT.out W6 (B0 W6)
      go_wp2_with (first
        | (go_at_call 14; (with_reducible refine ((HFO.out _ HB6.out).mono ?_)); rintro e w7 ⟨v7, rfl, hs7, hb7⟩; (have hvs : ∃ A7 c7, v7 = .slice A7 0 c7 := by obtain ⟨A7, c7, h, _⟩ := id hs7; exact ⟨A7, c7, h⟩); obtain ⟨A7, c7, rfl⟩ := hvs; have HB7 := Lib.hid hb7; clear x0 x1 x2 x3 x4; obtain ⟨⟨x0, x1, x2⟩, x3, x4⟩ := HKT.out w7 hb7; clear hb7 hs7)
        | (go_at_call 15; (with_reducible refine ((HTX.out _ (Bt HB6.out HB7.out)).mono ?_)); rintro e w8 ⟨rfl, hb8⟩; have HB8 := Lib.hid (Bt HB7.out hb8); clear x0 x1 x2 x3 x4; obtain ⟨⟨x0, x1, x2⟩, x3, x4⟩ := HKT.out w8 HB8.out; clear hb8)
        | (go_at_call 16; (with_reducible refine ((HLF.out _ (Bt HB6.out HB8.out)).mono ?_)); rintro e w9 ⟨v9, rfl, hs9, hb9⟩; (have hvs : ∃ A9 c9, v9 = .slice A9 0 c9 := by obtain ⟨A9, c9, h, _⟩ := id hs9; exact ⟨A9, c9, h⟩); obtain ⟨A9, c9, rfl⟩ := hvs; have HB9 := Lib.hid (Bt HB8.out hb9); clear hb9 hs9 x0 x1 x2 x3 x4))
      go_ret
      exact ⟨by simp, Bt HB4.out (Bt HB6.out HB9.out)⟩
end Go.Proofs.YtahlfndlkfoikaaDoor
