/- The statement of sources, walked. -/
import Derived.Test.YtahlfndlkfoikaaDoorGd
import Derived.Test.YtahlfndlkfoikaaDoorGc
import Derived.Test.YtahlfndlkfoikaaDoorGa
namespace Go.Proofs.YtahlfndlkfoikaaDoor
open Go Go.RowKit Go.Shelf
set_option maxRecDepth 100000 in
set_option maxHeartbeats 8000000 in
theorem law_sources (p : Cou.Pl) (hp : PlOk p) (vl : Value) (key : Nat) (hkey : key < 256) (w : World) (F : Nat → Prop) (hF : ∀ b, F b → b < w.heap.size) (hl : SlLk F w vl p.links) (hW : WOk w) :
    Calls Tryd.prog 6 #[.agg (plCells p vl), .int .u8 (key : Int)] w fun e w' => e = .returned (.bool true) ∧ Below w.heap.size w w' := by
  have HTT := Lib.hid hW
  have HK := Lib.hid (fun W (hb : Below w.heap.size w W) => (hW.below hb).known)
  have HM := Lib.hid (fun W (hb : Below w.heap.size w W) => make_any p hp vl W F (fun b h => Nat.lt_of_lt_of_le (hF b h) hb.size) (Sl.keep hl (Agree.below hb hF) fun _ _ h => h))
  obtain ⟨Al, al, hvl, _, hll, _⟩ := id hl
  have hok : Cou.Ok (Cou.makeF p) := Cou.right_ok (Cou.make_right hp.len)
  have hrt : Cou.rightF (Cou.makeF p) = 0 := Cou.make_right hp.len
  have hcl4 : (Cou.makeF p).cps.length ≤ 4 := makeF_cps
  have hdr := makeF_drawn hp
  have hsm := (makeF_divs (p := p)).1
  have hd3 := (makeF_divs (p := p)).2
  have hn1 := makeF_pos hp.len
  subst hvl
  unfold plCells at *
  obtain ⟨ll, hll9⟩ : ∃ ll, p.links.length = ll := ⟨_, rfl⟩
  rw [hll9] at hll HM ⊢
  generalize ((p.dv.getD 0 (0, 0)).1 : Int) = d0 at *
  generalize ((p.dv.getD 0 (0, 0)).2 : Int) = d1 at *
  generalize ((p.dv.getD 1 (0, 0)).1 : Int) = d2 at *
  generalize ((p.dv.getD 1 (0, 0)).2 : Int) = d3 at *
  generalize ((p.dv.getD 2 (0, 0)).1 : Int) = d4 at *
  generalize ((p.dv.getD 2 (0, 0)).2 : Int) = d5 at *
  generalize (p.more : Int) = mo at *
  generalize (p.drawn : Int) = dr at *
  generalize Cou.makeF p = a at *
  try dsimp only
  clear hl hll9 hp
  obtain ⟨w1, hw1⟩ : ∃ w1 : World, (w.alloc (.cells #[.int .u8 d0, .int .u8 d1, .int .u8 d2, .int .u8 d3, .int .u8 d4, .int .u8 d5, .int .u8 mo, .slice Al ll al, .int .u8 dr] 26)) = w1 := ⟨_, rfl⟩
  obtain ⟨pb, hpb⟩ : ∃ pb, w.heap.size = pb := ⟨_, rfl⟩
  have PB : Blk w1 pb 26 #[.int .u8 d0, .int .u8 d1, .int .u8 d2, .int .u8 d3, .int .u8 d4, .int .u8 d5, .int .u8 mo, .slice Al ll al, .int .u8 dr] := by
    rw [← hw1, ← hpb]; exact Blk.new w _ _
  have B1 : Below w.heap.size w w1 := by rw [← hw1]; exact Ba (B0 w) _
  have HPB := Lib.hid PB
  have HB1 := Lib.hid B1
  have HW1 := Lib.hid hw1
  have HPP := Lib.hid hpb
  clear PB  B1 hw1 hpb hW
  go_enter Tryd.func6, Tryd.ntmps6
  go_upto_region 1 with fail
  rw [HW1.out, HPP.out]
  by_cases h4 : 4 < ll
  · have d4' : decide ((4 : Int) < ll) = true := decide_eq_true (by omega)
    go_wp2_with (first
      | (go_at_call 11; (with_reducible refine ((HK.out _ HB2.out).mono ?_)); rintro e w3 ⟨rfl, hb3⟩; have HB3 := Lib.hid (Bt HB2.out hb3); clear hb3)
      | (go_at_call 11; (with_reducible refine ((HK.out _ HB1.out).mono ?_)); rintro e w2 ⟨rfl, hb2⟩; have HB2 := Lib.hid (Bt HB1.out hb2); have k7 := (HPB.out.below hb2 HPB.out.lt).cell 7; simp only [List.getElem?_toArray, List.getElem?_cons_zero, List.getElem?_cons_succ] at k7; clear hb2))
    go_ret
    exact ⟨rfl, HB3.out⟩
  · have d4' : decide ((4 : Int) < ll) = false := decide_eq_false (by omega)
    go_upto_region 3 with (go_at_call 11; (with_reducible refine ((HK.out _ HB1.out).mono ?_)); rintro e w2 ⟨rfl, hb2⟩; have HB2 := Lib.hid (Bt HB1.out hb2); have HP2 := Lib.hid (HPB.out.below hb2 HPB.out.lt);  have k7 := HP2.out.cell 7; simp only [List.getElem?_toArray, List.getElem?_cons_zero, List.getElem?_cons_succ] at k7; clear hb2)
    have k0 := HP2.out.cell 0
    have k1 := HP2.out.cell 1
    have k2 := HP2.out.cell 2
    have k3 := HP2.out.cell 3
    have k4 := HP2.out.cell 4
    have k5 := HP2.out.cell 5
    have k6 := HP2.out.cell 6
    have k8 := HP2.out.cell 8
    simp only [List.getElem?_toArray, List.getElem?_cons_zero, List.getElem?_cons_succ] at k0 k1 k2 k3 k4 k5 k6 k8
    go_upto_region 4 with (go_at_call 12; (with_reducible refine ((HM.out _ HB2.out).mono ?_)); rintro e w3 ⟨vd, vc, rfl, hA3, hb3⟩; obtain ⟨Ad, cd, rfl, _, _⟩ := id hA3.dv.open; obtain ⟨Ac, cc, rfl, _, _⟩ := id hA3.cp.open; have HA3 := Lib.hid hA3; have HB3 := Lib.hid (Bt HB2.out hb3);  clear hb3 hA3)
    obtain ⟨W4, hW4⟩ : ∃ W4 : World, w3.alloc (.cells #[.slice Ad a.divs.length cd, .slice Ac a.cps.length cc, .int .u64 a.drawn] 33) = W4 := ⟨_, rfl⟩
    obtain ⟨ab, hab⟩ : ∃ ab, w3.heap.size = ab := ⟨_, rfl⟩
    have AB : Blk W4 ab 33 #[.slice Ad a.divs.length cd, .slice Ac a.cps.length cc, .int .u64 a.drawn] := by rw [← hW4, ← hab]; exact Blk.new _ _ _
    have B4 : Below w3.heap.size w3 W4 := by rw [← hW4]; exact Ba (B0 w3) _
    have A4 := HA3.out.on B4
    rw [hW4, hab]
    have hB04 := Bt HB3.out B4
    have HKE := Lib.hid (fun W (hb : Below W4.heap.size W4 W) => (show W.cell? ⟨ab, 0, none⟩ = some (.slice Ad a.divs.length cd) ∧ W.cell? ⟨ab, 1, none⟩ = some (.slice Ac a.cps.length cc) ∧ W.cell? ⟨ab, 2, none⟩ = some (.int .u64 a.drawn) from ⟨(Bc hb AB.lt).trans (AB.cell 0), (Bc hb AB.lt).trans (AB.cell 1), (Bc hb AB.lt).trans (AB.cell 2)⟩))
    have HTW := Lib.hid (fun W (hb : Below W4.heap.size W4 W) => HTT.out.below (Bt hB04 hb))
    have HAW := Lib.hid (fun W (hb : Below W4.heap.size W4 W) => A4.on hb)
    have HB4 := Lib.hid hB04
    have HOK := Lib.hid hok
    have HRT := Lib.hid hrt
    have HSM := Lib.hid hsm
    have HAB := Lib.hid AB
    clear AB B4 A4  hW4 hab hB04 hok hrt hsm HA3 HB3  HP2  HPB  HK HM HTT k0 k1 k2 k3 k4 k5 k6 k7 k8
    obtain ⟨x0, x1, x2⟩ := HKE.out W4 (B0 W4)
    obtain ⟨con, hcon⟩ : ∃ con, Cha.startF a key = con := ⟨_, rfl⟩
    have hin : Cou.InA a con := by rw [← hcon]; exact Cha.start_in HOK.out hn1 key
    have hST := start_any a HOK.out hn1 _ _ key hkey a.drawn W4 _ (HAW.out W4 (B0 W4))
    rw [hcon] at hST
    obtain ⟨t1, t2⟩ := con
    have HST := Lib.hid hST
    have hbe : Cha.beginF a [(t1, t2)] = 0 := by unfold Cha.beginF Cha.wrongsF Cha.wrongsF; rw [if_pos HRT.out, if_pos (Cha.wrong_in hin)]
    have hb9 : Cha.beginF a [(9, 0)] = 10 := by
      have hw9 : Cou.wrongF a (9, 0) = 10 := by unfold Cou.wrongF; rw [if_pos (Or.inr (by show (a.divs.length : Int) ≤ 9; omega))]
      unfold Cha.beginF Cha.wrongsF
      rw [if_pos HRT.out, hw9]
      rfl
    have hsf : Cha.srcF a (t1, t2) = (Cha.conF 0 a.divs).filter (Cha.hopB a (t1, t2)) := by unfold Cha.srcF; rw [if_pos hbe]
    have hll : ((Cha.conF 0 a.divs).filter (Cha.hopB a (t1, t2))).length ≤ 1024 := by
      have h1 := Cha.conF_len (d := 0) HOK.out.div
      have h2 := List.length_filter_le (Cha.hopB a (t1, t2)) (Cha.conF 0 a.divs)
      omega
    have hSO := fun W (hb : Below W4.heap.size W4 W) => Sources_any a (.slice Ad a.divs.length cd) (.slice Ac a.cps.length cc) hdr (t1, t2) W _ (HAW.out W hb) (HTW.out W hb).tab (HTW.out W hb).g
    rw [hbe, hsf] at hSO
    have HSO := Lib.hid hSO
    have hS9 := fun W (hb : Below W4.heap.size W4 W) => Sources_any a (.slice Ad a.divs.length cd) (.slice Ac a.cps.length cc) hdr (9, 0) W _ (HAW.out W hb) (HTW.out W hb).tab (HTW.out W hb).g
    rw [hb9] at hS9
    have HS9 := Lib.hid hS9
    have HRE := Lib.hid (fun W (hb : Below W4.heap.size W4 W) (k1 k2 : Int) (hk : Cou.InA a (k1, k2)) (b : Bool) (hv : Cha.hopB a (t1, t2) (k1, k2) = b) => show Calls Tryd.prog 25 #[.agg #[.slice Ad a.divs.length cd, .slice Ac a.cps.length cc, .int .u64 a.drawn], .agg #[.int .i64 k1, .int .i64 k2]] W fun e w' => ∃ v l, e = .returned (.tuple #[v, .int .i64 0]) ∧ SlCt (fun b => b < w'.heap.size) w' v l ∧ decide ((t1, t2) ∈ l) = b ∧ Below W.heap.size W w' from by
      have he : reachErr a (k1, k2) = 0 := by unfold reachErr; rw [if_pos HRT.out]; exact Cha.wrong_in hk
      have h := Reach_any a (.slice Ad a.divs.length cd) (.slice Ac a.cps.length cc) hdr (k1, k2) W _ (HAW.out W hb) (HTW.out W hb).tab (HTW.out W hb).g
      rw [he] at h
      refine h.mono ?_
      rintro e w' ⟨v, l, rfl, q1, -, q3, q4⟩
      refine ⟨v, l, rfl, SlCt.bnd3 q1, ?_, q4⟩
      rw [← hv, Bool.eq_iff_iff, decide_eq_true_eq, (q3 rfl).2, Cha.hopB_iff])
    have hDW : ∀ i (hi : i < a.divs.length), ∃ ad, Ad = some ad ∧ ∀ W, Below W4.heap.size W4 W → W.cell? (ad.add (i * 2)) = some (.int .i64 a.divs[i].1) ∧ W.cell? ⟨(ad.add (i * 2)).block, (ad.add (i * 2)).off + 1, none⟩ = some (.int .i64 a.divs[i].2) := fun i hi => by
      obtain ⟨A, c, e, _, hat⟩ := (HAW.out W4 (B0 _)).dv.open
      injection e with e1 e2 e3
      subst e1
      obtain ⟨ad, h1, h2, h3⟩ := hat i hi
      have l1 : (ad.add (i * 2)).block < W4.heap.size := by rw [block_of_add]; exact (HAW.out W4 (B0 _)).inW _ h2
      exact ⟨ad, h1, fun W hb => ⟨(h3.below hb l1).f0 rfl, (h3.below hb l1).f1 rfl⟩⟩
    have HDW := Lib.hid hDW
    have hnd8 : a.divs.length ≤ 8 := HOK.out.nd
    have hndI : (a.divs.length : Int) ≤ 8 := by omega
    obtain ⟨l, hl⟩ : ∃ l, (Cha.conF 0 a.divs).filter (Cha.hopB a (t1, t2)) = l := ⟨_, rfl⟩
    rw [hl] at HSO hll
    have HL := Lib.hid hl
    have HDV := Lib.hid HOK.out.div
    clear hDW HAW HTW hST hcon hin hbe hb9 hsf hSO hS9 hl HSM
    go_upto_region 5 with (go_at_call 13; (with_reducible refine (HST.out.mono ?_)); rintro e w5 ⟨rfl, hb5⟩; have HB5 := Lib.hid hb5; clear hb5)
    obtain ⟨W6, hW6⟩ : ∃ W6 : World, w5.alloc (.cells #[.int .i64 t1, .int .i64 t2] 36) = W6 := ⟨_, rfl⟩
    obtain ⟨tb, htb⟩ : ∃ tb, w5.heap.size = tb := ⟨_, rfl⟩
    have TB : Blk W6 tb 36 #[.int .i64 t1, .int .i64 t2] := by rw [← hW6, ← htb]; exact Blk.new _ _ _
    have HB6 : Hid (Below W4.heap.size W4 W6) := Lib.hid (by rw [← hW6]; exact Ba HB5.out _)
    have HKT := Lib.hid (fun W (hb : Below W6.heap.size W6 W) => (show (W.cell? ⟨ab, 0, none⟩ = some (.slice Ad a.divs.length cd) ∧ W.cell? ⟨ab, 1, none⟩ = some (.slice Ac a.cps.length cc) ∧ W.cell? ⟨ab, 2, none⟩ = some (.int .u64 a.drawn)) ∧ W.cell? ⟨tb, 0, none⟩ = some (.int .i64 t1) ∧ W.cell? ⟨tb, 1, none⟩ = some (.int .i64 t2) from
      ⟨HKE.out W (Bt HB6.out hb), (Bc hb TB.lt).trans (TB.cell 0), (Bc hb TB.lt).trans (TB.cell 1)⟩))
    rw [hW6, htb]
    clear hW6 htb TB x0 x1 x2
    obtain ⟨⟨x0, x1, x2⟩, x3, x4⟩ := HKT.out W6 (B0 W6)
    go_upto_region 6 with (go_at_call 24; (with_reducible refine ((HSO.out _ HB6.out).mono ?_)); rintro e w7 ⟨v7, rfl, ho7, hb7⟩; have hs7 := SlCt.bnd3 (OwnL.sl (F := fun _ => True) ho7 (by omega) fun _ _ _ _ => trivial); obtain ⟨A7, c7, rfl, -, -, -⟩ := hs7.open; have HS7 := Lib.hid hs7; have HB7 := Lib.hid hb7; clear x0 x1 x2 x3 x4; obtain ⟨⟨x0, x1, x2⟩, x3, x4⟩ := HKT.out w7 hb7; clear hb7 hs7 ho7)
    go_upto_region 9 with (go_at_call 24; (with_reducible refine ((HS9.out _ (Bt HB6.out HB7.out)).mono ?_)); rintro e w8 ⟨v8, rfl, -, hb8⟩; have HB8 := Lib.hid (Bt HB7.out hb8); have HS8 := Lib.hid (slCt_on1 HS7.out hb8); clear hb8)
    clear x0 x1 x2 x3 x4
    obtain ⟨A8, c8, e8, -, hlm, hat⟩ := HS8.out.open
    injection e8 with e1 e2 e3
    subst e1 e3
    have HAT := Lib.hid hat
    clear hat HS7 HST HSO HS9 e2
    go_wp2_with fail
    go_loopg [11, 12] a.divs.length (fun gg s11 s12 wr => ∃ q d : Nat, d ≤ a.divs.length ∧ a.divs.length - d ≤ gg ∧ q ≤ l.length ∧ s11 = .int .i64 q ∧ s12 = .int .i64 d ∧ Aside (l.drop q = (Cha.conF d (a.divs.drop d)).filter (Cha.hopB a (t1, t2))) ∧ Aside (Below w8.heap.size w8 wr))
    case atStart => exact ⟨0, 0, by omega, by omega, by omega, rfl, rfl, (show Aside _ from by show _ = _; rw [List.drop_zero, List.drop_zero, HL.out]), B0 w8⟩
    case round =>
      obtain ⟨q, d, hd, hg, hq, rfl, rfl, HE, HB⟩ := hrel
      replace HE := Lib.hid HE
      replace HB := Lib.hid HB
      obtain ⟨⟨x0, x1, x2⟩, x3, x4⟩ := HKT.out wr (Bt HB8.out HB.out)
      by_cases hlt : d < a.divs.length
      · have hdI : (d : Int) < a.divs.length := by omega
        have hkd : decide ((d : Int) < a.divs.length) = true := decide_eq_true hdI
        obtain ⟨ad, rfl, hfl⟩ := HDW.out d hlt
        have HFL := Lib.hid hfl
        obtain ⟨f0, f1⟩ := hfl wr (Bt HB6.out (Bt HB8.out HB.out))
        have hdk := HDV.out a.divs[d] (List.getElem_mem hlt)
        have hE2 : l.drop q = (Cha.keyF d a.divs[d].1 (a.divs[d].2 + 1 - a.divs[d].1).toNat).filter (Cha.hopB a (t1, t2)) ++ (Cha.conF (d + 1) (a.divs.drop (d + 1))).filter (Cha.hopB a (t1, t2)) := by
          rw [HE.out, List.drop_eq_getElem_cons hlt, Cha.conF, List.filter_append]
        have HIN : Hid (∀ m : Int, a.divs[d].1 ≤ m → m ≤ a.divs[d].2 → Cou.InA a ((d : Int), m)) := Lib.hid fun m h1 h2 => by
          refine ⟨by show 0 ≤ (d : Int); omega, hdI, ?_⟩
          show Cou.inB (a.divs.getD (d : Int).toNat (0, -1)) m = true
          rw [Int.toNat_natCast, List.getD_eq_getElem?_getD, List.getElem?_eq_getElem hlt]
          unfold Cou.inB
          simp only [Option.getD_some, Bool.and_eq_true, decide_eq_true_eq]
          exact ⟨h1, h2⟩
        clear hfl HE
        generalize a.divs[d] = x at *
        obtain ⟨lo, hi⟩ := x
        dsimp only at f0 f1 hdk hE2 HIN HFL
        obtain ⟨n, hn⟩ : ∃ n, (hi + 1 - lo).toNat = n := ⟨_, rfl⟩
        rw [hn] at hE2
        have hn1' : lo + (n : Int) = hi + 1 := by omega
        have hn2 : n ≤ 128 := by omega
        have HEx := Lib.hid hE2
        clear hE2 hn
        go_wp2_with fail
        clear x0 x1 x2 x3 x4 f0 f1
        go_loopg [11, 13] n (fun gg s11 s13 wr2 => ∃ q j : Nat, j ≤ n ∧ n - j ≤ gg ∧ q ≤ l.length ∧ s11 = .int .i64 q ∧ s13 = .int .i64 (lo + j) ∧ Aside (l.drop q = (Cha.keyF d (lo + j) (n - j)).filter (Cha.hopB a (t1, t2)) ++ (Cha.conF (d + 1) (a.divs.drop (d + 1))).filter (Cha.hopB a (t1, t2))) ∧ Aside (Below w8.heap.size w8 wr2))
        case atStart => exact ⟨q, 0, by omega, by omega, by omega, rfl, by simp, (show Aside _ from by show _ = _; simpa using HEx.out), HB.out⟩
        case round =>
          clear HEx HB hq
          obtain ⟨q, j, hj, hg2, hq, rfl, rfl, HE2, HB2⟩ := hrel
          replace HE2 := Lib.hid HE2
          replace HB2 := Lib.hid HB2
          obtain ⟨⟨x0, x1, x2⟩, -, -⟩ := HKT.out wr (Bt HB8.out HB2.out)
          obtain ⟨f0, f1⟩ := HFL.out wr (Bt HB6.out (Bt HB8.out HB2.out))
          by_cases hjl : j < n
          · have hkj : decide (lo + (j : Int) ≤ hi) = true := decide_eq_true (by omega)
            have hin := HIN.out (lo + (j : Int)) (by omega) (by omega)
            have he2 := HE2.out
            rw [show n - j = (n - (j + 1)) + 1 by omega, Cha.keyF, List.filter_cons, show lo + (j : Int) + 1 = lo + ((j + 1 : Nat) : Int) by omega] at he2
            cases hv : Cha.hopB a (t1, t2) ((d : Int), lo + (j : Int)) with
            | false =>
              have HR := Lib.hid (HRE.out wr (Bt HB6.out (Bt HB8.out HB2.out)) _ _ hin false hv)
              rw [hv, if_neg (by decide)] at he2
              have HE3 := Lib.hid he2
              clear hv he2 HE2 hin
              go_wp2_with (first
                | (go_at_call 25; (with_reducible refine (HR.out.mono ?_)); rintro e wa ⟨va, la, rfl, hsa, hqa, hba⟩; have HSA := Lib.hid hsa; have HQA := Lib.hid hqa; have HBA := Lib.hid (Bt HB2.out hba); obtain ⟨-, x3, x4⟩ := HKT.out wa (Bt HB8.out HBA.out); clear hsa hqa hba)
                | (go_at_call 26; (with_reducible refine ((has_any va la (t1, t2) wa _ (fun _ h => h) HSA.out).mono ?_)); rintro e wb ⟨rfl, hbb⟩; rw [HQA.out]; have HBB := Lib.hid (Bt HBA.out hbb); clear hbb))
              go_roundg (n - (j + 1))
              case measure => omega
              case rel => exact ⟨q, j + 1, by omega, by omega, hq, rfl, by go_num, HE3.out, HBB.out⟩
            | true =>
              have HR := Lib.hid (HRE.out wr (Bt HB6.out (Bt HB8.out HB2.out)) _ _ hin true hv)
              rw [hv, if_pos rfl, List.cons_append] at he2
              have hql : q < l.length := by
                rcases Nat.lt_or_ge q l.length with h | h
                · exact h
                · rw [List.drop_eq_nil_of_le h] at he2; cases he2
              have hqI : (q : Int) < l.length := by omega
              have hge : decide ((l.length : Int) ≤ q) = false := decide_eq_false (by omega)
              have hlq : l[q] = ((d : Int), lo + (j : Int)) := by
                rw [List.drop_eq_getElem_cons hql] at he2
                injection he2
              have he3 : l.drop (q + 1) = (Cha.keyF d (lo + ((j + 1 : Nat) : Int)) (n - (j + 1))).filter (Cha.hopB a (t1, t2)) ++ (Cha.conF (d + 1) (a.divs.drop (d + 1))).filter (Cha.hopB a (t1, t2)) := by
                rw [List.drop_eq_getElem_cons hql] at he2
                injection he2
              have HE3 := Lib.hid he3
              obtain ⟨ad7, rfl, hf7, hfl7⟩ := HAT.out q hql
              rw [hlq] at hfl7
              dsimp only at hfl7
              have hf77 : (ad7.add (q * 2)).block < w8.heap.size := by rw [block_of_add]; exact hf7
              have HF7 := Lib.hid (fun W (hb : Below w8.heap.size w8 W) => (show W.cell? (ad7.add (q * 2)) = some (.int .i64 (d : Int)) ∧ W.cell? ⟨(ad7.add (q * 2)).block, (ad7.add (q * 2)).off + 1, none⟩ = some (.int .i64 (lo + (j : Int))) from ⟨(hfl7.below hb hf77).f0 rfl, (hfl7.below hb hf77).f1 rfl⟩))
              clear hv he2 he3 HE2 hin hlq hfl7 hf7 hf77
              go_upto_region 20 with (first
                | (go_at_call 25; (with_reducible refine (HR.out.mono ?_)); rintro e wa ⟨va, la, rfl, hsa, hqa, hba⟩; have HSA := Lib.hid hsa; have HQA := Lib.hid hqa; have HBA := Lib.hid (Bt HB2.out hba); obtain ⟨-, x3, x4⟩ := HKT.out wa (Bt HB8.out HBA.out); clear hsa hqa hba)
                | (go_at_call 26; (with_reducible refine ((has_any va la (t1, t2) wa _ (fun _ h => h) HSA.out).mono ?_)); rintro e wb ⟨rfl, hbb⟩; rw [HQA.out]; have HBB := Lib.hid (Bt HBA.out hbb); clear hbb))
              clear x0 x1 x2 x3 x4 f0 f1
              obtain ⟨y0, y1⟩ := HF7.out wb HBB.out
              go_wp2_with fail
              go_roundg (n - (j + 1))
              case measure => omega
              case rel => exact ⟨q + 1, j + 1, by omega, by omega, by omega, by go_num, by go_num, HE3.out, HBB.out⟩
          · have hkj : decide (lo + (j : Int) ≤ hi) = false := decide_eq_false (by omega)
            obtain rfl : j = n := by omega
            have he3 : l.drop q = (Cha.conF (d + 1) (a.divs.drop (d + 1))).filter (Cha.hopB a (t1, t2)) := by rw [HE2.out, Nat.sub_self]; simp [Cha.keyF]
            have H3 := Lib.hid he3
            clear HE2 he3 HIN
            go_wp2_with fail
            go_roundg (a.divs.length - (d + 1))
            case measure => omega
            case rel => exact ⟨q, d + 1, by omega, by omega, hq, rfl, by go_num, H3.out, HB2.out⟩
      · have hkd : decide ((d : Int) < a.divs.length) = false := decide_eq_false (by omega)
        obtain rfl : d = a.divs.length := by omega
        have hql : q = l.length := by
          have h := HE.out
          rw [List.drop_length] at h
          simp only [Cha.conF, List.filter_nil] at h
          have := List.drop_eq_nil_iff.1 h
          omega
        subst hql
        have hbe : (((l.length : Nat) : Int) == ((l.length : Nat) : Int)) = true := by simp
        clear HE HDV HDW
        go_wp2_with fail
        go_ret
        exact ⟨rfl, Bt HB4.out (Bt HB6.out (Bt HB8.out HB.out))⟩
end Go.Proofs.YtahlfndlkfoikaaDoor
