/- Walks over coupler's statements: wrong, step. Walks over coupler's statements: step. -/
import Derived.Test.YtnkjhppjjklgfaaDoorKr
namespace Go.Proofs.YtnkjhppjjklgfaaDoor
open Go Go.RowKit Go.Shelf
set_option maxRecDepth 100000 in
set_option maxHeartbeats 2000000 in
theorem wrong_any (a : Cou.Ac) (vd vc : Value) (c : Cou.Ct) (dr : Int) (w : World) (F : Nat → Prop) (hA : AcAt F w vd vc a) :
    Calls Tryd.prog 14 #[.agg #[vd, vc, .int .u64 dr], .agg #[.int .i64 c.1, .int .i64 c.2]] w fun e w' => e = .returned (.int .i64 (Cou.wrongF a c)) ∧ Below w.heap.size w w' := by
  obtain ⟨Ad, cd, rfl, _, had⟩ := hA.dv.open
  have hFF := hA.inW
  obtain ⟨c1, c2⟩ := c
  by_cases h1 : c1 < 0
  · have HZ : Hid (Cou.wrongF a (c1, c2) = 10) := Lib.hid (by unfold Cou.wrongF; rw [if_pos (.inl h1)])
    have d1 : decide (c1 < 0) = true := decide_eq_true h1
    clear hA had h1
    dsimp only
    go_enter Tryd.func14, Tryd.ntmps14
    go_wp2
    go_ret
    exact ⟨by rw [HZ.out]; rfl, Ba (Ba (B0 w) _) _⟩
  · have d1 : decide (c1 < 0) = false := decide_eq_false h1
    by_cases h2 : (a.divs.length : Int) ≤ c1
    · have HZ : Hid (Cou.wrongF a (c1, c2) = 10) := Lib.hid (by unfold Cou.wrongF; rw [if_pos (.inr h2)])
      have d2 : decide ((a.divs.length : Int) ≤ c1) = true := decide_eq_true h2
      clear hA had h1 h2
      dsimp only
      generalize a.divs.length = dl at *
      go_enter Tryd.func14, Tryd.ntmps14
      go_wp2
      go_ret
      exact ⟨by rw [HZ.out]; rfl, Ba (Ba (B0 w) _) _⟩
    · have d2 : decide ((a.divs.length : Int) ≤ c1) = false := decide_eq_false h2
      obtain ⟨tn, rfl⟩ : ∃ tn : Nat, c1 = tn := ⟨c1.toNat, by omega⟩
      have htl : tn < a.divs.length := by omega
      obtain ⟨ad2, rfl, hf2, hfl2⟩ := had tn htl
      have hz : Cou.wrongF a (tn, c2) = bif Cou.inB (a.divs.getD tn (0, -1)) c2 then 0 else 23 := by
        unfold Cou.wrongF
        rw [if_neg (by dsimp only; omega)]
        simp only [Int.toNat_natCast]
      rw [List.getD_eq_getElem?_getD, List.getElem?_eq_getElem htl] at hz
      dsimp only [Option.getD] at hz
      have HZ := Lib.hid hz
      have hfb2 : (ad2.add (tn * 2)).block < w.heap.size := by rw [block_of_add]; exact hFF _ hf2
      clear hA had hz h1 h2
      generalize a.divs[tn] = y at *
      obtain ⟨lo, hi2⟩ := y
      have r0 := hfl2.f0 rfl
      have r1 := hfl2.f1 rfl
      have hn0 : (0 : Int) ≤ (tn : Int) := by omega
      have hn1 : (tn : Int) < a.divs.length := by omega
      clear hfl2
      generalize a.divs.length = dl at *
      dsimp only at HZ ⊢
      unfold Cou.inB at HZ
      obtain ⟨w1, hw1⟩ : ∃ w1 : World, (w.alloc (.cells #[.slice (some ad2) dl cd, vc, .int .u64 dr] 34)).alloc (.cells #[.int .i64 tn, .int .i64 c2] 28) = w1 := ⟨_, rfl⟩
      have e0 : w1.cell? ⟨w.heap.size, 0, none⟩ = some (.slice (some ad2) dl cd) := by rw [← hw1]; simp [go_sem]
      have g0 : w1.cell? ⟨w.heap.size + 1, 0, none⟩ = some (.int .i64 tn) := by rw [← hw1]; simp [go_sem]
      have g1 : w1.cell? ⟨w.heap.size + 1, 1, none⟩ = some (.int .i64 c2) := by rw [← hw1]; simp [go_sem]
      have hB1 : Below w.heap.size w w1 := by rw [← hw1]; exact Ba (Ba (B0 w) _) _
      replace r0 := (hB1.cell (p := ad2.add (tn * 2)) hfb2).trans r0
      replace r1 := (hB1.cell (p := ⟨(ad2.add (tn * 2)).block, (ad2.add (tn * 2)).off + 1, none⟩) hfb2).trans r1
      have HB1 := Lib.hid hB1
      clear hB1 hfb2
      by_cases h3 : c2 < lo
      · have d3 : decide (c2 < lo) = true := decide_eq_true h3
        rw [decide_eq_false (show ¬ lo ≤ c2 by omega), Bool.false_and, cond_false] at HZ
        clear h3
        go_enter Tryd.func14, Tryd.ntmps14
        go_upto_region 3 with fail
        go_region
        all_goals
          go_wp2
          go_ret
          exact ⟨by rw [HZ.out]; rfl, HB1.out.drew⟩
      · have d3 : decide (c2 < lo) = false := decide_eq_false h3
        rw [decide_eq_true (show lo ≤ c2 by omega), Bool.true_and] at HZ
        by_cases h4 : hi2 < c2
        · have d4 : decide (hi2 < c2) = true := decide_eq_true h4
          rw [decide_eq_false (show ¬ c2 ≤ hi2 by omega), cond_false] at HZ
          clear h3 h4
          go_enter Tryd.func14, Tryd.ntmps14
          go_upto_region 3 with fail
          go_region
          all_goals
            go_wp2
            go_ret
            exact ⟨by rw [HZ.out]; rfl, HB1.out.drew⟩
        · have d4 : decide (hi2 < c2) = false := decide_eq_false h4
          rw [decide_eq_true (show c2 ≤ hi2 by omega), cond_true] at HZ
          clear h3 h4
          go_enter Tryd.func14, Tryd.ntmps14
          go_upto_region 3 with fail
          go_region
          all_goals
            go_wp2
            go_ret
            exact ⟨by rw [HZ.out]; rfl, HB1.out.drew⟩
end Go.Proofs.YtnkjhppjjklgfaaDoor
namespace Go.Proofs.YtnkjhppjjklgfaaDoor
open Go Go.RowKit Go.Shelf
theorem wrongF_to {a : Cou.Ac} {t n : Int} (h0 : 0 ≤ t) (h1 : t < a.divs.length) : Cou.wrongF a (t, n) = bif Cou.inB (a.divs.getD t.toNat (0, -1)) n then 0 else 23 := by
  unfold Cou.wrongF
  rw [if_neg (by simp only; omega)]
set_option maxRecDepth 100000 in
set_option maxHeartbeats 2000000 in
theorem lstep_any (a : Cou.Ac) (hok : Cou.Ok a) (vd vc : Value) (i : Nat) (hi : i < a.cps.length) (c : Cou.Ct) (hc : -1000 ≤ c.2 ∧ c.2 ≤ 1000) (dr : Int) (w : World) (F : Nat → Prop) (hA : AcAt F w vd vc a) :
    Calls Tryd.prog 18 #[.agg #[vd, vc, .int .u64 dr], .int .i64 i, .agg #[.int .i64 c.1, .int .i64 c.2]] w fun e w' => e = .returned (stepV (Cou.stepF a i c)) ∧ Below w.heap.size w w' := by
  obtain ⟨c1, c2⟩ := c
  dsimp only at hc
  have hF := hA.inW
  obtain ⟨w1, hw1⟩ : ∃ w1 : World, ((w.alloc (.cells #[vd, vc, .int .u64 dr] 34)).alloc (.cells #[.int .i64 c1, .int .i64 c2] 28)).alloc (.cells #[.int .i64 0, .int .i64 0] 28) = w1 := ⟨_, rfl⟩
  have x0 : w1.cell? ⟨w.heap.size, 0, none⟩ = some vd := by rw [← hw1]; simp [go_sem]
  have x1 : w1.cell? ⟨w.heap.size, 1, none⟩ = some vc := by rw [← hw1]; simp [go_sem]
  have x2 : w1.cell? ⟨w.heap.size, 2, none⟩ = some (.int .u64 dr) := by rw [← hw1]; simp [go_sem]
  have y0 : w1.cell? ⟨w.heap.size + 1, 0, none⟩ = some (.int .i64 c1) := by rw [← hw1]; simp [go_sem]
  have y1 : w1.cell? ⟨w.heap.size + 1, 1, none⟩ = some (.int .i64 c2) := by rw [← hw1]; simp [go_sem]
  have K1 : Hid (Blk w1 (w.heap.size + 1 + 1) 28 #[.int .i64 0, .int .i64 0]) := Lib.hid (by
    have := Blk.new ((w.alloc (.cells #[vd, vc, .int .u64 dr] 34)).alloc (.cells #[.int .i64 c1, .int .i64 c2] 28)) 28 #[.int .i64 0, .int .i64 0]
    rw [hw1] at this
    simpa using this)
  have B1 : Below w.heap.size w w1 := by rw [← hw1]; exact Ba (Ba (Ba (B0 w) _) _) _
  have lt1 : w.heap.size + 1 + 1 < w1.heap.size := by rw [← hw1]; simp
  have HWR := Lib.hid (fun t W (hb : Below w.heap.size w W) => wrong_any a vd vc t dr W F (hA.onB hF hb))
  obtain ⟨Ac, cc, hvc, hcc, hac⟩ := id hA.cp.open
  subst hvc
  obtain ⟨ad, rfl, hf, hfl⟩ := hac i hi
  have hfb : (ad.add (i * 5)).block < w.heap.size := by rw [block_of_add]; exact hF _ hf
  have hfl1 := hfl.below B1 hfb
  have q0 := hfl1.f0 rfl
  have q1 := hfl1.f1 rfl
  have q2 := hfl1.f2 rfl
  have q3 := hfl1.f3 rfl
  have q4 := hfl1.f4 rfl
  have hx := hok.cp a.cps[i] (List.getElem_mem hi)
  have hz : Cou.stepF a i (c1, c2) = if a.cps[i].from_ = c1 ∧ Cou.inB (a.divs.getD a.cps[i].to.toNat (0, -1)) (c2 + a.cps[i].shift) = true then some (a.cps[i].to, c2 + a.cps[i].shift) else none := by
    unfold Cou.stepF; rw [List.getElem?_eq_getElem hi]
  have hiI : (i : Int) < a.cps.length := by omega
  have hwt : Cou.wrongF a (a.cps[i].to, c2 + a.cps[i].shift) = bif Cou.inB (a.divs.getD a.cps[i].to.toNat (0, -1)) (c2 + a.cps[i].shift) then 0 else 23 := wrongF_to hx.2.2.1 hx.2.2.2.1
  have HW := Lib.hid (HWR.out (a.cps[i].to, c2 + a.cps[i].shift))
  have hsh : -127 ≤ a.cps[i].shift ∧ a.cps[i].shift ≤ 127 := ⟨hx.2.2.2.2.1, hx.2.2.2.2.2⟩
  clear hac hfl hfl1 hA HWR hx
  generalize a.cps[i] = x at *
  obtain ⟨name, frm, to_, sh, th⟩ := x
  dsimp only at q0 q1 q2 q3 q4 hz hwt HW hsh
  have HZ := Lib.hid hz
  have HWT := Lib.hid hwt
  have HB1 := Lib.hid B1
  clear hz hwt B1
  generalize a.cps.length = cl at *
  go_enter Tryd.func18, Tryd.ntmps18
  go_upto_region 2 with fail
  obtain ⟨w2, hw2⟩ : ∃ w2 : World, w1.alloc (.cells #[.string name, .int .i64 frm, .int .i64 to_, .int .i64 sh, .bool th] 72) = w2 := ⟨_, rfl⟩
  obtain ⟨bx, hbx⟩ : ∃ bx, w1.heap.size = bx := ⟨_, rfl⟩
  have hb12 : Below w1.heap.size w1 w2 := by rw [← hw2]; exact Ba (B0 w1) _
  have z1 : w2.cell? ⟨bx, 1, none⟩ = some (.int .i64 frm) := by rw [← hw2, ← hbx]; simp [go_sem]
  have z2 : w2.cell? ⟨bx, 2, none⟩ = some (.int .i64 to_) := by rw [← hw2, ← hbx]; simp [go_sem]
  have z3 : w2.cell? ⟨bx, 3, none⟩ = some (.int .i64 sh) := by rw [← hw2, ← hbx]; simp [go_sem]
  have x0' := (Bc hb12 (show w.heap.size < _ by omega)).trans x0
  have x1' := (Bc hb12 (show w.heap.size < _ by omega)).trans x1
  have x2' := (Bc hb12 (show w.heap.size < _ by omega)).trans x2
  have y0' := (Bc hb12 (show w.heap.size + 1 < _ by omega)).trans y0
  have y1' := (Bc hb12 (show w.heap.size + 1 < _ by omega)).trans y1
  have K2 := Lib.hid (K1.out.below hb12 lt1)
  have HB2 := Lib.hid (Bt HB1.out hb12)
  have lt2 : w.heap.size + 1 + 1 < w2.heap.size := Nat.lt_of_lt_of_le lt1 hb12.size
  have fz := K2.out.frozen
  have k0 := K2.out.cell 0
  have k1 := K2.out.cell 1
  simp only [List.getElem?_toArray, List.getElem?_cons_zero, List.getElem?_cons_succ] at k0 k1
  rw [hw2, hbx]
  clear hw2 hbx hb12 x0 x1 x2 y0 y1 q0 q1 q2 q3 q4 K1 HB1 hw1
  by_cases hfc : frm = c1
  · have d1 : (frm != c1) = false := by simp [hfc]
    obtain ⟨w3, hw3⟩ : ∃ w3 : World, w2.alloc (.cells #[.int .i64 to_, .int .i64 (c2 + sh)] 28) = w3 := ⟨_, rfl⟩
    have hb23 : Below w2.heap.size w2 w3 := by rw [← hw3]; exact Ba (B0 w2) _
    have X0 := (Bc hb23 (show w.heap.size < _ by omega)).trans x0'
    have X1 := (Bc hb23 (show w.heap.size < _ by omega)).trans x1'
    have X2 := (Bc hb23 (show w.heap.size < _ by omega)).trans x2'
    have t0 : w3.cell? ⟨w2.heap.size, 0, none⟩ = some (.int .i64 to_) := by rw [← hw3]; simp [go_sem]
    have t1 : w3.cell? ⟨w2.heap.size, 1, none⟩ = some (.int .i64 (c2 + sh)) := by rw [← hw3]; simp [go_sem]
    have lt3 : w2.heap.size < w3.heap.size := by rw [← hw3]; simp
    have HB3 := Lib.hid (Bt HB2.out hb23)
    have K3 := Lib.hid (K2.out.below hb23 lt2)
    have lt4 : w.heap.size + 1 + 1 < w3.heap.size := by omega
    have hWW := HW.out w3 HB3.out
    rw [HWT.out] at hWW
    cases hin : Cou.inB (a.divs.getD to_.toNat (0, -1)) (c2 + sh) with
    | true =>
      have HE : Hid (Cou.stepF a i (c1, c2) = some (to_, c2 + sh)) := Lib.hid (by rw [HZ.out, if_pos ⟨hfc, hin⟩])
      rw [hin, cond_true] at hWW
      have HWW := Lib.hid hWW
      clear hWW hin hfc HW HWT HZ hb23
      go_wp2_with (go_at_call 14; (with_reducible refine (HWW.out.mono ?_)); rintro e w4 ⟨rfl, hb4⟩; have K4 := Lib.hid (K3.out.below hb4 lt4); have fz4 := K4.out.frozen; have k04 := K4.out.cell 0; have k14 := K4.out.cell 1; simp only [List.getElem?_toArray, List.getElem?_cons_zero, List.getElem?_cons_succ] at k04 k14; have t0' := (Bc hb4 lt3).trans t0; have t1' := (Bc hb4 lt3).trans t1; have HB4 := Lib.hid (Bt HB3.out hb4))
      refine bodyPost_ret (v := .tuple #[.agg #[.int .i64 to_, .int .i64 (c2 + sh)], .bool true]) ?_ rfl ?_
      · have KF := blk_two K4.out (.int .i64 to_) (.int .i64 (c2 + sh))
        have m0 := KF.cell 0
        have m1 := KF.cell 1
        simp only [List.getElem?_toArray, List.getElem?_cons_zero, List.getElem?_cons_succ] at m0 m1
        clear K2 K3 K4 HE HWW HB2 HB3 HB4
        simp [results, Tryd.f18, go_sem, m0, m1]
      · exact ⟨by rw [HE.out]; rfl, Bs (Bs HB4.out _ (by simp; omega)) _ (by simp; omega)⟩
    | false =>
      have HE : Hid (Cou.stepF a i (c1, c2) = none) := Lib.hid (by rw [HZ.out, if_neg (by rw [hin]; simp)])
      rw [hin, cond_false] at hWW
      have HWW := Lib.hid hWW
      clear hWW hin hfc HW HWT HZ hb23
      go_wp2_with (go_at_call 14; (with_reducible refine (HWW.out.mono ?_)); rintro e w4 ⟨rfl, hb4⟩; have K4 := Lib.hid (K3.out.below hb4 lt4); have fz4 := K4.out.frozen; have k04 := K4.out.cell 0; have k14 := K4.out.cell 1; simp only [List.getElem?_toArray, List.getElem?_cons_zero, List.getElem?_cons_succ] at k04 k14; have HB4 := Lib.hid (Bt HB3.out hb4))
      refine bodyPost_ret (v := .tuple #[.agg #[.int .i64 0, .int .i64 0], .bool false]) ?_ rfl ?_
      · have KF := blk_two K4.out (.int .i64 0) (.int .i64 0)
        have m0 := KF.cell 0
        have m1 := KF.cell 1
        simp only [List.getElem?_toArray, List.getElem?_cons_zero, List.getElem?_cons_succ] at m0 m1
        clear K2 K3 K4 HE HWW HB2 HB3 HB4
        simp [results, Tryd.f18, go_sem, m0, m1]
      · exact ⟨by rw [HE.out]; rfl, Bs (Bs HB4.out _ (by simp; omega)) _ (by simp; omega)⟩
  · have d1 : (frm != c1) = true := by simpa using hfc
    have HE : Hid (Cou.stepF a i (c1, c2) = none) := Lib.hid (by rw [HZ.out, if_neg (fun h => hfc h.1)])
    clear hfc HW HWT HZ
    go_wp2_with fail
    refine bodyPost_ret (v := .tuple #[.agg #[.int .i64 0, .int .i64 0], .bool false]) ?_ rfl ?_
    · have KF := blk_two K2.out (.int .i64 0) (.int .i64 0)
      have m0 := KF.cell 0
      have m1 := KF.cell 1
      simp only [List.getElem?_toArray, List.getElem?_cons_zero, List.getElem?_cons_succ] at m0 m1
      clear K2 HE HB2
      simp [results, Tryd.f18, go_sem, m0, m1]
    · exact ⟨by rw [HE.out]; rfl, Bs (Bs HB2.out _ (by simp; omega)) _ (by simp; omega)⟩
end Go.Proofs.YtnkjhppjjklgfaaDoor
