/- Walks over chain: contact. -/
import Derived.Test.YtahlfndlkfoikaaDoorKd
namespace Go.Proofs.YtahlfndlkfoikaaDoor
open Go Go.RowKit Go.Shelf
set_option maxRecDepth 100000 in
set_option maxHeartbeats 2000000 in
theorem ccontact_any (a : Cou.Ac) (vd vc : Value) (c : Cou.Ct) (dr : Int) (w : World) (F : Nat → Prop) (hA : AcAt F w vd vc a) :
    Calls Tryd.prog 60 #[.agg #[vd, vc, .int .u64 dr], .agg #[.int .i64 c.1, .int .i64 c.2]] w fun e w' => e = .returned (.int .i64 (Cou.wrongF a c)) ∧ Below w.heap.size w w' := by
  obtain ⟨Ad, cd, rfl, _, had⟩ := hA.dv.open
  have hFF := hA.inW
  obtain ⟨c1, c2⟩ := c
  by_cases h1 : c1 < 0
  · have HZ : Hid (Cou.wrongF a (c1, c2) = 10) := Lib.hid (by unfold Cou.wrongF; rw [if_pos (.inl h1)])
    have d1 : decide (c1 < 0) = true := decide_eq_true h1
    clear hA had h1
    dsimp only
    go_enter Tryd.func60, Tryd.ntmps60
    go_wp2
    go_ret
    exact ⟨by rw [HZ.out]; rfl, Ba (Ba (B0 w) _) _⟩
  · have d1 : decide (c1 < 0) = false := decide_eq_false h1
    by_cases h2 : (a.divs.length : Int) ≤ c1
    · have HZ : Hid (Cou.wrongF a (c1, c2) = 10) := Lib.hid (by unfold Cou.wrongF; rw [if_pos (.inr h2)])
      have d2 : decide ((a.divs.length : Int) ≤ c1) = true := decide_eq_true h2
      clear hA had h1 h2
      dsimp only
      generalize a.divs.length = dl at *
      go_enter Tryd.func60, Tryd.ntmps60
      go_wp2
      go_ret
      exact ⟨by rw [HZ.out]; rfl, Ba (Ba (B0 w) _) _⟩
    · have d2 : decide ((a.divs.length : Int) ≤ c1) = false := decide_eq_false h2
      obtain ⟨tn, rfl⟩ : ∃ tn : Nat, c1 = tn := ⟨c1.toNat, by omega⟩
      have htl : tn < a.divs.length := by omega
      obtain ⟨ad2, rfl, hf2, hfl2⟩ := had tn htl
      have hz : Cou.wrongF a (tn, c2) = bif Cou.inB (a.divs.getD tn (0, -1)) c2 then 0 else 23 := by
        unfold Cou.wrongF
        rw [if_neg (by dsimp only; omega)]
        simp only [Int.toNat_natCast]
      rw [List.getD_eq_getElem?_getD, List.getElem?_eq_getElem htl] at hz
      dsimp only [Option.getD] at hz
      have HZ := Lib.hid hz
      have hfb2 : (ad2.add (tn * 2)).block < w.heap.size := by rw [block_of_add]; exact hFF _ hf2
      clear hA had hz h1 h2
      generalize a.divs[tn] = y at *
      obtain ⟨lo, hi2⟩ := y
      have r0 := hfl2.f0 rfl
      have r1 := hfl2.f1 rfl
      have hn0 : (0 : Int) ≤ (tn : Int) := by omega
      have hn1 : (tn : Int) < a.divs.length := by omega
      clear hfl2
      generalize a.divs.length = dl at *
      dsimp only at HZ ⊢
      unfold Cou.inB at HZ
      obtain ⟨w1, hw1⟩ : ∃ w1 : World, (w.alloc (.cells #[.slice (some ad2) dl cd, vc, .int .u64 dr] 33)).alloc (.cells #[.int .i64 tn, .int .i64 c2] 36) = w1 := ⟨_, rfl⟩
      have e0 : w1.cell? ⟨w.heap.size, 0, none⟩ = some (.slice (some ad2) dl cd) := by rw [← hw1]; simp [go_sem]
      have g0 : w1.cell? ⟨w.heap.size + 1, 0, none⟩ = some (.int .i64 tn) := by rw [← hw1]; simp [go_sem]
      have g1 : w1.cell? ⟨w.heap.size + 1, 1, none⟩ = some (.int .i64 c2) := by rw [← hw1]; simp [go_sem]
      have hB1 : Below w.heap.size w w1 := by rw [← hw1]; exact Ba (Ba (B0 w) _) _
      replace r0 := (hB1.cell (p := ad2.add (tn * 2)) hfb2).trans r0
      replace r1 := (hB1.cell (p := ⟨(ad2.add (tn * 2)).block, (ad2.add (tn * 2)).off + 1, none⟩) hfb2).trans r1
      have HB1 := Lib.hid hB1
      clear hB1 hfb2
      by_cases h3 : c2 < lo
      · have d3 : decide (c2 < lo) = true := decide_eq_true h3
        rw [decide_eq_false (show ¬ lo ≤ c2 by omega), Bool.false_and, cond_false] at HZ
        clear h3
        go_enter Tryd.func60, Tryd.ntmps60
        go_upto_region 4 with fail
        obtain ⟨w2, hw2⟩ : ∃ w2 : World, w1.alloc (.cells #[.int .i64 lo, .int .i64 hi2] 62) = w2 := ⟨_, rfl⟩
        have K2 : Blk w2 w1.heap.size 62 #[.int .i64 lo, .int .i64 hi2] := by rw [← hw2]; exact Blk.new _ _ _
        have hb2 : Below w1.heap.size w1 w2 := by rw [← hw2]; exact Ba (B0 w1) _
        have hsz : w.heap.size + 1 < w1.heap.size := by rw [← hw1]; simp
        have g1' := (Bc hb2 hsz).trans g1
        have s0 := K2.cell 0
        have s1 := K2.cell 1
        simp only [List.getElem?_toArray, List.getElem?_cons_zero, List.getElem?_cons_succ] at s0 s1
        have HB2 := Lib.hid (Bt HB1.out hb2)
        try rw [hw1]
        try rw [hw2]
        clear hw1 hw2 hb2 K2 hsz g1 g0 e0 r0 r1
        go_wp2
        go_ret
        exact ⟨by rw [HZ.out]; rfl, HB2.out⟩
      · have d3 : decide (c2 < lo) = false := decide_eq_false h3
        rw [decide_eq_true (show lo ≤ c2 by omega), Bool.true_and] at HZ
        by_cases h4 : hi2 < c2
        · have d4 : decide (hi2 < c2) = true := decide_eq_true h4
          rw [decide_eq_false (show ¬ c2 ≤ hi2 by omega), cond_false] at HZ
          clear h3 h4
          go_enter Tryd.func60, Tryd.ntmps60
          go_upto_region 4 with fail
          obtain ⟨w2, hw2⟩ : ∃ w2 : World, w1.alloc (.cells #[.int .i64 lo, .int .i64 hi2] 62) = w2 := ⟨_, rfl⟩
          have K2 : Blk w2 w1.heap.size 62 #[.int .i64 lo, .int .i64 hi2] := by rw [← hw2]; exact Blk.new _ _ _
          have hb2 : Below w1.heap.size w1 w2 := by rw [← hw2]; exact Ba (B0 w1) _
          have hsz : w.heap.size + 1 < w1.heap.size := by rw [← hw1]; simp
          have g1' := (Bc hb2 hsz).trans g1
          have s0 := K2.cell 0
          have s1 := K2.cell 1
          simp only [List.getElem?_toArray, List.getElem?_cons_zero, List.getElem?_cons_succ] at s0 s1
          have HB2 := Lib.hid (Bt HB1.out hb2)
          try rw [hw1]
          try rw [hw2]
          clear hw1 hw2 hb2 K2 hsz g1 g0 e0 r0 r1
          go_wp2
          go_ret
          exact ⟨by rw [HZ.out]; rfl, HB2.out⟩
        · have d4 : decide (hi2 < c2) = false := decide_eq_false h4
          rw [decide_eq_true (show c2 ≤ hi2 by omega), cond_true] at HZ
          clear h3 h4
          go_enter Tryd.func60, Tryd.ntmps60
          go_upto_region 4 with fail
          obtain ⟨w2, hw2⟩ : ∃ w2 : World, w1.alloc (.cells #[.int .i64 lo, .int .i64 hi2] 62) = w2 := ⟨_, rfl⟩
          have K2 : Blk w2 w1.heap.size 62 #[.int .i64 lo, .int .i64 hi2] := by rw [← hw2]; exact Blk.new _ _ _
          have hb2 : Below w1.heap.size w1 w2 := by rw [← hw2]; exact Ba (B0 w1) _
          have hsz : w.heap.size + 1 < w1.heap.size := by rw [← hw1]; simp
          have g1' := (Bc hb2 hsz).trans g1
          have s0 := K2.cell 0
          have s1 := K2.cell 1
          simp only [List.getElem?_toArray, List.getElem?_cons_zero, List.getElem?_cons_succ] at s0 s1
          have HB2 := Lib.hid (Bt HB1.out hb2)
          try rw [hw1]
          try rw [hw2]
          clear hw1 hw2 hb2 K2 hsz g1 g0 e0 r0 r1
          go_wp2
          go_ret
          exact ⟨by rw [HZ.out]; rfl, HB2.out⟩
end Go.Proofs.YtahlfndlkfoikaaDoor
