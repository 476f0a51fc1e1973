/- Walks over chain's statements: wrong, drawn. -/
import Derived.Test.YtahlfndlkfoikaaDoorQ4
import Derived.Test.YtahlfndlkfoikaaDoorQ1
namespace Go.Proofs.YtahlfndlkfoikaaDoor
open Go Go.RowKit Go.Shelf
set_option maxRecDepth 100000 in
set_option maxHeartbeats 2000000 in
theorem lwrong_any (a : Cou.Ac) (vd vc : Value) (c : Cou.Ct) (dr : Int) (w : World) (F : Nat → Prop) (hA : AcAt F w vd vc a) :
    Calls Tryd.prog 28 #[.agg #[vd, vc, .int .u64 dr], .agg #[.int .i64 c.1, .int .i64 c.2]] w fun e w' => e = .returned (.int .i64 (Cou.wrongF a c)) ∧ Below w.heap.size w w' := by
  obtain ⟨Ad, cd, rfl, _, had⟩ := hA.dv.open
  have hFF := hA.inW
  obtain ⟨c1, c2⟩ := c
  by_cases h1 : c1 < 0
  · have HZ : Hid (Cou.wrongF a (c1, c2) = 10) := Lib.hid (by unfold Cou.wrongF; rw [if_pos (.inl h1)])
    have d1 : decide (c1 < 0) = true := decide_eq_true h1
    clear hA had h1
    dsimp only
    go_enter Tryd.func28, Tryd.ntmps28
    go_wp2
    go_ret
    exact ⟨by rw [HZ.out]; rfl, Ba (Ba (B0 w) _) _⟩
  · have d1 : decide (c1 < 0) = false := decide_eq_false h1
    by_cases h2 : (a.divs.length : Int) ≤ c1
    · have HZ : Hid (Cou.wrongF a (c1, c2) = 10) := Lib.hid (by unfold Cou.wrongF; rw [if_pos (.inr h2)])
      have d2 : decide ((a.divs.length : Int) ≤ c1) = true := decide_eq_true h2
      clear hA had h1 h2
      dsimp only
      generalize a.divs.length = dl at *
      go_enter Tryd.func28, Tryd.ntmps28
      go_wp2
      go_ret
      exact ⟨by rw [HZ.out]; rfl, Ba (Ba (B0 w) _) _⟩
    · have d2 : decide ((a.divs.length : Int) ≤ c1) = false := decide_eq_false h2
      obtain ⟨tn, rfl⟩ : ∃ tn : Nat, c1 = tn := ⟨c1.toNat, by omega⟩
      have htl : tn < a.divs.length := by omega
      obtain ⟨ad2, rfl, hf2, hfl2⟩ := had tn htl
      have hz : Cou.wrongF a (tn, c2) = bif Cou.inB (a.divs.getD tn (0, -1)) c2 then 0 else 23 := by
        unfold Cou.wrongF
        rw [if_neg (by dsimp only; omega)]
        simp only [Int.toNat_natCast]
      rw [List.getD_eq_getElem?_getD, List.getElem?_eq_getElem htl] at hz
      dsimp only [Option.getD] at hz
      have HZ := Lib.hid hz
      have hfb2 : (ad2.add (tn * 2)).block < w.heap.size := by rw [block_of_add]; exact hFF _ hf2
      clear hA had hz h1 h2
      generalize a.divs[tn] = y at *
      obtain ⟨lo, hi2⟩ := y
      have r0 := hfl2.f0 rfl
      have r1 := hfl2.f1 rfl
      have hn0 : (0 : Int) ≤ (tn : Int) := by omega
      have hn1 : (tn : Int) < a.divs.length := by omega
      clear hfl2
      generalize a.divs.length = dl at *
      dsimp only at HZ ⊢
      unfold Cou.inB at HZ
      obtain ⟨w1, hw1⟩ : ∃ w1 : World, (w.alloc (.cells #[.slice (some ad2) dl cd, vc, .int .u64 dr] 33)).alloc (.cells #[.int .i64 tn, .int .i64 c2] 36) = w1 := ⟨_, rfl⟩
      have e0 : w1.cell? ⟨w.heap.size, 0, none⟩ = some (.slice (some ad2) dl cd) := by rw [← hw1]; simp [go_sem]
      have g0 : w1.cell? ⟨w.heap.size + 1, 0, none⟩ = some (.int .i64 tn) := by rw [← hw1]; simp [go_sem]
      have g1 : w1.cell? ⟨w.heap.size + 1, 1, none⟩ = some (.int .i64 c2) := by rw [← hw1]; simp [go_sem]
      have hB1 : Below w.heap.size w w1 := by rw [← hw1]; exact Ba (Ba (B0 w) _) _
      replace r0 := (hB1.cell (p := ad2.add (tn * 2)) hfb2).trans r0
      replace r1 := (hB1.cell (p := ⟨(ad2.add (tn * 2)).block, (ad2.add (tn * 2)).off + 1, none⟩) hfb2).trans r1
      have HB1 := Lib.hid hB1
      clear hB1 hfb2
      by_cases h3 : c2 < lo
      · have d3 : decide (c2 < lo) = true := decide_eq_true h3
        rw [decide_eq_false (show ¬ lo ≤ c2 by omega), Bool.false_and, cond_false] at HZ
        clear h3
        go_enter Tryd.func28, Tryd.ntmps28
        go_upto_region 3 with fail
        go_region
        all_goals
          go_wp2
          go_ret
          exact ⟨by rw [HZ.out]; rfl, HB1.out.drew⟩
      · have d3 : decide (c2 < lo) = false := decide_eq_false h3
        rw [decide_eq_true (show lo ≤ c2 by omega), Bool.true_and] at HZ
        by_cases h4 : hi2 < c2
        · have d4 : decide (hi2 < c2) = true := decide_eq_true h4
          rw [decide_eq_false (show ¬ c2 ≤ hi2 by omega), cond_false] at HZ
          clear h3 h4
          go_enter Tryd.func28, Tryd.ntmps28
          go_upto_region 3 with fail
          go_region
          all_goals
            go_wp2
            go_ret
            exact ⟨by rw [HZ.out]; rfl, HB1.out.drew⟩
        · have d4 : decide (hi2 < c2) = false := decide_eq_false h4
          rw [decide_eq_true (show c2 ≤ hi2 by omega), cond_true] at HZ
          clear h3 h4
          go_enter Tryd.func28, Tryd.ntmps28
          go_upto_region 3 with fail
          go_region
          all_goals
            go_wp2
            go_ret
            exact ⟨by rw [HZ.out]; rfl, HB1.out.drew⟩
theorem ldrawn4_any (vd vc : Value) (d : Nat) (hd : d < 2 ^ 64) (i : Nat) (hi : i < 64) (w : World) :
    Calls Tryd.prog 35 #[.agg #[vd, vc, .int .u64 d], .int .i64 i] w fun e w' => e = .returned (.bool (d.testBit i)) ∧ Below w.heap.size w w' := by
  have h3 : ((i : Nat) : Int) % 18446744073709551616 = i := by omega
  have h4 : min i 64 = i := by omega
  have hsh := shr_of d i (by omega)
  have hle : d >>> i ≤ d := by rw [Nat.shiftRight_eq_div_pow]; exact Nat.div_le_self _ _
  have hand : bits .and .u64 ((d >>> i : Nat) : Int) 1 = ((d >>> i &&& 1 : Nat) : Int) := Hit.u64_and (d >>> i) 1 (by omega) (by omega)
  have hbit := bit_of d i
  generalize d >>> i &&& 1 = vb at *
  generalize d >>> i = vs at *
  have HB : Hid (((vb : Int) == 1) = d.testBit i) := Lib.hid hbit
  clear hle hbit
  go_enter Tryd.func35, Tryd.ntmps35
  go_wp2
  go_ret
  exact ⟨by first | rfl | (rw [HB.out]; rfl), Ba (B0 w) _⟩
end Go.Proofs.YtahlfndlkfoikaaDoor
