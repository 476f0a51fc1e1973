/- Walks over coupler: contact; take for the played ones; reach. -/
import Derived.Test.YtnkjhppjjklgfaaDoorKd
namespace Go.Proofs.YtnkjhppjjklgfaaDoor
open Go Go.RowKit Go.Shelf
namespace Cou
/-- What contact answers. -/
def wrongF (a : Ac) (c : Ct) : Int := if c.1 < 0 ∨ (a.divs.length : Int) ≤ c.1 then 10 else bif inB (a.divs.getD c.1.toNat (0, -1)) c.2 then 0 else 23
end Cou
set_option maxRecDepth 100000 in
set_option maxHeartbeats 4000000 in
theorem contact_any (a : Cou.Ac) (hok : Cou.Ok a) (vd vc : Value) (c : Cou.Ct) (dr : Int) (w : World) (F : Nat → Prop) (hA : AcAt F w vd vc a) :
    Calls Tryd.prog 37 #[.agg #[vd, vc, .int .u64 dr], .agg #[.int .i64 c.1, .int .i64 c.2]] w fun e w' => e = .returned (.int .i64 (Cou.wrongF a c)) ∧ Below w.heap.size w w' := by
  obtain ⟨Ad, cd, rfl, _, had⟩ := hA.dv.open
  have hFF := hA.inW
  obtain ⟨c1, c2⟩ := c
  by_cases h1 : c1 < 0
  · have HZ : Hid (Cou.wrongF a (c1, c2) = 10) := Lib.hid (by unfold Cou.wrongF; rw [if_pos (.inl h1)])
    have d1 : decide (c1 < 0) = true := decide_eq_true h1
    clear hA had h1
    dsimp only
    go_enter Tryd.func37, Tryd.ntmps37
    go_wp2
    go_ret
    exact ⟨by rw [HZ.out]; rfl, Ba (Ba (B0 w) _) _⟩
  · have d1 : decide (c1 < 0) = false := decide_eq_false h1
    by_cases h2 : (a.divs.length : Int) ≤ c1
    · have HZ : Hid (Cou.wrongF a (c1, c2) = 10) := Lib.hid (by unfold Cou.wrongF; rw [if_pos (.inr h2)])
      have d2 : decide ((a.divs.length : Int) ≤ c1) = true := decide_eq_true h2
      clear hA had h1 h2
      dsimp only
      generalize a.divs.length = dl at *
      go_enter Tryd.func37, Tryd.ntmps37
      go_wp2
      go_ret
      exact ⟨by rw [HZ.out]; rfl, Ba (Ba (B0 w) _) _⟩
    · have d2 : decide ((a.divs.length : Int) ≤ c1) = false := decide_eq_false h2
      obtain ⟨tn, rfl⟩ : ∃ tn : Nat, c1 = tn := ⟨c1.toNat, by omega⟩
      have htl : tn < a.divs.length := by omega
      obtain ⟨ad2, rfl, hf2, hfl2⟩ := had tn htl
      have hz : Cou.wrongF a (tn, c2) = bif Cou.inB (a.divs.getD tn (0, -1)) c2 then 0 else 23 := by
        unfold Cou.wrongF
        rw [if_neg (by dsimp only; omega)]
        simp only [Int.toNat_natCast]
      rw [List.getD_eq_getElem?_getD, List.getElem?_eq_getElem htl] at hz
      dsimp only [Option.getD] at hz
      have HZ := Lib.hid hz
      have hfb2 : (ad2.add (tn * 2)).block < w.heap.size := by rw [block_of_add]; exact hFF _ hf2
      clear hA had hz h1 h2
      generalize a.divs[tn] = y at *
      obtain ⟨lo, hi2⟩ := y
      have r0 := hfl2.f0 rfl
      have r1 := hfl2.f1 rfl
      have hn0 : (0 : Int) ≤ (tn : Int) := by omega
      have hn1 : (tn : Int) < a.divs.length := by omega
      clear hfl2
      generalize a.divs.length = dl at *
      dsimp only at HZ ⊢
      go_enter Tryd.func37, Tryd.ntmps37
      go_upto_region 3 with fail
      obtain ⟨w1, hw1⟩ : ∃ w1 : World, (w.alloc (.cells #[.slice (some ad2) dl cd, vc, .int .u64 dr] 34)).alloc (.cells #[.int .i64 tn, .int .i64 c2] 28) = w1 := ⟨_, rfl⟩
      have e0 : w1.cell? ⟨w.heap.size, 0, none⟩ = some (.slice (some ad2) dl cd) := by rw [← hw1]; simp [go_sem]
      have g0 : w1.cell? ⟨w.heap.size + 1, 0, none⟩ = some (.int .i64 tn) := by rw [← hw1]; simp [go_sem]
      have g1 : w1.cell? ⟨w.heap.size + 1, 1, none⟩ = some (.int .i64 c2) := by rw [← hw1]; simp [go_sem]
      have l1 : w.heap.size + 1 < w1.heap.size := by rw [← hw1]; simp
      have l2 : w.heap.size < w1.heap.size := by omega
      have hB1 : Below w.heap.size w w1 := by rw [← hw1]; exact Ba (Ba (B0 w) _) _
      replace r0 := (hB1.cell (p := ad2.add (tn * 2)) hfb2).trans r0
      replace r1 := (hB1.cell (p := ⟨(ad2.add (tn * 2)).block, (ad2.add (tn * 2)).off + 1, none⟩) hfb2).trans r1
      have l5 : (ad2.add (tn * 2)).block < w1.heap.size := Nat.lt_of_lt_of_le hfb2 (Nat.le_of_lt l2)
      rw [hw1]
      have HI := Lib.hid (in_any lo hi2 c2 w1.drew)
      have HB1 := Lib.hid hB1
      clear hw1 hB1 hfb2
      cases hin : Cou.inB (lo, hi2) c2 with
      | true =>
        rw [hin, cond_true] at HZ
        rw [hin] at HI
        clear hin
        go_region_held3 (fun w' => Below w1.heap.size w1 w' ∧ w'.cell? ⟨w.heap.size + 1, 0, none⟩ = some (.int .i64 tn) ∧ w'.cell? ⟨w.heap.size + 1, 1, none⟩ = some (.int .i64 c2) ∧ w'.cell? ⟨w.heap.size, 0, none⟩ = some (.slice (some ad2) dl cd) ∧ w'.cell? (ad2.add (tn * 2)) = some (.int .i64 lo) ∧ w'.cell? ⟨(ad2.add (tn * 2)).block, (ad2.add (tn * 2)).off + 1, none⟩ = some (.int .i64 hi2))
          (first | exact ⟨(B0 _).drew, g0, g1, e0, r0, r1⟩ | exact ⟨hbn, (Bc hbn l1).trans g0, (Bc hbn l1).trans g1, (Bc hbn l2).trans e0, (hbn.cell (p := ad2.add (tn * 2)) l5).trans r0, (hbn.cell (p := ⟨(ad2.add (tn * 2)).block, (ad2.add (tn * 2)).off + 1, none⟩) l5).trans r1⟩)
          ((go_at_call 59; (with_reducible refine (HI.out.mono ?_)); rintro e w3 ⟨rfl, hb3⟩; have hbn := Bt (B0 w1).drew hb3))
        all_goals
          go_wp2
          go_ret
          exact ⟨by rw [HZ.out]; rfl, Bt HB1.out hbn⟩
      | false =>
        rw [hin, cond_false] at HZ
        rw [hin] at HI
        clear hin
        go_region_held3 (fun w' => Below w1.heap.size w1 w' ∧ w'.cell? ⟨w.heap.size + 1, 0, none⟩ = some (.int .i64 tn) ∧ w'.cell? ⟨w.heap.size + 1, 1, none⟩ = some (.int .i64 c2) ∧ w'.cell? ⟨w.heap.size, 0, none⟩ = some (.slice (some ad2) dl cd) ∧ w'.cell? (ad2.add (tn * 2)) = some (.int .i64 lo) ∧ w'.cell? ⟨(ad2.add (tn * 2)).block, (ad2.add (tn * 2)).off + 1, none⟩ = some (.int .i64 hi2))
          (first | exact ⟨(B0 _).drew, g0, g1, e0, r0, r1⟩ | exact ⟨hbn, (Bc hbn l1).trans g0, (Bc hbn l1).trans g1, (Bc hbn l2).trans e0, (hbn.cell (p := ad2.add (tn * 2)) l5).trans r0, (hbn.cell (p := ⟨(ad2.add (tn * 2)).block, (ad2.add (tn * 2)).off + 1, none⟩) l5).trans r1⟩)
          ((go_at_call 59; (with_reducible refine (HI.out.mono ?_)); rintro e w3 ⟨rfl, hb3⟩; have hbn := Bt (B0 w1).drew hb3))
        all_goals
          go_wp2
          go_ret
          exact ⟨by rw [HZ.out]; rfl, Bt HB1.out hbn⟩
end Go.Proofs.YtnkjhppjjklgfaaDoor
