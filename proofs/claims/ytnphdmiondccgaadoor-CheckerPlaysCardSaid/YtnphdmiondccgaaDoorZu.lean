/- The law CheckerPlays: the two answers are the same. -/
import Derived.Test.YtnphdmiondccgaaDoorZt
import Derived.Test.YtnphdmiondccgaaDoorW7
namespace Go.Proofs.YtnphdmiondccgaaDoor
open Go Go.RowKit Go.Shelf
open Pop
set_option maxRecDepth 100000 in
set_option maxHeartbeats 4000000 in
theorem law_plays (hn hs fn fs : Int) (ds : List Dv) (ks : List Nat) (hks : ∀ x ∈ ks, x < 2 ^ 128) (vd vk : Value) (F : Nat → Prop) (w : World) (hF : ∀ b, F b → b < w.heap.size) (hD : SlDv F w vd ds) (hK : SlK F w vk ks) (hT : Tab64 w) (hg : 0 < w.heap.size) :
    Calls Tryd.prog 4 #[plV hn hs fn fs, vd, vk] w fun e w' => e = .returned (.bool true) ∧ Below w.heap.size w w' := by
  have HKN := Lib.hid (fun W => known54_any W)
  have HPO := Lib.hid (fun (h4 : ks.length ≤ 4) W (hb : Below w.heap.size w W) => possible_any hn hs fn fs ds ks h4 hks vd vk F W (fun b h => Nat.lt_of_lt_of_le (hF b h) hb.size) (hD.keep (Agree.below hb hF)) (hK.keep (Agree.below hb hF)) (hT.below hb) (Nat.lt_of_lt_of_le hg hb.size))
  have HPY := Lib.hid (fun (h4 : ks.length ≤ 4) W (hb : Below w.heap.size w W) => plays_any hn hs fn fs ds ks h4 hks vd vk F W (fun b h => Nat.lt_of_lt_of_le (hF b h) hb.size) (hD.keep (Agree.below hb hF)) (hK.keep (Agree.below hb hF)))
  unfold plV at *
  obtain ⟨w1, hw1⟩ : ∃ w1 : World, w.alloc (.cells #[.int .i64 hn, .int .i64 hs, .int .i64 fn, .int .i64 fs] 43) = w1 := ⟨_, rfl⟩
  obtain ⟨b, hb⟩ : ∃ b, w.heap.size = b := ⟨_, rfl⟩
  have HC1 := Lib.hid (show Blk w1 b 43 #[.int .i64 hn, .int .i64 hs, .int .i64 fn, .int .i64 fs] by rw [← hw1, ← hb]; exact Blk.new _ _ _)
  have HB1 := Lib.hid (show Below w.heap.size w w1 by rw [← hw1]; exact Ba (B0 w) _)
  obtain ⟨Ad, cd, rfl, hcd, hlend, -⟩ := hD.open
  obtain ⟨Ak, ck, rfl, hck, hlenk, -⟩ := hK.open
  have HW1 := Lib.hid hw1
  have HBB := Lib.hid hb
  obtain ⟨P, hP⟩ : ∃ P, possF hn hs fn fs ds ks = P := ⟨_, rfl⟩
  rw [hP] at HPO HPY
  obtain ⟨nd, hnd⟩ : ∃ n, ds.length = n := ⟨_, rfl⟩
  obtain ⟨nk, hnk⟩ : ∃ n, ks.length = n := ⟨_, rfl⟩
  rw [hnd] at hcd hlend HPO HPY ⊢
  rw [hnk] at hck hlenk HPO HPY ⊢
  clear hw1 hb hD hK hP hnd hnk hks hF hT hg
  go_enter Tryd.func4, Tryd.ntmps4
  go_upto_region 1 with fail
  rw [HW1.out, HBB.out]
  clear HW1
  by_cases h1 : (4 : Int) < nd
  · go_wp2_with (first | (go_at_call 5; (with_reducible refine ((HKN.out _).mono ?_)); rintro e w2 ⟨rfl, hb2⟩; first | have HB2 := Lib.hid (Bt HB2.out hb2) | have HB2 := Lib.hid (Bt HB1.out hb2); clear hb2))
    go_ret
    exact ⟨rfl, HB2.out⟩
  · by_cases h2 : (4 : Int) < nk
    · go_wp2_with (first | (go_at_call 5; (with_reducible refine ((HKN.out _).mono ?_)); rintro e w2 ⟨rfl, hb2⟩; first | have HB2 := Lib.hid (Bt HB2.out hb2) | have HB2 := Lib.hid (Bt HB1.out hb2); clear hb2))
      go_ret
      exact ⟨rfl, HB2.out⟩
    · have h4 : nk ≤ 4 := by omega
      go_upto_region 3 with (go_at_call 5; (with_reducible refine ((HKN.out _).mono ?_)); rintro e w2 ⟨rfl, hb2⟩; have HB2 := Lib.hid (Bt HB1.out hb2); have HC2 := Lib.hid (HC1.out.below hb2 HC1.out.lt); clear hb2)
      have c0 := HC2.out.cell 0
      have c1 := HC2.out.cell 1
      have c2 := HC2.out.cell 2
      have c3 := HC2.out.cell 3
      simp only [List.getElem?_toArray, List.getElem?_cons_zero, List.getElem?_cons_succ] at c0 c1 c2 c3
      go_upto_region 4 with (go_at_call 10; (with_reducible refine ((HPO.out h4 _ HB2.out).mono ?_)); rintro e w3 ⟨⟨q, e0, rfl, hq⟩, hb3⟩; have HQ := Lib.hid hq; have HB3 := Lib.hid (Bt HB2.out hb3); have HC3 := Lib.hid (HC2.out.below hb3 HC2.out.lt); clear hb3 hq c0 c1 c2 c3)
      have c0 := HC3.out.cell 0
      have c1 := HC3.out.cell 1
      have c2 := HC3.out.cell 2
      have c3 := HC3.out.cell 3
      simp only [List.getElem?_toArray, List.getElem?_cons_zero, List.getElem?_cons_succ] at c0 c1 c2 c3
      have hqp := HQ.out
      clear HQ
      cases q with
      | false =>
        obtain rfl : P = false := hqp.symm
        clear hqp
        go_wp2_with (go_at_call 11; (with_reducible refine ((HPY.out h4 _ HB3.out).mono ?_)); rintro e w4 ⟨rfl, hb4⟩; have HB4 := Lib.hid (Bt HB3.out hb4); clear hb4 c0 c1 c2 c3)
        go_ret
        exact ⟨rfl, HB4.out⟩
      | true =>
        by_cases he : e0 = 0
        · subst he
          obtain rfl : P = true := hqp.symm
          clear hqp
          go_wp2_with (go_at_call 11; (with_reducible refine ((HPY.out h4 _ HB3.out).mono ?_)); rintro e w4 ⟨rfl, hb4⟩; have HB4 := Lib.hid (Bt HB3.out hb4); clear hb4 c0 c1 c2 c3)
          go_ret
          exact ⟨rfl, HB4.out⟩
        · obtain rfl : P = false := by rw [← hqp, decide_eq_false he]; rfl
          clear hqp
          go_wp2_with (go_at_call 11; (with_reducible refine ((HPY.out h4 _ HB3.out).mono ?_)); rintro e w4 ⟨rfl, hb4⟩; have HB4 := Lib.hid (Bt HB3.out hb4); clear hb4 c0 c1 c2 c3)
          go_ret
          refine ⟨?_, HB4.out⟩
          simp [he]
end Go.Proofs.YtnphdmiondccgaaDoor
