/- Walks over coupler: Step. -/
import Derived.Test.YtnkjhppjjklgfaaDoorKi
namespace Go.Proofs.YtnkjhppjjklgfaaDoor
open Go Go.RowKit Go.Shelf
def stepR (a : Cou.Ac) (i : Int) (c : Cou.Ct) : Cou.Ct × Bool × Int :=
  if Cou.rightF a = 0 then (if i < 0 ∨ (a.cps.length : Int) ≤ i then ((0, 0), false, 10) else if Cou.wrongF a c = 0 then (match Cou.stepF a i.toNat c with | some t => (t, true, 0) | none => ((0, 0), false, 0)) else ((0, 0), false, Cou.wrongF a c)) else ((0, 0), false, Cou.rightF a)
def stepRV (r : Cou.Ct × Bool × Int) : Value := .tuple #[.agg #[.int .i64 r.1.1, .int .i64 r.1.2], .bool r.2.1, .int .i64 r.2.2]
theorem wrongF_in {a : Cou.Ac} {c : Cou.Ct} (hc : Cou.wrongF a c = 0) : Cou.InA a c := by
  unfold Cou.wrongF at hc
  by_cases q : c.1 < 0 ∨ (a.divs.length : Int) ≤ c.1
  · rw [if_pos q] at hc; cases hc
  · rw [if_neg q] at hc
    refine ⟨by omega, by omega, ?_⟩
    cases hq : Cou.inB (a.divs.getD c.1.toNat (0, -1)) c.2 with
    | true => rfl
    | false => simp only [hq, cond_false] at hc; cases hc
theorem blk_two {W : World} {g : Nat} {t : TypeId} {u v : Value} (h : Blk W g t #[u, v]) (a b : Value) : Blk ((W.setCell ⟨g, 0, none⟩ a).setCell ⟨g, 1, none⟩ b) g t #[a, b] := by
  have := (h.set_ 0 a).set_ 1 b
  simpa using this
set_option maxRecDepth 100000 in
set_option maxHeartbeats 1000000 in
theorem Step_any (a : Cou.Ac) (vd vc : Value) (hdr : a.drawn < 2 ^ 64) (i : Int) (c : Cou.Ct) (w : World) (F : Nat → Prop) (hA : AcAt F w vd vc a) :
    Calls Tryd.prog 17 #[.agg #[vd, vc, .int .u64 a.drawn], .int .i64 i, .agg #[.int .i64 c.1, .int .i64 c.2]] w fun e w' => e = .returned (stepRV (stepR a i c)) ∧ Below w.heap.size w w' := by
  obtain ⟨c1, c2⟩ := c
  obtain ⟨w1, hw1⟩ : ∃ w1 : World, ((w.alloc (.cells #[vd, vc, .int .u64 a.drawn] 34)).alloc (.cells #[.int .i64 c1, .int .i64 c2] 28)).alloc (.cells #[.int .i64 0, .int .i64 0] 28) = w1 := ⟨_, rfl⟩
  have x0 : w1.cell? ⟨w.heap.size, 0, none⟩ = some vd := by rw [← hw1]; simp [go_sem]
  have x1 : w1.cell? ⟨w.heap.size, 1, none⟩ = some vc := by rw [← hw1]; simp [go_sem]
  have x2 : w1.cell? ⟨w.heap.size, 2, none⟩ = some (.int .u64 a.drawn) := by rw [← hw1]; simp [go_sem]
  have y0 : w1.cell? ⟨w.heap.size + 1, 0, none⟩ = some (.int .i64 c1) := by rw [← hw1]; simp [go_sem]
  have y1 : w1.cell? ⟨w.heap.size + 1, 1, none⟩ = some (.int .i64 c2) := by rw [← hw1]; simp [go_sem]
  have K1 : Hid (Blk w1 (w.heap.size + 1 + 1) 28 #[.int .i64 0, .int .i64 0]) := Lib.hid (by
    have := Blk.new ((w.alloc (.cells #[vd, vc, .int .u64 a.drawn] 34)).alloc (.cells #[.int .i64 c1, .int .i64 c2] 28)) 28 #[.int .i64 0, .int .i64 0]
    rw [hw1] at this
    simpa using this)
  have B1 : Below w.heap.size w w1 := by rw [← hw1]; exact Ba (Ba (Ba (B0 w) _) _) _
  have lt1 : w.heap.size + 1 + 1 < w1.heap.size := by rw [← hw1]; simp
  have l1 : w.heap.size + 1 < w1.heap.size := by omega
  have l0 : w.heap.size < w1.heap.size := by omega
  have hF := hA.inW
  obtain ⟨Ac, cc, hvc, _, _⟩ := id hA.cp.open
  have HRT := Lib.hid (right_any a vd vc hdr w1 F (hA.onB hF B1))
  have HCT := Lib.hid (fun (hok : Cou.Ok a) W (hb : Below w.heap.size w W) => contact_any a hok vd vc (c1, c2) a.drawn W F (hA.onB hF hb))
  have HST0 := Lib.hid (fun (hok : Cou.Ok a) (n : Nat) (hn : n < a.cps.length) (hs : -1000 ≤ c2 ∧ c2 ≤ 1000) W (hb : Below w.heap.size w W) => step_any a hok vd vc n hn (c1, c2) hs a.drawn W F (hA.onB hF hb))
  subst hvc
  clear hA hF
  rcases Classical.em (Cou.rightF a ≠ 0) with hr | hr
  · have HE : Hid (stepR a i (c1, c2) = ((0, 0), false, Cou.rightF a)) := Lib.hid (by unfold stepR; rw [if_neg hr])
    have d1 : (Cou.rightF a != 0) = true := by simpa using hr
    clear HCT HST0 hr
    go_enter Tryd.func17, Tryd.ntmps17
    go_wp2_with (first
      | (go_at_call 35; (with_reducible refine (HRT.out.mono ?_)); rintro e w2 ⟨rfl, hb2⟩; have x0' := (Bc hb2 l0).trans x0; have x1' := (Bc hb2 l0).trans x1; have x2' := (Bc hb2 l0).trans x2; have y0' := (Bc hb2 l1).trans y0; have y1' := (Bc hb2 l1).trans y1; have B2 := Bt B1 hb2; have l2 := Nat.lt_of_lt_of_le lt1 hb2.size; have K2 := Lib.hid (K1.out.below hb2 lt1); have fz := K2.out.frozen; have k0 := K2.out.cell 0; have k1 := K2.out.cell 1; simp only [List.getElem?_toArray, List.getElem?_cons_zero, List.getElem?_cons_succ] at k0 k1))
    refine bodyPost_ret (v := .tuple #[.agg #[.int .i64 0, .int .i64 0], .bool false, .int .i64 (Cou.rightF a)]) ?_ rfl ?_
    · have KF := blk_two K2.out (.int .i64 0) (.int .i64 0)
      have m0 := KF.cell 0
      have m1 := KF.cell 1
      simp only [List.getElem?_toArray, List.getElem?_cons_zero, List.getElem?_cons_succ] at m0 m1
      clear K1 K2 HRT HE
      simp [results, Tryd.f17, go_sem, m0, m1]
    · exact ⟨by rw [HE.out]; rfl, Bs (Bs B2 _ (by simp; omega)) _ (by simp; omega)⟩
  replace hr : Cou.rightF a = 0 := Classical.not_not.1 hr
  have hok := Cou.right_ok hr
  rw [hr] at HRT
  have HCT2 := Lib.hid (HCT.out hok)
  have hst : stepR a i (c1, c2) = (if i < 0 ∨ (a.cps.length : Int) ≤ i then ((0, 0), false, 10) else if Cou.wrongF a (c1, c2) = 0 then (match Cou.stepF a i.toNat (c1, c2) with | some t => (t, true, 0) | none => ((0, 0), false, 0)) else ((0, 0), false, Cou.wrongF a (c1, c2)) : Cou.Ct × Bool × Int) := by unfold stepR; rw [if_pos hr]
  clear HCT hr
  by_cases h1 : i < 0
  · have HE : Hid (stepR a i (c1, c2) = ((0, 0), false, 10)) := Lib.hid (by rw [hst, if_pos (.inl h1)])
    have d1 : decide (i < 0) = true := decide_eq_true h1
    clear HST0 hst h1 HCT2
    go_enter Tryd.func17, Tryd.ntmps17
    go_wp2_with (first
      | (go_at_call 35; (with_reducible refine (HRT.out.mono ?_)); rintro e w2 ⟨rfl, hb2⟩; have x0' := (Bc hb2 l0).trans x0; have x1' := (Bc hb2 l0).trans x1; have x2' := (Bc hb2 l0).trans x2; have y0' := (Bc hb2 l1).trans y0; have y1' := (Bc hb2 l1).trans y1; have B2 := Bt B1 hb2; have l2 := Nat.lt_of_lt_of_le lt1 hb2.size; have K2 := Lib.hid (K1.out.below hb2 lt1); have fz := K2.out.frozen; have k0 := K2.out.cell 0; have k1 := K2.out.cell 1; simp only [List.getElem?_toArray, List.getElem?_cons_zero, List.getElem?_cons_succ] at k0 k1))
    refine bodyPost_ret (v := .tuple #[.agg #[.int .i64 0, .int .i64 0], .bool false, .int .i64 (10)]) ?_ rfl ?_
    · have KF := blk_two K2.out (.int .i64 0) (.int .i64 0)
      have m0 := KF.cell 0
      have m1 := KF.cell 1
      simp only [List.getElem?_toArray, List.getElem?_cons_zero, List.getElem?_cons_succ] at m0 m1
      clear K1 K2 HRT HE
      simp [results, Tryd.f17, go_sem, m0, m1]
    · exact ⟨by rw [HE.out]; rfl, Bs (Bs B2 _ (by simp; omega)) _ (by simp; omega)⟩
  have d1 : decide (i < 0) = false := decide_eq_false h1
  by_cases h2 : (a.cps.length : Int) ≤ i
  · have HE : Hid (stepR a i (c1, c2) = ((0, 0), false, 10)) := Lib.hid (by rw [hst, if_pos (.inr h2)])
    have d2 : decide ((a.cps.length : Int) ≤ i) = true := decide_eq_true h2
    clear HST0 hst h1 h2 HCT2
    go_enter Tryd.func17, Tryd.ntmps17
    go_wp2_with (first
      | (go_at_call 35; (with_reducible refine (HRT.out.mono ?_)); rintro e w2 ⟨rfl, hb2⟩; have x0' := (Bc hb2 l0).trans x0; have x1' := (Bc hb2 l0).trans x1; have x2' := (Bc hb2 l0).trans x2; have y0' := (Bc hb2 l1).trans y0; have y1' := (Bc hb2 l1).trans y1; have B2 := Bt B1 hb2; have l2 := Nat.lt_of_lt_of_le lt1 hb2.size; have K2 := Lib.hid (K1.out.below hb2 lt1); have fz := K2.out.frozen; have k0 := K2.out.cell 0; have k1 := K2.out.cell 1; simp only [List.getElem?_toArray, List.getElem?_cons_zero, List.getElem?_cons_succ] at k0 k1))
    refine bodyPost_ret (v := .tuple #[.agg #[.int .i64 0, .int .i64 0], .bool false, .int .i64 (10)]) ?_ rfl ?_
    · have KF := blk_two K2.out (.int .i64 0) (.int .i64 0)
      have m0 := KF.cell 0
      have m1 := KF.cell 1
      simp only [List.getElem?_toArray, List.getElem?_cons_zero, List.getElem?_cons_succ] at m0 m1
      clear K1 K2 HRT HE
      simp [results, Tryd.f17, go_sem, m0, m1]
    · exact ⟨by rw [HE.out]; rfl, Bs (Bs B2 _ (by simp; omega)) _ (by simp; omega)⟩
  have d2 : decide ((a.cps.length : Int) ≤ i) = false := decide_eq_false h2
  rw [if_neg (by omega)] at hst
  obtain ⟨n, rfl⟩ : ∃ n : Nat, i = n := ⟨i.toNat, by omega⟩
  rw [Int.toNat_natCast] at hst
  have hn : n < a.cps.length := by omega
  clear h1 h2
  by_cases hc : Cou.wrongF a (c1, c2) = 0
  · rw [if_pos hc] at hst
    have hin : Cou.InA a (c1, c2) := wrongF_in hc
    have hs := inA_small hok hin
    have hST := HST0.out hok n hn ⟨hs.2.2.1, hs.2.2.2⟩
    rw [hc] at HCT2
    clear HST0 hin hs hc
    cases hsf : Cou.stepF a n (c1, c2) with
    | none =>
      rw [hsf] at hST hst
      have HE : Hid (stepR a (n : Int) (c1, c2) = ((0, 0), false, 0)) := Lib.hid hst
      unfold stepV at hST
      have HST := Lib.hid hST
      clear hST hst hok
      go_enter Tryd.func17, Tryd.ntmps17
      go_wp2_with (first
        | (go_at_call 35; (with_reducible refine (HRT.out.mono ?_)); rintro e w2 ⟨rfl, hb2⟩; have x0' := (Bc hb2 l0).trans x0; have x1' := (Bc hb2 l0).trans x1; have x2' := (Bc hb2 l0).trans x2; have y0' := (Bc hb2 l1).trans y0; have y1' := (Bc hb2 l1).trans y1; have B2 := Bt B1 hb2; have l2 := Nat.lt_of_lt_of_le lt1 hb2.size; have K2 := Lib.hid (K1.out.below hb2 lt1); have fz := K2.out.frozen; have k0 := K2.out.cell 0; have k1 := K2.out.cell 1; simp only [List.getElem?_toArray, List.getElem?_cons_zero, List.getElem?_cons_succ] at k0 k1)
        | (go_at_call 37; (with_reducible refine ((HCT2.out _ B2).mono ?_)); rintro e w3 ⟨rfl, hb3⟩; have x0'' := (Bc hb3 (by omega)).trans x0'; have x1'' := (Bc hb3 (by omega)).trans x1'; have x2'' := (Bc hb3 (by omega)).trans x2'; have y0'' := (Bc hb3 (by omega)).trans y0'; have y1'' := (Bc hb3 (by omega)).trans y1'; have B3 := Bt B2 hb3; have K3 := Lib.hid (K2.out.below hb3 l2); have l3 := Nat.lt_of_lt_of_le l2 hb3.size; have fz3 := K3.out.frozen; have k03 := K3.out.cell 0; have k13 := K3.out.cell 1; simp only [List.getElem?_toArray, List.getElem?_cons_zero, List.getElem?_cons_succ] at k03 k13)
        | (go_at_call 40; (with_reducible refine ((HST.out _ B3).mono ?_)); rintro e w4 ⟨rfl, hb4⟩; have B4 := Bt B3 hb4; have K4 := Lib.hid (K3.out.below hb4 l3); have fz4 := K4.out.frozen; have k04 := K4.out.cell 0; have k14 := K4.out.cell 1; simp only [List.getElem?_toArray, List.getElem?_cons_zero, List.getElem?_cons_succ] at k04 k14; have K5 := Lib.hid (blk_two K4.out (.int .i64 0) (.int .i64 0)); have fz5 := K5.out.frozen; have k05 := K5.out.cell 0; have k15 := K5.out.cell 1; simp only [List.getElem?_toArray, List.getElem?_cons_zero, List.getElem?_cons_succ] at k05 k15))
      refine bodyPost_ret (v := .tuple #[.agg #[.int .i64 0, .int .i64 0], .bool false, .int .i64 (0)]) ?_ rfl ?_
      · have KF := blk_two K5.out (.int .i64 0) (.int .i64 0)
        have m0 := KF.cell 0
        have m1 := KF.cell 1
        simp only [List.getElem?_toArray, List.getElem?_cons_zero, List.getElem?_cons_succ] at m0 m1
        clear K1 K2 K3 K4 K5 HRT HE HCT2 HST
        simp [results, Tryd.f17, go_sem, m0, m1]
      · exact ⟨by rw [HE.out]; rfl, Bs (Bs (Bs (Bs B4 _ (by simp; omega)) _ (by simp; omega)) _ (by simp; omega)) _ (by simp; omega)⟩
    | some t =>
      obtain ⟨t1, t2⟩ := t
      rw [hsf] at hST hst
      have HE : Hid (stepR a (n : Int) (c1, c2) = ((t1, t2), true, 0)) := Lib.hid hst
      unfold stepV at hST
      have HST := Lib.hid hST
      clear hST hst hok
      go_enter Tryd.func17, Tryd.ntmps17
      go_wp2_with (first
        | (go_at_call 35; (with_reducible refine (HRT.out.mono ?_)); rintro e w2 ⟨rfl, hb2⟩; have x0' := (Bc hb2 l0).trans x0; have x1' := (Bc hb2 l0).trans x1; have x2' := (Bc hb2 l0).trans x2; have y0' := (Bc hb2 l1).trans y0; have y1' := (Bc hb2 l1).trans y1; have B2 := Bt B1 hb2; have l2 := Nat.lt_of_lt_of_le lt1 hb2.size; have K2 := Lib.hid (K1.out.below hb2 lt1); have fz := K2.out.frozen; have k0 := K2.out.cell 0; have k1 := K2.out.cell 1; simp only [List.getElem?_toArray, List.getElem?_cons_zero, List.getElem?_cons_succ] at k0 k1)
        | (go_at_call 37; (with_reducible refine ((HCT2.out _ B2).mono ?_)); rintro e w3 ⟨rfl, hb3⟩; have x0'' := (Bc hb3 (by omega)).trans x0'; have x1'' := (Bc hb3 (by omega)).trans x1'; have x2'' := (Bc hb3 (by omega)).trans x2'; have y0'' := (Bc hb3 (by omega)).trans y0'; have y1'' := (Bc hb3 (by omega)).trans y1'; have B3 := Bt B2 hb3; have K3 := Lib.hid (K2.out.below hb3 l2); have l3 := Nat.lt_of_lt_of_le l2 hb3.size; have fz3 := K3.out.frozen; have k03 := K3.out.cell 0; have k13 := K3.out.cell 1; simp only [List.getElem?_toArray, List.getElem?_cons_zero, List.getElem?_cons_succ] at k03 k13)
        | (go_at_call 40; (with_reducible refine ((HST.out _ B3).mono ?_)); rintro e w4 ⟨rfl, hb4⟩; have B4 := Bt B3 hb4; have K4 := Lib.hid (K3.out.below hb4 l3); have fz4 := K4.out.frozen; have k04 := K4.out.cell 0; have k14 := K4.out.cell 1; simp only [List.getElem?_toArray, List.getElem?_cons_zero, List.getElem?_cons_succ] at k04 k14; have K5 := Lib.hid (blk_two K4.out (.int .i64 t1) (.int .i64 t2)); have fz5 := K5.out.frozen; have k05 := K5.out.cell 0; have k15 := K5.out.cell 1; simp only [List.getElem?_toArray, List.getElem?_cons_zero, List.getElem?_cons_succ] at k05 k15))
      refine bodyPost_ret (v := .tuple #[.agg #[.int .i64 t1, .int .i64 t2], .bool true, .int .i64 (0)]) ?_ rfl ?_
      · have KF := blk_two K5.out (.int .i64 t1) (.int .i64 t2)
        have m0 := KF.cell 0
        have m1 := KF.cell 1
        simp only [List.getElem?_toArray, List.getElem?_cons_zero, List.getElem?_cons_succ] at m0 m1
        clear K1 K2 K3 K4 K5 HRT HE HCT2 HST
        simp [results, Tryd.f17, go_sem, m0, m1]
      · exact ⟨by rw [HE.out]; rfl, Bs (Bs (Bs (Bs B4 _ (by simp; omega)) _ (by simp; omega)) _ (by simp; omega)) _ (by simp; omega)⟩
  · rw [if_neg hc] at hst
    have HE := Lib.hid hst
    have d3 : (Cou.wrongF a (c1, c2) != 0) = true := by simpa using hc
    clear HST0 hst hc
    go_enter Tryd.func17, Tryd.ntmps17
    go_wp2_with (first
      | (go_at_call 35; (with_reducible refine (HRT.out.mono ?_)); rintro e w2 ⟨rfl, hb2⟩; have x0' := (Bc hb2 l0).trans x0; have x1' := (Bc hb2 l0).trans x1; have x2' := (Bc hb2 l0).trans x2; have y0' := (Bc hb2 l1).trans y0; have y1' := (Bc hb2 l1).trans y1; have B2 := Bt B1 hb2; have l2 := Nat.lt_of_lt_of_le lt1 hb2.size; have K2 := Lib.hid (K1.out.below hb2 lt1); have fz := K2.out.frozen; have k0 := K2.out.cell 0; have k1 := K2.out.cell 1; simp only [List.getElem?_toArray, List.getElem?_cons_zero, List.getElem?_cons_succ] at k0 k1)
      | (go_at_call 37; (with_reducible refine ((HCT2.out _ B2).mono ?_)); rintro e w3 ⟨rfl, hb3⟩; have x0'' := (Bc hb3 (by omega)).trans x0'; have x1'' := (Bc hb3 (by omega)).trans x1'; have x2'' := (Bc hb3 (by omega)).trans x2'; have y0'' := (Bc hb3 (by omega)).trans y0'; have y1'' := (Bc hb3 (by omega)).trans y1'; have B3 := Bt B2 hb3; have K3 := Lib.hid (K2.out.below hb3 l2); have l3 := Nat.lt_of_lt_of_le l2 hb3.size; have fz3 := K3.out.frozen; have k03 := K3.out.cell 0; have k13 := K3.out.cell 1; simp only [List.getElem?_toArray, List.getElem?_cons_zero, List.getElem?_cons_succ] at k03 k13))
    refine bodyPost_ret (v := .tuple #[.agg #[.int .i64 0, .int .i64 0], .bool false, .int .i64 (Cou.wrongF a (c1, c2))]) ?_ rfl ?_
    · have KF := blk_two K3.out (.int .i64 0) (.int .i64 0)
      have m0 := KF.cell 0
      have m1 := KF.cell 1
      simp only [List.getElem?_toArray, List.getElem?_cons_zero, List.getElem?_cons_succ] at m0 m1
      clear K1 K2 K3 HRT HE HCT2
      simp [results, Tryd.f17, go_sem, m0, m1]
    · exact ⟨by rw [HE.out]; rfl, Bs (Bs B3 _ (by simp; omega)) _ (by simp; omega)⟩
end Go.Proofs.YtnkjhppjjklgfaaDoor
