/- Walks over coupler: Step. Walks over coupler: contacts. Walks over coupler: matrices in memory. -/
import Derived.Test.YtnkjhppjjklgfaaDoorKi
namespace Go.Proofs.YtnkjhppjjklgfaaDoor
open Go Go.RowKit Go.Shelf
def stepR (a : Cou.Ac) (i : Int) (c : Cou.Ct) : Cou.Ct × Bool × Int :=
  if Cou.rightF a = 0 then (if i < 0 ∨ (a.cps.length : Int) ≤ i then ((0, 0), false, 10) else if Cou.wrongF a c = 0 then (match Cou.stepF a i.toNat c with | some t => (t, true, 0) | none => ((0, 0), false, 0)) else ((0, 0), false, Cou.wrongF a c)) else ((0, 0), false, Cou.rightF a)
def stepRV (r : Cou.Ct × Bool × Int) : Value := .tuple #[.agg #[.int .i64 r.1.1, .int .i64 r.1.2], .bool r.2.1, .int .i64 r.2.2]
theorem wrongF_in {a : Cou.Ac} {c : Cou.Ct} (hc : Cou.wrongF a c = 0) : Cou.InA a c := by
  unfold Cou.wrongF at hc
  by_cases q : c.1 < 0 ∨ (a.divs.length : Int) ≤ c.1
  · rw [if_pos q] at hc; cases hc
  · rw [if_neg q] at hc
    refine ⟨by omega, by omega, ?_⟩
    cases hq : Cou.inB (a.divs.getD c.1.toNat (0, -1)) c.2 with
    | true => rfl
    | false => simp only [hq, cond_false] at hc; cases hc
theorem blk_two {W : World} {g : Nat} {t : TypeId} {u v : Value} (h : Blk W g t #[u, v]) (a b : Value) : Blk ((W.setCell ⟨g, 0, none⟩ a).setCell ⟨g, 1, none⟩ b) g t #[a, b] := by
  have := (h.set_ 0 a).set_ 1 b
  simpa using this
set_option maxRecDepth 100000 in
set_option maxHeartbeats 1000000 in
theorem Step_any (a : Cou.Ac) (vd vc : Value) (hdr : a.drawn < 2 ^ 64) (i : Int) (c : Cou.Ct) (w : World) (F : Nat → Prop) (hA : AcAt F w vd vc a) :
    Calls Tryd.prog 17 #[.agg #[vd, vc, .int .u64 a.drawn], .int .i64 i, .agg #[.int .i64 c.1, .int .i64 c.2]] w fun e w' => e = .returned (stepRV (stepR a i c)) ∧ Below w.heap.size w w' := by
  obtain ⟨c1, c2⟩ := c
  obtain ⟨w1, hw1⟩ : ∃ w1 : World, ((w.alloc (.cells #[vd, vc, .int .u64 a.drawn] 34)).alloc (.cells #[.int .i64 c1, .int .i64 c2] 28)).alloc (.cells #[.int .i64 0, .int .i64 0] 28) = w1 := ⟨_, rfl⟩
  have x0 : w1.cell? ⟨w.heap.size, 0, none⟩ = some vd := by rw [← hw1]; simp [go_sem]
  have x1 : w1.cell? ⟨w.heap.size, 1, none⟩ = some vc := by rw [← hw1]; simp [go_sem]
  have x2 : w1.cell? ⟨w.heap.size, 2, none⟩ = some (.int .u64 a.drawn) := by rw [← hw1]; simp [go_sem]
  have y0 : w1.cell? ⟨w.heap.size + 1, 0, none⟩ = some (.int .i64 c1) := by rw [← hw1]; simp [go_sem]
  have y1 : w1.cell? ⟨w.heap.size + 1, 1, none⟩ = some (.int .i64 c2) := by rw [← hw1]; simp [go_sem]
  have K1 : Hid (Blk w1 (w.heap.size + 1 + 1) 28 #[.int .i64 0, .int .i64 0]) := Lib.hid (by
    have := Blk.new ((w.alloc (.cells #[vd, vc, .int .u64 a.drawn] 34)).alloc (.cells #[.int .i64 c1, .int .i64 c2] 28)) 28 #[.int .i64 0, .int .i64 0]
    rw [hw1] at this
    simpa using this)
  have B1 : Below w.heap.size w w1 := by rw [← hw1]; exact Ba (Ba (Ba (B0 w) _) _) _
  have lt1 : w.heap.size + 1 + 1 < w1.heap.size := by rw [← hw1]; simp
  have l1 : w.heap.size + 1 < w1.heap.size := by omega
  have l0 : w.heap.size < w1.heap.size := by omega
  have hF := hA.inW
  obtain ⟨Ac, cc, hvc, _, _⟩ := id hA.cp.open
  have HRT := Lib.hid (right_any a vd vc hdr w1 F (hA.onB hF B1))
  have HCT := Lib.hid (fun (hok : Cou.Ok a) W (hb : Below w.heap.size w W) => contact_any a hok vd vc (c1, c2) a.drawn W F (hA.onB hF hb))
  have HST0 := Lib.hid (fun (hok : Cou.Ok a) (n : Nat) (hn : n < a.cps.length) (hs : -1000 ≤ c2 ∧ c2 ≤ 1000) W (hb : Below w.heap.size w W) => step_any a hok vd vc n hn (c1, c2) hs a.drawn W F (hA.onB hF hb))
  subst hvc
  clear hA hF
  rcases Classical.em (Cou.rightF a ≠ 0) with hr | hr
  · have HE : Hid (stepR a i (c1, c2) = ((0, 0), false, Cou.rightF a)) := Lib.hid (by unfold stepR; rw [if_neg hr])
    have d1 : (Cou.rightF a != 0) = true := by simpa using hr
    clear HCT HST0 hr
    go_enter Tryd.func17, Tryd.ntmps17
    go_wp2_with (first
      | (go_at_call 35; (with_reducible refine (HRT.out.mono ?_)); rintro e w2 ⟨rfl, hb2⟩; have x0' := (Bc hb2 l0).trans x0; have x1' := (Bc hb2 l0).trans x1; have x2' := (Bc hb2 l0).trans x2; have y0' := (Bc hb2 l1).trans y0; have y1' := (Bc hb2 l1).trans y1; have B2 := Bt B1 hb2; have l2 := Nat.lt_of_lt_of_le lt1 hb2.size; have K2 := Lib.hid (K1.out.below hb2 lt1); have fz := K2.out.frozen; have k0 := K2.out.cell 0; have k1 := K2.out.cell 1; simp only [List.getElem?_toArray, List.getElem?_cons_zero, List.getElem?_cons_succ] at k0 k1))
    refine bodyPost_ret (v := .tuple #[.agg #[.int .i64 0, .int .i64 0], .bool false, .int .i64 (Cou.rightF a)]) ?_ rfl ?_
    · have KF := blk_two K2.out (.int .i64 0) (.int .i64 0)
      have m0 := KF.cell 0
      have m1 := KF.cell 1
      simp only [List.getElem?_toArray, List.getElem?_cons_zero, List.getElem?_cons_succ] at m0 m1
      clear K1 K2 HRT HE
      simp [results, Tryd.f17, go_sem, m0, m1]
    · exact ⟨by rw [HE.out]; rfl, Bs (Bs B2 _ (by simp; omega)) _ (by simp; omega)⟩
  replace hr : Cou.rightF a = 0 := Classical.not_not.1 hr
  have hok := Cou.right_ok hr
  rw [hr] at HRT
  have HCT2 := Lib.hid (HCT.out hok)
  have hst : stepR a i (c1, c2) = (if i < 0 ∨ (a.cps.length : Int) ≤ i then ((0, 0), false, 10) else if Cou.wrongF a (c1, c2) = 0 then (match Cou.stepF a i.toNat (c1, c2) with | some t => (t, true, 0) | none => ((0, 0), false, 0)) else ((0, 0), false, Cou.wrongF a (c1, c2)) : Cou.Ct × Bool × Int) := by unfold stepR; rw [if_pos hr]
  clear HCT hr
  by_cases h1 : i < 0
  · have HE : Hid (stepR a i (c1, c2) = ((0, 0), false, 10)) := Lib.hid (by rw [hst, if_pos (.inl h1)])
    have d1 : decide (i < 0) = true := decide_eq_true h1
    clear HST0 hst h1 HCT2
    go_enter Tryd.func17, Tryd.ntmps17
    go_wp2_with (first
      | (go_at_call 35; (with_reducible refine (HRT.out.mono ?_)); rintro e w2 ⟨rfl, hb2⟩; have x0' := (Bc hb2 l0).trans x0; have x1' := (Bc hb2 l0).trans x1; have x2' := (Bc hb2 l0).trans x2; have y0' := (Bc hb2 l1).trans y0; have y1' := (Bc hb2 l1).trans y1; have B2 := Bt B1 hb2; have l2 := Nat.lt_of_lt_of_le lt1 hb2.size; have K2 := Lib.hid (K1.out.below hb2 lt1); have fz := K2.out.frozen; have k0 := K2.out.cell 0; have k1 := K2.out.cell 1; simp only [List.getElem?_toArray, List.getElem?_cons_zero, List.getElem?_cons_succ] at k0 k1))
    refine bodyPost_ret (v := .tuple #[.agg #[.int .i64 0, .int .i64 0], .bool false, .int .i64 (10)]) ?_ rfl ?_
    · have KF := blk_two K2.out (.int .i64 0) (.int .i64 0)
      have m0 := KF.cell 0
      have m1 := KF.cell 1
      simp only [List.getElem?_toArray, List.getElem?_cons_zero, List.getElem?_cons_succ] at m0 m1
      clear K1 K2 HRT HE
      simp [results, Tryd.f17, go_sem, m0, m1]
    · exact ⟨by rw [HE.out]; rfl, Bs (Bs B2 _ (by simp; omega)) _ (by simp; omega)⟩
  have d1 : decide (i < 0) = false := decide_eq_false h1
  by_cases h2 : (a.cps.length : Int) ≤ i
  · have HE : Hid (stepR a i (c1, c2) = ((0, 0), false, 10)) := Lib.hid (by rw [hst, if_pos (.inr h2)])
    have d2 : decide ((a.cps.length : Int) ≤ i) = true := decide_eq_true h2
    clear HST0 hst h1 h2 HCT2
    go_enter Tryd.func17, Tryd.ntmps17
    go_wp2_with (first
      | (go_at_call 35; (with_reducible refine (HRT.out.mono ?_)); rintro e w2 ⟨rfl, hb2⟩; have x0' := (Bc hb2 l0).trans x0; have x1' := (Bc hb2 l0).trans x1; have x2' := (Bc hb2 l0).trans x2; have y0' := (Bc hb2 l1).trans y0; have y1' := (Bc hb2 l1).trans y1; have B2 := Bt B1 hb2; have l2 := Nat.lt_of_lt_of_le lt1 hb2.size; have K2 := Lib.hid (K1.out.below hb2 lt1); have fz := K2.out.frozen; have k0 := K2.out.cell 0; have k1 := K2.out.cell 1; simp only [List.getElem?_toArray, List.getElem?_cons_zero, List.getElem?_cons_succ] at k0 k1))
    refine bodyPost_ret (v := .tuple #[.agg #[.int .i64 0, .int .i64 0], .bool false, .int .i64 (10)]) ?_ rfl ?_
    · have KF := blk_two K2.out (.int .i64 0) (.int .i64 0)
      have m0 := KF.cell 0
      have m1 := KF.cell 1
      simp only [List.getElem?_toArray, List.getElem?_cons_zero, List.getElem?_cons_succ] at m0 m1
      clear K1 K2 HRT HE
      simp [results, Tryd.f17, go_sem, m0, m1]
    · exact ⟨by rw [HE.out]; rfl, Bs (Bs B2 _ (by simp; omega)) _ (by simp; omega)⟩
  have d2 : decide ((a.cps.length : Int) ≤ i) = false := decide_eq_false h2
  rw [if_neg (by omega)] at hst
  obtain ⟨n, rfl⟩ : ∃ n : Nat, i = n := ⟨i.toNat, by omega⟩
  rw [Int.toNat_natCast] at hst
  have hn : n < a.cps.length := by omega
  clear h1 h2
  by_cases hc : Cou.wrongF a (c1, c2) = 0
  · rw [if_pos hc] at hst
    have hin : Cou.InA a (c1, c2) := wrongF_in hc
    have hs := inA_small hok hin
    have hST := HST0.out hok n hn ⟨hs.2.2.1, hs.2.2.2⟩
    rw [hc] at HCT2
    clear HST0 hin hs hc
    cases hsf : Cou.stepF a n (c1, c2) with
    | none =>
      rw [hsf] at hST hst
      have HE : Hid (stepR a (n : Int) (c1, c2) = ((0, 0), false, 0)) := Lib.hid hst
      unfold stepV at hST
      have HST := Lib.hid hST
      clear hST hst hok
      go_enter Tryd.func17, Tryd.ntmps17
      go_wp2_with (first
        | (go_at_call 35; (with_reducible refine (HRT.out.mono ?_)); rintro e w2 ⟨rfl, hb2⟩; have x0' := (Bc hb2 l0).trans x0; have x1' := (Bc hb2 l0).trans x1; have x2' := (Bc hb2 l0).trans x2; have y0' := (Bc hb2 l1).trans y0; have y1' := (Bc hb2 l1).trans y1; have B2 := Bt B1 hb2; have l2 := Nat.lt_of_lt_of_le lt1 hb2.size; have K2 := Lib.hid (K1.out.below hb2 lt1); have fz := K2.out.frozen; have k0 := K2.out.cell 0; have k1 := K2.out.cell 1; simp only [List.getElem?_toArray, List.getElem?_cons_zero, List.getElem?_cons_succ] at k0 k1)
        | (go_at_call 37; (with_reducible refine ((HCT2.out _ B2).mono ?_)); rintro e w3 ⟨rfl, hb3⟩; have x0'' := (Bc hb3 (by omega)).trans x0'; have x1'' := (Bc hb3 (by omega)).trans x1'; have x2'' := (Bc hb3 (by omega)).trans x2'; have y0'' := (Bc hb3 (by omega)).trans y0'; have y1'' := (Bc hb3 (by omega)).trans y1'; have B3 := Bt B2 hb3; have K3 := Lib.hid (K2.out.below hb3 l2); have l3 := Nat.lt_of_lt_of_le l2 hb3.size; have fz3 := K3.out.frozen; have k03 := K3.out.cell 0; have k13 := K3.out.cell 1; simp only [List.getElem?_toArray, List.getElem?_cons_zero, List.getElem?_cons_succ] at k03 k13)
        | (go_at_call 40; (with_reducible refine ((HST.out _ B3).mono ?_)); rintro e w4 ⟨rfl, hb4⟩; have B4 := Bt B3 hb4; have K4 := Lib.hid (K3.out.below hb4 l3); have fz4 := K4.out.frozen; have k04 := K4.out.cell 0; have k14 := K4.out.cell 1; simp only [List.getElem?_toArray, List.getElem?_cons_zero, List.getElem?_cons_succ] at k04 k14; have K5 := Lib.hid (blk_two K4.out (.int .i64 0) (.int .i64 0)); have fz5 := K5.out.frozen; have k05 := K5.out.cell 0; have k15 := K5.out.cell 1; simp only [List.getElem?_toArray, List.getElem?_cons_zero, List.getElem?_cons_succ] at k05 k15))
      refine bodyPost_ret (v := .tuple #[.agg #[.int .i64 0, .int .i64 0], .bool false, .int .i64 (0)]) ?_ rfl ?_
      · have KF := blk_two K5.out (.int .i64 0) (.int .i64 0)
        have m0 := KF.cell 0
        have m1 := KF.cell 1
        simp only [List.getElem?_toArray, List.getElem?_cons_zero, List.getElem?_cons_succ] at m0 m1
        clear K1 K2 K3 K4 K5 HRT HE HCT2 HST
        simp [results, Tryd.f17, go_sem, m0, m1]
      · exact ⟨by rw [HE.out]; rfl, Bs (Bs (Bs (Bs B4 _ (by simp; omega)) _ (by simp; omega)) _ (by simp; omega)) _ (by simp; omega)⟩
    | some t =>
      obtain ⟨t1, t2⟩ := t
      rw [hsf] at hST hst
      have HE : Hid (stepR a (n : Int) (c1, c2) = ((t1, t2), true, 0)) := Lib.hid hst
      unfold stepV at hST
      have HST := Lib.hid hST
      clear hST hst hok
      go_enter Tryd.func17, Tryd.ntmps17
      go_wp2_with (first
        | (go_at_call 35; (with_reducible refine (HRT.out.mono ?_)); rintro e w2 ⟨rfl, hb2⟩; have x0' := (Bc hb2 l0).trans x0; have x1' := (Bc hb2 l0).trans x1; have x2' := (Bc hb2 l0).trans x2; have y0' := (Bc hb2 l1).trans y0; have y1' := (Bc hb2 l1).trans y1; have B2 := Bt B1 hb2; have l2 := Nat.lt_of_lt_of_le lt1 hb2.size; have K2 := Lib.hid (K1.out.below hb2 lt1); have fz := K2.out.frozen; have k0 := K2.out.cell 0; have k1 := K2.out.cell 1; simp only [List.getElem?_toArray, List.getElem?_cons_zero, List.getElem?_cons_succ] at k0 k1)
        | (go_at_call 37; (with_reducible refine ((HCT2.out _ B2).mono ?_)); rintro e w3 ⟨rfl, hb3⟩; have x0'' := (Bc hb3 (by omega)).trans x0'; have x1'' := (Bc hb3 (by omega)).trans x1'; have x2'' := (Bc hb3 (by omega)).trans x2'; have y0'' := (Bc hb3 (by omega)).trans y0'; have y1'' := (Bc hb3 (by omega)).trans y1'; have B3 := Bt B2 hb3; have K3 := Lib.hid (K2.out.below hb3 l2); have l3 := Nat.lt_of_lt_of_le l2 hb3.size; have fz3 := K3.out.frozen; have k03 := K3.out.cell 0; have k13 := K3.out.cell 1; simp only [List.getElem?_toArray, List.getElem?_cons_zero, List.getElem?_cons_succ] at k03 k13)
        | (go_at_call 40; (with_reducible refine ((HST.out _ B3).mono ?_)); rintro e w4 ⟨rfl, hb4⟩; have B4 := Bt B3 hb4; have K4 := Lib.hid (K3.out.below hb4 l3); have fz4 := K4.out.frozen; have k04 := K4.out.cell 0; have k14 := K4.out.cell 1; simp only [List.getElem?_toArray, List.getElem?_cons_zero, List.getElem?_cons_succ] at k04 k14; have K5 := Lib.hid (blk_two K4.out (.int .i64 t1) (.int .i64 t2)); have fz5 := K5.out.frozen; have k05 := K5.out.cell 0; have k15 := K5.out.cell 1; simp only [List.getElem?_toArray, List.getElem?_cons_zero, List.getElem?_cons_succ] at k05 k15))
      refine bodyPost_ret (v := .tuple #[.agg #[.int .i64 t1, .int .i64 t2], .bool true, .int .i64 (0)]) ?_ rfl ?_
      · have KF := blk_two K5.out (.int .i64 t1) (.int .i64 t2)
        have m0 := KF.cell 0
        have m1 := KF.cell 1
        simp only [List.getElem?_toArray, List.getElem?_cons_zero, List.getElem?_cons_succ] at m0 m1
        clear K1 K2 K3 K4 K5 HRT HE HCT2 HST
        simp [results, Tryd.f17, go_sem, m0, m1]
      · exact ⟨by rw [HE.out]; rfl, Bs (Bs (Bs (Bs B4 _ (by simp; omega)) _ (by simp; omega)) _ (by simp; omega)) _ (by simp; omega)⟩
  · rw [if_neg hc] at hst
    have HE := Lib.hid hst
    have d3 : (Cou.wrongF a (c1, c2) != 0) = true := by simpa using hc
    clear HST0 hst hc
    go_enter Tryd.func17, Tryd.ntmps17
    go_wp2_with (first
      | (go_at_call 35; (with_reducible refine (HRT.out.mono ?_)); rintro e w2 ⟨rfl, hb2⟩; have x0' := (Bc hb2 l0).trans x0; have x1' := (Bc hb2 l0).trans x1; have x2' := (Bc hb2 l0).trans x2; have y0' := (Bc hb2 l1).trans y0; have y1' := (Bc hb2 l1).trans y1; have B2 := Bt B1 hb2; have l2 := Nat.lt_of_lt_of_le lt1 hb2.size; have K2 := Lib.hid (K1.out.below hb2 lt1); have fz := K2.out.frozen; have k0 := K2.out.cell 0; have k1 := K2.out.cell 1; simp only [List.getElem?_toArray, List.getElem?_cons_zero, List.getElem?_cons_succ] at k0 k1)
      | (go_at_call 37; (with_reducible refine ((HCT2.out _ B2).mono ?_)); rintro e w3 ⟨rfl, hb3⟩; have x0'' := (Bc hb3 (by omega)).trans x0'; have x1'' := (Bc hb3 (by omega)).trans x1'; have x2'' := (Bc hb3 (by omega)).trans x2'; have y0'' := (Bc hb3 (by omega)).trans y0'; have y1'' := (Bc hb3 (by omega)).trans y1'; have B3 := Bt B2 hb3; have K3 := Lib.hid (K2.out.below hb3 l2); have l3 := Nat.lt_of_lt_of_le l2 hb3.size; have fz3 := K3.out.frozen; have k03 := K3.out.cell 0; have k13 := K3.out.cell 1; simp only [List.getElem?_toArray, List.getElem?_cons_zero, List.getElem?_cons_succ] at k03 k13))
    refine bodyPost_ret (v := .tuple #[.agg #[.int .i64 0, .int .i64 0], .bool false, .int .i64 (Cou.wrongF a (c1, c2))]) ?_ rfl ?_
    · have KF := blk_two K3.out (.int .i64 0) (.int .i64 0)
      have m0 := KF.cell 0
      have m1 := KF.cell 1
      simp only [List.getElem?_toArray, List.getElem?_cons_zero, List.getElem?_cons_succ] at m0 m1
      clear K1 K2 K3 HRT HE HCT2
      simp [results, Tryd.f17, go_sem, m0, m1]
    · exact ⟨by rw [HE.out]; rfl, Bs (Bs B3 _ (by simp; omega)) _ (by simp; omega)⟩
end Go.Proofs.YtnkjhppjjklgfaaDoor
namespace Go.Proofs.YtnkjhppjjklgfaaDoor
open Go Go.RowKit Go.Shelf
namespace Cou
/-- n contacts of division d, from key k on. -/
def keysF (d : Int) : Int → Nat → List Ct
  | _, 0 => []
  | k, n + 1 => (d, k) :: keysF d (k + 1) n
/-- All contacts of divisions, of which the first has number d. -/
def ctsF : Nat → List (Int × Int) → List Ct
  | _, [] => []
  | d, c :: r => keysF d c.1 (c.2 + 1 - c.1).toNat ++ ctsF (d + 1) r
theorem keysF_mem {d : Int} {t : Ct} : ∀ {k : Int} {n : Nat}, t ∈ keysF d k n ↔ t.1 = d ∧ k ≤ t.2 ∧ t.2 < k + n
  | k, 0 => by simp [keysF]
  | k, n + 1 => by
    rw [keysF, List.mem_cons, keysF_mem]
    constructor
    · rintro (rfl | h)
      · exact ⟨rfl, Int.le_refl _, by show k < _; omega⟩
      · omega
    · intro h
      by_cases e : t.2 = k
      · exact .inl (Prod.ext h.1 e)
      · exact .inr (by omega)
theorem keysF_len {d : Int} : ∀ {k : Int} {n : Nat}, (keysF d k n).length = n
  | _, 0 => rfl
  | k, n + 1 => by rw [keysF, List.length_cons, keysF_len]
theorem ctsF_mem {t : Ct} : ∀ {l : List (Int × Int)} {d : Nat}, t ∈ ctsF d l ↔ ∃ i, ∃ h : i < l.length, t.1 = d + i ∧ l[i].1 ≤ t.2 ∧ t.2 ≤ l[i].2
  | [], d => by simp [ctsF]
  | c :: r, d => by
    rw [ctsF, List.mem_append, keysF_mem, ctsF_mem]
    constructor
    · rintro (h | ⟨i, hi, h1, h2⟩)
      · exact ⟨0, by simp, by omega, by simp only [List.getElem_cons_zero]; omega⟩
      · exact ⟨i + 1, by simpa using hi, by omega, by simpa using h2⟩
    · rintro ⟨i, hi, h1, h2⟩
      cases i with
      | zero => simp only [List.getElem_cons_zero] at h2; exact .inl (by omega)
      | succ i => exact .inr ⟨i, by simpa using hi, by omega, by simpa using h2⟩
theorem ctsF_inA {a : Ac} {t : Ct} : t ∈ ctsF 0 a.divs ↔ InA a t := by
  rw [ctsF_mem]
  unfold InA inB
  constructor
  · rintro ⟨i, hi, h1, h2, h3⟩
    have e : t.1.toNat = i := by omega
    refine ⟨by omega, by omega, ?_⟩
    rw [e, List.getD_eq_getElem?_getD, List.getElem?_eq_getElem hi]
    simp only [Option.getD_some, Bool.and_eq_true, decide_eq_true_eq]
    exact ⟨h2, h3⟩
  · rintro ⟨h1, h2, h3⟩
    have hi : t.1.toNat < a.divs.length := by omega
    rw [List.getD_eq_getElem?_getD, List.getElem?_eq_getElem hi] at h3
    simp only [Option.getD_some, Bool.and_eq_true, decide_eq_true_eq] at h3
    exact ⟨t.1.toNat, hi, by omega, h3.1, h3.2⟩
theorem ctsF_len : ∀ {l : List (Int × Int)} {d : Nat}, (∀ c ∈ l, 0 ≤ c.1 ∧ c.1 ≤ c.2 ∧ c.2 ≤ 127) → (ctsF d l).length ≤ 128 * l.length
  | [], _, _ => by simp [ctsF]
  | c :: r, d, h => by
    have h1 := h c (by simp)
    have h2 := ctsF_len (d := d + 1) fun c hc => h c (List.mem_cons_of_mem _ hc)
    rw [ctsF, List.length_append, keysF_len, List.length_cons]
    omega
end Cou
set_option maxRecDepth 100000 in
set_option maxHeartbeats 2000000 in
theorem contacts_any (a : Cou.Ac) (hok : Cou.Ok a) (vd vc : Value) (w : World) (F : Nat → Prop) (hA : AcAt F w vd vc a) :
    Calls Tryd.prog 41 #[.agg #[vd, vc, .int .u64 a.drawn]] w fun e w' => ∃ v, e = .returned v ∧ SlCt (fun b => w.heap.size ≤ b) w' v (Cou.ctsF 0 a.divs) ∧ Below w.heap.size w w' := by
  obtain ⟨Ad, cd, rfl, hd1, hdat⟩ := id hA.dv.open
  have hF := hA.inW
  have hdv := hok.div
  have hlen : (Cou.ctsF 0 a.divs).length ≤ 1024 := by
    have := Cou.ctsF_len (d := 0) hdv
    have := hok.nd
    omega
  clear hA
  go_enter Tryd.func41, Tryd.ntmps41
  go_wp2_with fail
  obtain ⟨w1, hw1⟩ : ∃ w1 : World, w.alloc (.cells #[.slice Ad a.divs.length cd, vc, .int .u64 a.drawn] 34) = w1 := ⟨_, rfl⟩
  have B1 : Below w.heap.size w w1 := by rw [← hw1]; exact Ba (B0 w) _
  rw [hw1]
  clear hw1
  have HB1 := Lib.hid B1
  clear B1
  have hnd := hok.nd
  go_loopg [3, 10] a.divs.length (fun gg s3 s10 wr => ∃ (k : Nat) (out : List Cou.Ct), k ≤ a.divs.length ∧ a.divs.length - k ≤ gg ∧ s10 = .int .i64 k ∧ Aside (OwnL w.heap.size 28 2 CtC wr s3 out) ∧ Aside (out ++ Cou.ctsF k (a.divs.drop k) = Cou.ctsF 0 a.divs) ∧ Aside (Below w.heap.size w wr))
  case atStart => exact ⟨0, [], by omega, by omega, rfl, OwnL.nil, by rw [List.drop_zero]; rfl, HB1.out⟩
  case round =>
    obtain ⟨k, out, hk, hg, rfl, HO, HE, HB⟩ := hrel
    by_cases hlt : k < a.divs.length
    · have hki : decide ((k : Int) < a.divs.length) = true := decide_eq_true (by omega)
      have hkl : (k : Int) < a.divs.length := by omega
      obtain ⟨ad, rfl, hfb, hfl⟩ := hdat k hlt
      have hfb2 : (ad.add (k * 2)).block < w.heap.size := by rw [block_of_add]; exact hF _ hfb
      have hfl2 := hfl.below HB hfb2
      have f0 := hfl2.f0 rfl
      have f1 := hfl2.f1 rfl
      have hdk := hdv a.divs[k] (List.getElem_mem hlt)
      have hE2 : out ++ (Cou.keysF k a.divs[k].1 (a.divs[k].2 + 1 - a.divs[k].1).toNat ++ Cou.ctsF (k + 1) (a.divs.drop (k + 1))) = Cou.ctsF 0 a.divs := by
        rw [← HE, List.drop_eq_getElem_cons hlt, Cou.ctsF]
      generalize a.divs[k] = x at *
      obtain ⟨lo, hi⟩ := x
      dsimp only at f0 f1 hdk hE2
      have HEx := Lib.hid hE2
      have HOx := Lib.hid HO
      have HBx := Lib.hid HB
      clear HE HO HB hE2 hfl hfl2 HB1
      go_wp2_with fail
      obtain ⟨bx, hbx⟩ : ∃ bx, wr.heap.size = bx := ⟨_, rfl⟩
      obtain ⟨w2, hw2⟩ : ∃ w2 : World, wr.alloc (.cells #[.int .i64 lo, .int .i64 hi] 58) = w2 := ⟨_, rfl⟩
      have hBb : Blk w2 bx 58 #[.int .i64 lo, .int .i64 hi] := by rw [← hw2, ← hbx]; exact Blk.new _ _ _
      have hOb : OwnL w.heap.size 28 2 CtC w2 u3 out := by rw [← hw2]; exact HOx.out.alloc _ fun _ _ h => h
      have hWb : Below w.heap.size w w2 := by rw [← hw2]; exact Ba HBx.out _
      rw [hw2, hbx]
      obtain ⟨n, hn⟩ : ∃ n, (hi + 1 - lo).toNat = n := ⟨_, rfl⟩
      rw [hn] at HEx
      have hn1 : lo + (n : Int) = hi + 1 := by omega
      have hn2 : n ≤ 128 := by omega
      clear hw2 hbx HOx HBx hn f0 f1
      have HBb := Lib.hid hBb
      have HOb := Lib.hid hOb
      have HWb := Lib.hid hWb
      clear hBb hOb hWb
      go_loopg [3, 6] n (fun gg s3 s6 wr2 => ∃ (j : Nat) (out2 : List Cou.Ct), j ≤ n ∧ n - j ≤ gg ∧ s6 = .int .i64 (lo + j) ∧ Aside (OwnL w.heap.size 28 2 CtC wr2 s3 out2) ∧ Aside (out2 ++ (Cou.keysF k (lo + j) (n - j) ++ Cou.ctsF (k + 1) (a.divs.drop (k + 1))) = Cou.ctsF 0 a.divs) ∧ Aside (Blk wr2 bx 58 #[.int .i64 lo, .int .i64 hi]) ∧ Aside (Below w.heap.size w wr2))
      case atStart => exact ⟨0, out, by omega, by omega, by simp, HOb.out, (show Aside _ from by show _ = _; simpa using HEx.out), HBb.out, HWb.out⟩
      case round =>
        clear HOb HEx HBb HWb
        obtain ⟨j, out2, hj, hg2, rfl, HO2, HE2, HB2, HW2⟩ := hrel
        have b1 := HB2.cell 1
        simp only [List.getElem?_toArray, List.getElem?_cons_zero, List.getElem?_cons_succ] at b1
        by_cases hjl : j < n
        · have hkj : decide (lo + (j : Int) ≤ hi) = true := decide_eq_true (by omega)
          obtain ⟨cs, q1, q2, q3⟩ := id HO2
          have hol : out2.length ≤ 1024 := by
            have := congrArg List.length HE2
            simp only [List.length_append] at this
            omega
          have he3 : (out2 ++ [((k : Int), lo + (j : Int))]) ++ (Cou.keysF k (lo + (j + 1 : Nat)) (n - (j + 1)) ++ Cou.ctsF (k + 1) (a.divs.drop (k + 1))) = Cou.ctsF 0 a.divs := by
            rw [← HE2, show n - j = (n - (j + 1)) + 1 by omega, Cou.keysF, show lo + ((j + 1 : Nat) : Int) = lo + j + 1 by omega]
            simp
          have hbs := HW2.size
          have H3 := Lib.hid he3
          have HB3 := Lib.hid HB2
          have HW3 := Lib.hid HW2
          have HQ1 := Lib.hid q1
          have HQ2 := Lib.hid q2
          have HQ3 := Lib.hid q3
          have HL3 := Lib.hid HO2.lt
          clear HE2 HB2 HW2 HO2 q1 q2 q3 he3
          go_wp2_with (at_builtin; refine wpList_appS elemCt (by omega) rfl _ _ rfl w.heap.size _ out2.length _ rfl (HQ3.out.alloc _) ⟨wr.heap.size, 0, none⟩ 1 [.int .i64 (k : Int), .int .i64 (lo + (j : Int))] rfl rfl (Flds.new wr _ _) (by simp [Value.oneCell']) (by omega) (by omega) (by simp; omega) ?_; intro g cap w8 hown8 hg8 hgg; have HO8 := Lib.hid hown8; have HG8 := Lib.hid hg8; clear hown8 hg8 hgg)
          go_roundg (n - (j + 1))
          case measure => omega
          case rel =>
            refine ⟨j + 1, out2 ++ [((k : Int), lo + (j : Int))], by omega, by omega, by go_num, OwnL.snoc HQ1.out HQ2.out rfl rfl (fun _ _ h => h) HO8.out, H3.out, ((HB3.out.alloc _).grown HG8.out fun e => ?_), (Ba HW3.out _).grown HG8.out (by simp; omega) fun b e => (HL3.out b e).1⟩
            exact own_ne HQ3.out HB3.out (by decide) e.symm
        · have hkj : decide (lo + (j : Int) ≤ hi) = false := decide_eq_false (by omega)
          have hjn : j = n := by omega
          subst hjn
          have he3 : out2 ++ Cou.ctsF (k + 1) (a.divs.drop (k + 1)) = Cou.ctsF 0 a.divs := by rw [← HE2, Nat.sub_self]; simp [Cou.keysF]
          have H3 := Lib.hid he3
          have HO3 := Lib.hid HO2
          have HW3 := Lib.hid HW2
          clear HE2 HB2 HW2 HO2 he3
          go_wp2_with fail
          go_roundg (a.divs.length - (k + 1))
          case measure => omega
          case rel => exact ⟨k + 1, out2, by omega, by omega, by go_num, HO3.out, H3.out, HW3.out⟩
    · have hki : decide ((k : Int) < a.divs.length) = false := decide_eq_false (by omega)
      have hkk : k = a.divs.length := by omega
      subst hkk
      have he : out = Cou.ctsF 0 a.divs := by rw [← HE, List.drop_length]; simp [Cou.ctsF]
      subst he
      have HOx := Lib.hid HO
      have HBx := Lib.hid HB
      clear HE HO HB hdat HB1
      go_wp2_with fail
      go_ret
      exact ⟨_, rfl, HOx.out.sl (by omega) (fun b h _ _ => h), HBx.out⟩
end Go.Proofs.YtnkjhppjjklgfaaDoor
namespace Go.Proofs.YtnkjhppjjklgfaaDoor
open Go Go.RowKit Go.Shelf
namespace Cou
def getM (M : List (List Bool)) (i j : Nat) : Bool := (M.getD i []).getD j false
def setM (M : List (List Bool)) (i j : Nat) : List (List Bool) := M.set i ((M.getD i []).set j true)
theorem setM_len {M : List (List Bool)} {i j : Nat} : (setM M i j).length = M.length := by unfold setM; simp
theorem getM_set {M : List (List Bool)} {n i j : Nat} (hr : ∀ r ∈ M, r.length = n) (hi : i < M.length) (hj : j < n) (i' j' : Nat) : getM (setM M i j) i' j' = (decide (i' = i ∧ j' = j) || getM M i' j') := by
  have hri : (M.getD i []).length = n := by
    rw [List.getD_eq_getElem?_getD, List.getElem?_eq_getElem hi]
    exact hr _ (List.getElem_mem hi)
  unfold getM setM
  by_cases e : i' = i
  · subst e
    rw [List.getD_eq_getElem?_getD (l := M.set i' _), List.getElem?_set_self hi, Option.getD_some]
    by_cases e2 : j' = j
    · subst e2
      rw [List.getD_eq_getElem?_getD, List.getElem?_set_self (by omega)]
      simp
    · rw [List.getD_eq_getElem?_getD, List.getElem?_set_ne (by omega), ← List.getD_eq_getElem?_getD]
      simp [e2]
  · rw [List.getD_eq_getElem?_getD (l := M.set i _), List.getElem?_set_ne (by omega), ← List.getD_eq_getElem?_getD]
    simp [e]
theorem setM_row {M : List (List Bool)} {n i j : Nat} (hr : ∀ r ∈ M, r.length = n) (hi : i < M.length) : ∀ r ∈ setM M i j, r.length = n := fun r h => by
  unfold setM at h
  rcases List.mem_or_eq_of_mem_set h with h | h
  · exact hr r h
  · subst h
    rw [List.length_set, List.getD_eq_getElem?_getD, List.getElem?_eq_getElem hi]
    exact hr _ (List.getElem_mem hi)
theorem getM_repl {n m i j : Nat} : getM (List.replicate n (List.replicate m false)) i j = false := by
  unfold getM
  rw [List.getD_eq_getElem?_getD, List.getD_eq_getElem?_getD]
  rw [List.getElem?_replicate]
  split
  · simp only [Option.getD_some, List.getElem?_replicate]
    split <;> rfl
  · rfl
end Cou
def RowC (n : Nat) (_ : World) (cs : List Value) (g : Nat) : Prop := cs = [.slice (some ⟨g, 0, none⟩) n n]
theorem elemBB : ElemN Tryd.prog 49 56 1 24 := ⟨Tryd.underlying49, by
  obtain ⟨i, hi, hz, hs, hb⟩ := info_parts (show (Tryd.prog.info? 56).map (fun i => (i.zero, i.size, i.bytes)) = some (some (.slice none 0 0), 1, 24) by kernel_rfl)
  exact ⟨i, _, hi, hz, hs, hb, rfl⟩⟩
/-- A matrix in memory: its rows' blocks, its rows. -/
structure MatAt (base n : Nat) (v : Value) (gs : List Nat) (M : List (List Bool)) (w : World) : Prop where
  own : OwnL base 56 1 (RowC n) w v gs
  len : gs.length = M.length
  nd : gs.Nodup
  blk : ∀ i (h : i < gs.length), Blk w gs[i] 4 ((M.getD i []).map Value.bool).toArray
  ge : ∀ g ∈ gs, base ≤ g
  row : ∀ r ∈ M, r.length = n
  big : base ≤ w.heap.size
section
variable {base n : Nat} {v : Value} {gs : List Nat} {M : List (List Bool)} {w w' : World}
theorem MatAt.start (hb : base ≤ w.heap.size) : MatAt base n (.slice none 0 0) [] [] w := ⟨OwnL.nil, rfl, List.nodup_nil, fun i h => absurd h (by simp), by simp, by simp, hb⟩
theorem MatAt.keep (h : MatAt base n v gs M w) (hb : Below w.heap.size w w') : MatAt base n v gs M w' :=
  ⟨h.own.keep rfl (fun _ hx => hx.kept (row := none) (only_of_below hb _) (by cases hv : v.ownBlock <;> simp)) fun _ _ hr => hr, h.len, h.nd, fun i hi => (h.blk i hi).below hb (h.blk i hi).lt, h.ge, h.row, Nat.le_trans h.big hb.size⟩
theorem grownBy_set (w : World) (p : Addr) (u : Value) : w.grownBy (w.setCell p u) (some p.block) :=
  ⟨rfl, rfl, rfl, by simp, fun k _ hne => Below.heap_setCell w p u k fun e => hne (by rw [e])⟩
theorem MatAt.notOwn (h : MatAt base n v gs M w) (i : Nat) (hi : i < gs.length) : v.ownBlock ≠ some gs[i] := by
  obtain ⟨cs, _, _, h3⟩ := h.own
  exact own_ne h3 (h.blk i hi) (by decide)
theorem MatAt.set (h : MatAt base n v gs M w) (i j : Nat) (hi : i < gs.length) (_ : j < n) : MatAt base n v gs (Cou.setM M i j) (w.setCell ⟨gs[i], j, none⟩ (.bool true)) := by
  have hiM : i < M.length := by have := h.len; omega
  refine ⟨h.own.keep rfl (fun _ hx => hx.kept (grownBy_set w _ _) ?_) fun _ _ hr => hr, by rw [Cou.setM_len]; exact h.len, h.nd, fun k hk => ?_, h.ge, Cou.setM_row h.row hiM, by simpa using h.big⟩
  · cases hv : v.ownBlock with
    | none => exact .inl rfl
    | some g => exact .inr fun e => h.notOwn i hi (hv.trans e)
  · by_cases e : k = i
    · subst e
      have := (h.blk k hk).set_ j (.bool true)
      unfold Cou.setM
      rw [List.getD_eq_getElem?_getD, List.getElem?_set_self hiM, Option.getD_some]
      simpa [List.map_set] using this
    · have hne : gs[k] ≠ gs[i] := fun q => e ((List.getElem_inj h.nd).1 q)
      have := (h.blk k hk).far (p := ⟨gs[i], j, none⟩) hne (.bool true)
      unfold Cou.setM
      rw [List.getD_eq_getElem?_getD, List.getElem?_set_ne (by omega), ← List.getD_eq_getElem?_getD]
      exact this
/-- A row of noughts behind the rows. -/
theorem MatAt.push {cs : List (List Value)} {v' : Value} {w3 : World} (h : MatAt base n v gs M w) (h1 : cs.length = gs.length) (h2 : ∀ i (h : i < gs.length), ∃ c, cs[i]? = some c ∧ c.length = 1 ∧ RowC n w c gs[i])
    (o : Obj) (hown : w3.ownsRow base 56 1 v' (gs.length + 1) (cs.flatten ++ [.slice (some ⟨w.heap.size, 0, none⟩) n n]))
    (hg : ((w.alloc (.cells (List.replicate n (.bool false)).toArray 4)).alloc o).grownBy w3 v.ownBlock) :
    MatAt base n v' (gs ++ [w.heap.size]) (M ++ [List.replicate n false]) w3 := by
  have hlt : ∀ g ∈ gs, g < w.heap.size := fun g hg => by
    obtain ⟨i, hi, rfl⟩ := List.getElem_of_mem hg
    exact (h.blk i hi).lt
  have hnb : v.ownBlock ≠ some w.heap.size := fun e => by have := (h.own.lt _ e).2; omega
  refine ⟨OwnL.snoc h1 h2 rfl rfl (fun _ _ q => q) hown, by simp [h.len], ?_, fun i hi => ?_, fun g hg2 => ?_, fun r hr => ?_, by have q1 := hg.size; have q2 := h.big; rw [World.size_alloc, World.size_alloc] at q1; omega⟩
  · unfold List.Nodup
    rw [List.pairwise_append]
    exact ⟨h.nd, by simp, fun x hx y hy e => by simp only [List.mem_singleton] at hy; subst hy; have := hlt x hx; omega⟩
  · rcases Nat.lt_or_ge i gs.length with q | q
    · have := (((h.blk i q).alloc (.cells (List.replicate n (.bool false)).toArray 4)).alloc o).grown hg fun e => h.notOwn i q e.symm
      rw [List.getElem_append_left q, List.getD_eq_getElem?_getD, List.getElem?_append_left (by rw [← h.len]; exact q), ← List.getD_eq_getElem?_getD]
      exact this
    · have e : i = gs.length := by simp at hi; omega
      subst e
      have := ((Blk.new w 4 (List.replicate n (.bool false)).toArray).alloc o).grown hg fun e => hnb e.symm
      have eM : (M ++ [List.replicate n false]).getD gs.length [] = List.replicate n false := by rw [h.len, List.getD_eq_getElem?_getD, List.getElem?_concat_length]; rfl
      have eg : (gs ++ [w.heap.size])[gs.length]'hi = w.heap.size := by simp
      rw [eM, eg, List.map_replicate]
      exact this
  · rcases List.mem_append.1 hg2 with q | q
    · exact h.ge g q
    · simp only [List.mem_singleton] at q; subst q; exact h.big
  · rcases List.mem_append.1 hr with q | q
    · exact h.row r q
    · simp only [List.mem_singleton] at q; subst q; simp
end
/-- A list of bools; of lists of bools. -/
def SlB (F : Nat → Prop) (w : World) (v : Value) (l : List Bool) : Prop := Sl F 1 (fun _ cs x => cs = [.bool x]) w v l
def SlBB (F : Nat → Prop) (w : World) (v : Value) (M : List (List Bool)) : Prop := Sl F 1 (fun w cs r => ∃ u, cs = [u] ∧ SlB F w u r) w v M
theorem MatAt.slBB {base n : Nat} {v : Value} {gs : List Nat} {M : List (List Bool)} {w : World} (h : MatAt base n v gs M w) (hn : n ≤ 1000) (hm : M.length ≤ 1000) {F : Nat → Prop} (hF : ∀ b, base ≤ b → F b) : SlBB F w v M := by
  have hs := h.own.sl (F := F) (by rw [h.len]; omega) (fun b q _ _ => hF b q)
  obtain ⟨A, c, hv, h1, h2, h3⟩ := hs
  refine ⟨A, c, by rw [← h.len]; exact hv, by rw [← h.len]; exact h1, by omega, fun i hi => ?_⟩
  have hig : i < gs.length := by rw [h.len]; exact hi
  obtain ⟨ad, cs, q1, q2, q3, q4, q5⟩ := h3 i hig
  refine ⟨ad, cs, q1, q2, q3, ⟨_, q4, some ⟨gs[i], 0, none⟩, n, ?_, ?_, ?_, fun j hj => ?_⟩, q5⟩
  · rw [h.row M[i] (List.getElem_mem hi)]
  · rw [h.row M[i] (List.getElem_mem hi)]; exact Nat.le_refl _
  · rw [h.row M[i] (List.getElem_mem hi)]; omega
  · refine ⟨⟨gs[i], 0, none⟩, [.bool M[i][j]], rfl, hF _ (h.ge _ (List.getElem_mem hig)), rfl, rfl, fun k u hu => ?_⟩
    have hk : k = 0 := by
      have := (List.getElem?_eq_some_iff.1 hu).1
      simpa using this
    subst hk
    simp at hu
    subst hu
    have e : ((⟨gs[i], 0, none⟩ : Addr).add (j * 1)).add 0 = ⟨gs[i], j, none⟩ := by
      unfold Addr.add
      split <;> simp_all
    rw [e, (h.blk i hig).cell j]
    rw [List.getD_eq_getElem?_getD, List.getElem?_eq_getElem hi]
    simp [hj]
end Go.Proofs.YtnkjhppjjklgfaaDoor
