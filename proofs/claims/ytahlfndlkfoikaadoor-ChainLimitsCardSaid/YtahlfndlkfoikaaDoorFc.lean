/- The statement of comparing chains, walked. -/
import Derived.Test.YtahlfndlkfoikaaDoorFb
import Derived.Test.YtahlfndlkfoikaaDoorEt
namespace Go.Proofs.YtahlfndlkfoikaaDoor
open Go Go.RowKit Go.Shelf
/-- What the statements of chapter 24 need of the world. -/
structure WOk (w : World) : Prop where
  tab : Tab64 w
  g : 0 < w.heap.size
  pow : TabP w
theorem WOk.below {w w' : World} (h : WOk w) (hb : Below w.heap.size w w') : WOk w' := ⟨h.tab.below hb, Nat.lt_of_lt_of_le h.g hb.size, h.pow.below hb⟩
theorem WOk.known {w : World} (h : WOk w) : Calls Tryd.prog 11 #[] w fun e w' => e = .returned (.bool true) ∧ Below w.heap.size w w' := known_any w h.tab h.g h.pow
set_option maxRecDepth 100000 in
set_option maxHeartbeats 2000000 in
theorem law_compares (v v' : Value) (x y : Int × Int) (l m : List Int) (w : World) (F : Nat → Prop) (hF : ∀ b, F b → b < w.heap.size) (h : SlI F w v l) (h' : SlI F w v' m) (hW : WOk w) :
    Calls Tryd.prog 5 #[.agg #[v, .int .i64 x.1, .int .i64 x.2], .agg #[v', .int .i64 y.1, .int .i64 y.2]] w fun e w' => e = .returned (.bool true) ∧ Below w.heap.size w w' := by
  obtain ⟨A1, c1, rfl, -, -, -⟩ := id h.open
  obtain ⟨A2, c2, rfl, -, -, -⟩ := id h'.open
  obtain ⟨x1, x2⟩ := x
  obtain ⟨y1, y2⟩ := y
  obtain ⟨w1, hw1⟩ : ∃ w1 : World, (w.alloc (.cells #[.slice A1 l.length c1, .int .i64 x1, .int .i64 x2] 56)).alloc (.cells #[.slice A2 m.length c2, .int .i64 y1, .int .i64 y2] 56) = w1 := ⟨_, rfl⟩
  obtain ⟨bA, hbA⟩ : ∃ bA, w.heap.size = bA := ⟨_, rfl⟩
  obtain ⟨bB, hbB⟩ : ∃ bB, bA + 1 = bB := ⟨_, rfl⟩
  have c3 : w1.cell? ⟨bA, 0, none⟩ = some (.slice A1 l.length c1) := by rw [← hw1, ← hbA]; simp [go_sem]
  have c4 : w1.cell? ⟨bA, 1, none⟩ = some (.int .i64 x1) := by rw [← hw1, ← hbA]; simp [go_sem]
  have c5 : w1.cell? ⟨bA, 2, none⟩ = some (.int .i64 x2) := by rw [← hw1, ← hbA]; simp [go_sem]
  have c6 : w1.cell? ⟨bB, 0, none⟩ = some (.slice A2 m.length c2) := by rw [← hw1, ← hbB, ← hbA]; simp [go_sem]
  have c7 : w1.cell? ⟨bB, 1, none⟩ = some (.int .i64 y1) := by rw [← hw1, ← hbB, ← hbA]; simp [go_sem]
  have c8 : w1.cell? ⟨bB, 2, none⟩ = some (.int .i64 y2) := by rw [← hw1, ← hbB, ← hbA]; simp [go_sem]
  have l1 : bB < w1.heap.size := by rw [← hw1, ← hbB, ← hbA]; simp
  have B1 : Below w.heap.size w w1 := by rw [← hw1]; exact Ba (Ba (B0 w) _) _
  have HK := Lib.hid (fun W (hb : Below w1.heap.size w1 W) => (show (W.cell? ⟨bA, 0, none⟩ = some (.slice A1 l.length c1) ∧ W.cell? ⟨bA, 1, none⟩ = some (.int .i64 x1) ∧ W.cell? ⟨bA, 2, none⟩ = some (.int .i64 x2)) ∧ W.cell? ⟨bB, 0, none⟩ = some (.slice A2 m.length c2) ∧ W.cell? ⟨bB, 1, none⟩ = some (.int .i64 y1) ∧ W.cell? ⟨bB, 2, none⟩ = some (.int .i64 y2) from
    ⟨⟨(Bc hb (by omega)).trans c3, (Bc hb (by omega)).trans c4, (Bc hb (by omega)).trans c5⟩, (Bc hb l1).trans c6, (Bc hb l1).trans c7, (Bc hb l1).trans c8⟩))
  have HKN := Lib.hid (fun W (hb : Below w1.heap.size w1 W) => (hW.below (Bt B1 hb)).known)
  have HL := Lib.hid (fun W (hb : Below w1.heap.size w1 W) => less_any (.slice A1 l.length c1) (.slice A2 m.length c2) l m W F (fun b q => Nat.lt_of_lt_of_le (hF b q) (Bt B1 hb).size) (SlI.keep h (Agree.below (Bt B1 hb) hF)) (SlI.keep h' (Agree.below (Bt B1 hb) hF)))
  have HR := Lib.hid (fun W (hb : Below w1.heap.size w1 W) => less_any (.slice A2 m.length c2) (.slice A1 l.length c1) m l W F (fun b q => Nat.lt_of_lt_of_le (hF b q) (Bt B1 hb).size) (SlI.keep h' (Agree.below (Bt B1 hb) hF)) (SlI.keep h (Agree.below (Bt B1 hb) hF)))
  have HCO := Lib.hid (fun W (hb : Below w1.heap.size w1 W) => Compare_any (.slice A1 l.length c1) (.slice A2 m.length c2) (x1, x2) (y1, y2) l m W F (fun b q => Nat.lt_of_lt_of_le (hF b q) (Bt B1 hb).size) (SlI.keep h (Agree.below (Bt B1 hb) hF)) (SlI.keep h' (Agree.below (Bt B1 hb) hF)))
  have HLE : Hid (Cha.cmpF l m = if Cha.lessF m l = true then 1 else if Cha.lessF l m = true then -1 else 0) := Lib.hid (Cha.cmpF_less l m)
  obtain ⟨n, hn⟩ : ∃ n, l.length = n := ⟨_, rfl⟩
  obtain ⟨k, hk⟩ : ∃ n, m.length = n := ⟨_, rfl⟩
  rw [hn, hk] at HL HR HCO HK hw1 ⊢
  obtain ⟨p, hp⟩ : ∃ p, Cha.lessF l m = p := ⟨_, rfl⟩
  obtain ⟨q, hq⟩ : ∃ q, Cha.lessF m l = q := ⟨_, rfl⟩
  obtain ⟨r, hr⟩ : ∃ r, Cha.cmpF l m = r := ⟨_, rfl⟩
  have hpq : p = true → q = false := fun e => by rw [← hq]; exact Cha.lessF_asymm (hp.trans e)
  rw [hp] at HL
  rw [hq] at HR
  rw [hr] at HCO
  rw [hp, hq, hr] at HLE
  have HB1 := Lib.hid B1
  have HW1 := Lib.hid hw1
  have HBA := Lib.hid hbA
  have HBB := Lib.hid hbB
  have HKW := Lib.hid (HKN.out w1 (B0 w1))
  clear h h' B1 hw1 hbA hbB c3 c4 c5 c6 c7 c8 l1 hn hk hp hq hr hW hF
  dsimp only at HCO
  by_cases hbig : 10 < n ∨ 10 < k
  · have hcs : (decide ((10 : Int) < n) = true ∧ decide (10 < n) = true) ∨ (decide ((10 : Int) < n) = false ∧ decide (10 < n) = false ∧ decide ((10 : Int) < k) = true ∧ decide (10 < k) = true) := by
      simp only [decide_eq_true_eq, decide_eq_false_iff_not]; omega
    clear hbig HL HR HCO HLE hpq
    rcases hcs with ⟨d1, d2⟩ | ⟨d1, d2, d3, d4⟩
    all_goals
      go_enter Tryd.func5, Tryd.ntmps5
      go_upto_region 1 with fail
      rw [HW1.out, HBA.out, HBB.out]
      go_upto_region 2 with (go_at_call 11; (with_reducible refine (HKW.out.mono ?_)); rintro e w2 ⟨rfl, hb2⟩; have HB2 := Lib.hid hb2; obtain ⟨⟨a0, a1, a2⟩, a3, a4, a5⟩ := HK.out w2 hb2; clear hb2)
      clear a0 a1 a2 a3 a4 a5
      go_wp2_with (go_at_call 11; (with_reducible refine ((HKN.out _ HB2.out).mono ?_)); rintro e w3 ⟨rfl, hb3⟩; have HB3 := Lib.hid (Bt HB2.out hb3); clear hb3)
      go_ret
      exact ⟨rfl, Bt HB1.out HB3.out⟩
  · have d1 : decide ((10 : Int) < n) = false := decide_eq_false (by omega)
    have d2 : decide (10 < n) = false := decide_eq_false (by omega)
    have d3 : decide ((10 : Int) < k) = false := decide_eq_false (by omega)
    have d4 : decide (10 < k) = false := decide_eq_false (by omega)
    clear hbig
    have hcs : (p = true ∧ q = false ∧ r = -1) ∨ (p = false ∧ q = true ∧ r = 1) ∨ (p = false ∧ q = false ∧ r = 0) := by
      have h := HLE.out
      cases p <;> cases q <;> simp_all
    clear HLE hpq
    rcases hcs with ⟨rfl, rfl, rfl⟩ | ⟨rfl, rfl, rfl⟩ | ⟨rfl, rfl, rfl⟩
    all_goals
      go_enter Tryd.func5, Tryd.ntmps5
      go_upto_region 1 with fail
      rw [HW1.out, HBA.out, HBB.out]
      go_upto_region 4 with (go_at_call 11; (with_reducible refine (HKW.out.mono ?_)); rintro e w2 ⟨rfl, hb2⟩; have HB2 := Lib.hid hb2; obtain ⟨⟨a0, a1, a2⟩, a3, a4, a5⟩ := HK.out w2 hb2; clear hb2)
      go_upto_region 6 with (go_at_call 22; (with_reducible refine ((HL.out _ HB2.out).mono ?_)); rintro e w3 ⟨rfl, hb3⟩; have HB3 := Lib.hid (Bt HB2.out hb3); clear hb3 a0 a1 a2 a3 a4 a5; obtain ⟨⟨a0, a1, a2⟩, a3, a4, a5⟩ := HK.out w3 HB3.out)
      go_upto_region 8 with (go_at_call 22; (with_reducible refine ((HR.out _ HB3.out).mono ?_)); rintro e w4 ⟨rfl, hb4⟩; have HB4 := Lib.hid (Bt HB3.out hb4); clear hb4 a0 a1 a2 a3 a4 a5; obtain ⟨⟨a0, a1, a2⟩, a3, a4, a5⟩ := HK.out w4 HB4.out)
      go_wp2_with (go_at_call 23; (with_reducible refine ((HCO.out _ HB4.out).mono ?_)); rintro e w5 ⟨rfl, hb5⟩; have HB5 := Lib.hid (Bt HB4.out hb5); clear hb5 a0 a1 a2 a3 a4 a5)
      go_ret
      exact ⟨rfl, Bt HB1.out HB5.out⟩
end Go.Proofs.YtahlfndlkfoikaaDoor
