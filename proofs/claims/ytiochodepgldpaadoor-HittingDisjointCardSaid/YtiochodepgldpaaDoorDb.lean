/- Walks over the reference of hitting: the longest lists of disjoint sets. -/
import Derived.Test.YtiochodepgldpaaDoorAa
import Derived.Test.YtiochodepgldpaaDoorHW
import Derived.Test.YtiochodepgldpaaDoorHRed
namespace Go.Proofs.YtiochodepgldpaaDoor
open Go Go.RowKit
def betterD (ws : List Nat) (best : List Nat) (b : Nat) : Bool := Hit.apartR ws (Hit.ints (Hit.members b)) 0 && (decide ((Hit.members b).length > best.length) || (decide ((Hit.members b).length = best.length) && Hit.before (Hit.members b) best))
/-- The best list of those below b. -/
def bestTo (ws : List Nat) (b : Nat) : List Nat := (List.range b).foldl (fun best b => if betterD ws best b then Hit.members b else best) []
theorem bestTo_end (ws : List Nat) : bestTo ws (Hit.bit ws.length) = Hit.disjR ws := rfl
theorem bestTo_succ (ws : List Nat) (b : Nat) : bestTo ws (b + 1) = if betterD ws (bestTo ws b) b then Hit.members b else bestTo ws b := by
  unfold bestTo; rw [List.range_succ, List.foldl_append]; rfl
theorem SlI.newer {B : Nat} {w w' : World} {v : Value} {l : List Int} (h : SlI (fun x => B ≤ x ∧ x < w.heap.size) w v l) (hb : Below w.heap.size w w') : SlI (fun x => B ≤ x ∧ x < w'.heap.size) w' v l :=
  (SlI.keep h (Agree.below hb fun x h => h.2)).mono fun x h => ⟨h.1, Nat.lt_of_lt_of_le h.2 hb.size⟩
theorem SlI.low {B : Nat} {w : World} {v : Value} {l : List Int} (h : SlI (fun x => B ≤ x ∧ x < w.heap.size) w v l) : SlI (fun x => x < w.heap.size) w v l := Sl.mono h fun x h => h.2
theorem bestTo_nil (ws : List Nat) (F : Nat → Prop) (w : World) : SlI F w (.slice none 0 0) (Hit.ints (bestTo ws 0)) := by
  show SlI F w (.slice none 0 0) ([] : List Int)
  exact Sl.nil_
theorem bestTo_len (ws : List Nat) : ∀ b, (bestTo ws b).length ≤ 64
  | 0 => by simp [bestTo]
  | b + 1 => by
    rw [bestTo_succ]
    split
    · exact Nat.le_trans (List.length_filter_le _ _) (by simp)
    · exact bestTo_len ws b
set_option maxRecDepth 100000 in
set_option maxHeartbeats 4000000 in
theorem disjointR_any (n : Int) (vs : Value) (ws : List Nat) (hw : ∀ s ∈ ws, s < 4294967296) (hwl : ws.length ≤ 8) (w : World) (F : Nat → Prop) (hF : ∀ b, F b → b < w.heap.size) (hr : SlII F w vs (setsOf ws)) :
    Calls Tryd.prog 16 #[.agg #[.int .i64 n, vs]] w fun e w' => ∃ A m c, e = .returned (.slice A m c) ∧ SlI (fun b => w.heap.size ≤ b ∧ b < w'.heap.size) w' (.slice A m c) (Hit.ints (Hit.disjR ws)) ∧ Below w.heap.size w w' := by
  have hAp : ∀ W v b, b < Hit.bit ws.length → Below w.heap.size w W → SlI (fun x => x < W.heap.size) W v (Hit.ints (Hit.members b)) → Calls Tryd.prog 39 #[.agg #[.int .i64 n, vs], v, .int .u64 0] W fun e w' => e = .returned (.bool (Hit.apartR ws (Hit.ints (Hit.members b)) 0)) ∧ Below W.heap.size W w' := fun W v b hb hW hv =>
    apartR_any n vs v ws hw (Hit.ints (Hit.members b)) (fun x hx => by
      obtain ⟨y, hy, rfl⟩ := List.mem_map.1 hx
      have := Hit.members_lt hb y hy
      omega) 0 (by decide) W F (fun x => x < W.heap.size) (fun b hb => Nat.lt_of_lt_of_le (hF b hb) hW.size) (fun _ h => h) (hr.keep (Agree.below hW hF)) hv
  obtain ⟨As, cs, rfl, _⟩ := hr.open
  have hBe : ∀ W va vb (a b : List Nat), SlI (fun x => x < W.heap.size) W va (Hit.ints a) → SlI (fun x => x < W.heap.size) W vb (Hit.ints b) → Calls Tryd.prog 40 #[va, vb] W fun e w' => e = .returned (.bool (Hit.before a b)) ∧ Below W.heap.size W w' := fun W va vb a b ha hb =>
    before_any va vb a b W _ _ (fun _ h => h) (fun _ h => h) ha hb
  have hsl : (setsOf ws).length = ws.length := setsOf_length ws
  rw [hsl] at hAp ⊢
  rw [← bestTo_end]
  have two1 := Hit.two_u64w ws.length (by omega)
  have n64 : (ws.length : Int) % 18446744073709551616 = ws.length := by omega
  have n64b : min ws.length 64 = ws.length := by omega
  have hN2 : Hit.bit ws.length ≤ 256 := Nat.pow_le_pow_right (n := 2) (by decide) hwl
  obtain ⟨N2, hNN⟩ : ∃ N2, Hit.bit ws.length = N2 := ⟨_, rfl⟩
  rw [hNN] at two1 hN2 hAp ⊢
  have HAP := Lib.hid hAp
  have HBE := Lib.hid hBe
  clear hAp hBe hr hw hNN hsl
  go_enter Tryd.func16, Tryd.ntmps16
  go_wp2_with fail
  obtain ⟨w1, hw1⟩ : ∃ w1 : World, w.alloc (.cells #[.int .i64 n, .slice As ws.length cs] 36) = w1 := ⟨_, rfl⟩
  have c0 : w1.cell? ⟨w.heap.size, 0, none⟩ = some (.int .i64 n) := by rw [← hw1]; simp [go_sem]
  have c1 : w1.cell? ⟨w.heap.size, 1, none⟩ = some (.slice As ws.length cs) := by rw [← hw1]; simp [go_sem]
  have s1 : w.heap.size < w1.heap.size := by rw [← hw1]; simp
  have B1 : Below w.heap.size w w1 := by rw [← hw1]; exact Ba (B0 w) _
  rw [hw1]
  clear hw1
  have HB1 := Lib.hid B1
  have C0 := Lib.hid c0
  have C1 := Lib.hid c1
  clear B1 c0 c1
  go_loopg [3, 4] N2 (fun gg s3 s4 wr => ∃ (b : Nat) (A : Option Addr) (m c : Nat), b ≤ N2 ∧ N2 - b ≤ gg ∧ s4 = .int .u64 b ∧ s3 = .slice A m c ∧ Aside (m = (bestTo ws b).length) ∧ Aside (SlI (fun x => w1.heap.size ≤ x ∧ x < wr.heap.size) wr (.slice A m c) (Hit.ints (bestTo ws b))) ∧ Aside (Below w1.heap.size w1 wr))
  case atStart => exact ⟨0, none, 0, 0, by omega, by omega, rfl, rfl, rfl, bestTo_nil ws (fun x => w1.heap.size ≤ x ∧ x < w1.heap.size) w1, B0 w1⟩
  case round =>
    obtain ⟨b, A, m, c, hb, hg, rfl, rfl, HM1, HS1, HB⟩ := hrel
    have k0 : wr.cell? ⟨w.heap.size, 0, none⟩ = some (.int .i64 n) := (Bc HB.out s1).trans C0.out
    have k1 : wr.cell? ⟨w.heap.size, 1, none⟩ = some (.slice As ws.length cs) := (Bc HB.out s1).trans C1.out
    by_cases hlt : b < N2
    · have hki : decide (b < N2) = true := decide_eq_true hlt
      have hki2 : decide ((b : Int) < N2) = true := decide_eq_true (by omega)
      have hmbl : (Hit.members b).length ≤ 1000000000 := red_len b
      have hMe : Calls Tryd.prog 32 #[.int .u64 (b : Int)] wr fun e w' => ∃ A c, e = .returned (.slice A (Hit.members b).length c) ∧ SlI (fun x => w1.heap.size ≤ x ∧ x < w'.heap.size) w' (.slice A (Hit.members b).length c) (Hit.ints (Hit.members b)) ∧ Below wr.heap.size wr w' := by
        refine (members_any b (by omega) wr).mono ?_
        rintro e w2 ⟨A2, n2, c2, rfl, rfl, hO2, hb2⟩
        exact ⟨A2, c2, rfl, hO2.ints rfl hmbl fun x q1 q2 => ⟨Nat.le_trans HB.out.size q1, q2⟩, hb2⟩
      have hAp := fun W v (hW : Below w.heap.size w W) hv => HAP.out W v b hlt hW hv
      have hBe := fun W va vb ha hb => HBE.out W va vb (Hit.members b) (bestTo ws b) ha hb
      have hsc := bestTo_succ ws b
      have hdef : betterD ws (bestTo ws b) b = (Hit.apartR ws (Hit.ints (Hit.members b)) 0 && (decide ((Hit.members b).length > (bestTo ws b).length) || (decide ((Hit.members b).length = (bestTo ws b).length) && Hit.before (Hit.members b) (bestTo ws b)))) := rfl
      have hmm := HM1.out
      have HAP2 := Lib.hid hAp
      have HBE2 := Lib.hid hBe
      have HME := Lib.hid hMe
      have HBw := Lib.hid (Bt HB1.out HB.out)
      clear hMe hAp hBe
      generalize hbst : bestTo ws b = best at *
      obtain ⟨ml, hml⟩ : ∃ ml, (Hit.members b).length = ml := ⟨_, rfl⟩
      rw [hml, ← hmm] at hdef
      rw [hml] at HME hmbl
      generalize Hit.members b = mb at *
      generalize Hit.apartR ws (Hit.ints mb) 0 = ap at *
      generalize Hit.before mb best = bf at *
      clear hbst
      have HMM := Lib.hid hmm
      have HML2 := Lib.hid hml
      clear hmm hml HM1
      have cas : ∃ r : Bool, betterD ws best b = r ∧ ((r = false ∧ ((ap = false) ∨ (ap = true ∧ (decide (m < ml) = false ∧ decide ((m : Int) < (ml : Int)) = false ∧ (((ml : Int) == (m : Int)) = false ∨ (((ml : Int) == (m : Int)) = true ∧ bf = false)))))) ∨
          (r = true ∧ ap = true ∧ ((decide (m < ml) = true ∧ decide ((m : Int) < (ml : Int)) = true) ∨ ((decide (m < ml) = false ∧ decide ((m : Int) < (ml : Int)) = false) ∧ ((ml : Int) == (m : Int)) = true ∧ bf = true)))) := by
        refine ⟨_, rfl, ?_⟩
        rw [hdef]
        cases ap
        · exact .inl ⟨rfl, .inl rfl⟩
        · rcases Nat.lt_trichotomy m ml with h | h | h
          · exact .inr ⟨by simp [h], rfl, .inl ⟨decide_eq_true h, decide_eq_true (by omega)⟩⟩
          · subst h
            cases bf
            · exact .inl ⟨by simp, .inr ⟨rfl, by simp, by simp, .inr ⟨by simp, rfl⟩⟩⟩
            · exact .inr ⟨by simp, rfl, .inr ⟨⟨by simp, by simp⟩, by simp, rfl⟩⟩
          · refine .inl ⟨?_, .inr ⟨rfl, decide_eq_false (by omega), decide_eq_false (by omega), .inl (by simp; omega)⟩⟩
            have h1 : ¬ ml > m := by omega
            have h2 : ¬ ml = m := by omega
            simp [h1, h2]
      obtain ⟨r, hbr, cas⟩ := cas
      rw [hbr] at hsc
      have HSC := Lib.hid hsc
      clear hsc hbr hdef
      rcases cas with ⟨rfl, rfl | ⟨rfl, d1, d2, d3 | ⟨d3, rfl⟩⟩⟩ | ⟨rfl, rfl, ⟨d1, d2⟩ | ⟨⟨d1, d2⟩, d3, rfl⟩⟩
      · go_wp2_with (first
          | (go_at_call 32; (with_reducible refine (HME.out.mono ?_)); rintro e w2 ⟨A2, c2, rfl, hs2, hb2⟩; have HS2 := Lib.hid hs2; have HB2 := Lib.hid (Bt HB.out hb2); have HO2 := Lib.hid (SlI.newer HS1.out hb2); have e0 := (Bc hb2 (Nat.lt_of_lt_of_le s1 HB.out.size)).trans k0; have e1 := (Bc hb2 (Nat.lt_of_lt_of_le s1 HB.out.size)).trans k1; clear hb2 hs2)
          | (go_at_call 39; (with_reducible refine ((HAP2.out _ _ (Bt HB1.out HB2.out) (SlI.low HS2.out)).mono ?_)); rintro e w3 ⟨rfl, hb3⟩; have HB3 := Lib.hid (Bt HB2.out hb3); have HS3 := Lib.hid (SlI.newer HS2.out hb3); have HO3 := Lib.hid (SlI.newer HO2.out hb3); clear hb3)
          | (go_at_call 40; (with_reducible refine ((HBE2.out _ _ _ (SlI.low HS3.out) (SlI.low HO3.out)).mono ?_)); rintro e w4 ⟨rfl, hb4⟩; have HB4 := Lib.hid (Bt HB3.out hb4); have HS4 := Lib.hid (SlI.newer HS3.out hb4); have HO4 := Lib.hid (SlI.newer HO3.out hb4); clear hb4))
        go_roundg (N2 - (b + 1))
        case measure => omega
        case rel => exact ⟨b + 1, A, m, c, by omega, by omega, by go_num, rfl, by rw [HSC.out]; exact HMM.out, by rw [HSC.out]; exact HO3.out, HB3.out⟩
      · go_wp2_with (first
          | (go_at_call 32; (with_reducible refine (HME.out.mono ?_)); rintro e w2 ⟨A2, c2, rfl, hs2, hb2⟩; have HS2 := Lib.hid hs2; have HB2 := Lib.hid (Bt HB.out hb2); have HO2 := Lib.hid (SlI.newer HS1.out hb2); have e0 := (Bc hb2 (Nat.lt_of_lt_of_le s1 HB.out.size)).trans k0; have e1 := (Bc hb2 (Nat.lt_of_lt_of_le s1 HB.out.size)).trans k1; clear hb2 hs2)
          | (go_at_call 39; (with_reducible refine ((HAP2.out _ _ (Bt HB1.out HB2.out) (SlI.low HS2.out)).mono ?_)); rintro e w3 ⟨rfl, hb3⟩; have HB3 := Lib.hid (Bt HB2.out hb3); have HS3 := Lib.hid (SlI.newer HS2.out hb3); have HO3 := Lib.hid (SlI.newer HO2.out hb3); clear hb3)
          | (go_at_call 40; (with_reducible refine ((HBE2.out _ _ _ (SlI.low HS3.out) (SlI.low HO3.out)).mono ?_)); rintro e w4 ⟨rfl, hb4⟩; have HB4 := Lib.hid (Bt HB3.out hb4); have HS4 := Lib.hid (SlI.newer HS3.out hb4); have HO4 := Lib.hid (SlI.newer HO3.out hb4); clear hb4))
        go_roundg (N2 - (b + 1))
        case measure => omega
        case rel => exact ⟨b + 1, A, m, c, by omega, by omega, by go_num, rfl, by rw [HSC.out]; exact HMM.out, by rw [HSC.out]; exact HO3.out, HB3.out⟩
      · go_wp2_with (first
          | (go_at_call 32; (with_reducible refine (HME.out.mono ?_)); rintro e w2 ⟨A2, c2, rfl, hs2, hb2⟩; have HS2 := Lib.hid hs2; have HB2 := Lib.hid (Bt HB.out hb2); have HO2 := Lib.hid (SlI.newer HS1.out hb2); have e0 := (Bc hb2 (Nat.lt_of_lt_of_le s1 HB.out.size)).trans k0; have e1 := (Bc hb2 (Nat.lt_of_lt_of_le s1 HB.out.size)).trans k1; clear hb2 hs2)
          | (go_at_call 39; (with_reducible refine ((HAP2.out _ _ (Bt HB1.out HB2.out) (SlI.low HS2.out)).mono ?_)); rintro e w3 ⟨rfl, hb3⟩; have HB3 := Lib.hid (Bt HB2.out hb3); have HS3 := Lib.hid (SlI.newer HS2.out hb3); have HO3 := Lib.hid (SlI.newer HO2.out hb3); clear hb3)
          | (go_at_call 40; (with_reducible refine ((HBE2.out _ _ _ (SlI.low HS3.out) (SlI.low HO3.out)).mono ?_)); rintro e w4 ⟨rfl, hb4⟩; have HB4 := Lib.hid (Bt HB3.out hb4); have HS4 := Lib.hid (SlI.newer HS3.out hb4); have HO4 := Lib.hid (SlI.newer HO3.out hb4); clear hb4))
        go_roundg (N2 - (b + 1))
        case measure => omega
        case rel => exact ⟨b + 1, A, m, c, by omega, by omega, by go_num, rfl, by rw [HSC.out]; exact HMM.out, by rw [HSC.out]; exact HO4.out, HB4.out⟩
      · go_wp2_with (first
          | (go_at_call 32; (with_reducible refine (HME.out.mono ?_)); rintro e w2 ⟨A2, c2, rfl, hs2, hb2⟩; have HS2 := Lib.hid hs2; have HB2 := Lib.hid (Bt HB.out hb2); have HO2 := Lib.hid (SlI.newer HS1.out hb2); have e0 := (Bc hb2 (Nat.lt_of_lt_of_le s1 HB.out.size)).trans k0; have e1 := (Bc hb2 (Nat.lt_of_lt_of_le s1 HB.out.size)).trans k1; clear hb2 hs2)
          | (go_at_call 39; (with_reducible refine ((HAP2.out _ _ (Bt HB1.out HB2.out) (SlI.low HS2.out)).mono ?_)); rintro e w3 ⟨rfl, hb3⟩; have HB3 := Lib.hid (Bt HB2.out hb3); have HS3 := Lib.hid (SlI.newer HS2.out hb3); have HO3 := Lib.hid (SlI.newer HO2.out hb3); clear hb3)
          | (go_at_call 40; (with_reducible refine ((HBE2.out _ _ _ (SlI.low HS3.out) (SlI.low HO3.out)).mono ?_)); rintro e w4 ⟨rfl, hb4⟩; have HB4 := Lib.hid (Bt HB3.out hb4); have HS4 := Lib.hid (SlI.newer HS3.out hb4); have HO4 := Lib.hid (SlI.newer HO3.out hb4); clear hb4))
        go_roundg (N2 - (b + 1))
        case measure => omega
        case rel => exact ⟨b + 1, A2, ml, c2, by omega, by omega, by go_num, rfl, by rw [HSC.out]; exact HML2.out.symm, by rw [HSC.out]; exact HS3.out, HB3.out⟩
      · go_wp2_with (first
          | (go_at_call 32; (with_reducible refine (HME.out.mono ?_)); rintro e w2 ⟨A2, c2, rfl, hs2, hb2⟩; have HS2 := Lib.hid hs2; have HB2 := Lib.hid (Bt HB.out hb2); have HO2 := Lib.hid (SlI.newer HS1.out hb2); have e0 := (Bc hb2 (Nat.lt_of_lt_of_le s1 HB.out.size)).trans k0; have e1 := (Bc hb2 (Nat.lt_of_lt_of_le s1 HB.out.size)).trans k1; clear hb2 hs2)
          | (go_at_call 39; (with_reducible refine ((HAP2.out _ _ (Bt HB1.out HB2.out) (SlI.low HS2.out)).mono ?_)); rintro e w3 ⟨rfl, hb3⟩; have HB3 := Lib.hid (Bt HB2.out hb3); have HS3 := Lib.hid (SlI.newer HS2.out hb3); have HO3 := Lib.hid (SlI.newer HO2.out hb3); clear hb3)
          | (go_at_call 40; (with_reducible refine ((HBE2.out _ _ _ (SlI.low HS3.out) (SlI.low HO3.out)).mono ?_)); rintro e w4 ⟨rfl, hb4⟩; have HB4 := Lib.hid (Bt HB3.out hb4); have HS4 := Lib.hid (SlI.newer HS3.out hb4); have HO4 := Lib.hid (SlI.newer HO3.out hb4); clear hb4))
        go_roundg (N2 - (b + 1))
        case measure => omega
        case rel => exact ⟨b + 1, A2, ml, c2, by omega, by omega, by go_num, rfl, by rw [HSC.out]; exact HML2.out.symm, by rw [HSC.out]; exact HS4.out, HB4.out⟩
    · have hki : decide (b < N2) = false := decide_eq_false hlt
      have hki2 : decide ((b : Int) < N2) = false := decide_eq_false (by omega)
      obtain rfl : b = N2 := by omega
      have HW := Lib.hid (HS1.out.mono (G := fun x => w.heap.size ≤ x ∧ x < wr.heap.size) fun x h => ⟨by omega, h.2⟩)
      have HB2 := Lib.hid (Bt HB1.out HB.out)
      clear HS1 HB hlt
      go_wp2_with fail
      go_ret
      exact ⟨A, m, c, rfl, HW.out, HB2.out⟩
end Go.Proofs.YtiochodepgldpaaDoor
