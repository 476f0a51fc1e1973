/- Walks over the statements of hitting: HittingProves. -/
import Derived.Test.YtiochodepgldpaaDoorPa
import Derived.Test.YtiochodepgldpaaDoorHM
namespace Go.Proofs.YtiochodepgldpaaDoor
open Go Go.RowKit
/-- The contract of Make, as each statement over a plan uses it. -/
theorem make_prob (N : Nat) (hN : N < 256) (vs : Value) (sets : List Nat) (hs : ∀ s ∈ sets, s < 256) (w : World) (F : Nat → Prop) (hF : ∀ b, F b → b < w.heap.size) (hr : SlU .u8 F w vs sets) (hT : Tab32 w) :
    ∀ W, Below w.heap.size w W → Calls Tryd.prog 12 #[.agg #[.int .u8 N, vs]] W fun e w' => ∃ A m c, e = .returned (.agg #[.int .i64 ((1 + N % 8 : Nat) : Int), .slice A m c]) ∧ Prob (1 + N % 8) (.slice A m c) (Hit.planW (1 + N % 8) sets) w'.heap.size w' ∧ Below W.heap.size W w' := by
  intro W hW
  refine (make_any N hN vs sets hs W F (fun b hb => by have := hF b hb; have := hW.size; omega) (hr.keep (Agree.below hW hF))).mono ?_
  rintro e w' ⟨A, m, c, rfl, rfl, hS, hb⟩
  refine ⟨A, _, c, rfl, ⟨by omega, Hit.planW_good _ sets, by have := Hit.planW_len (1 + N % 8) sets; omega, Nat.le_refl _, hS.wider fun b h => h.2, (hT.below hW).below hb⟩, hb⟩
theorem Prob.more {n : Nat} {v : Value} {ws : List Nat} {B B' : Nat} {w : World} (h : Prob n v ws B w) (hB : B ≤ B') (hB' : B' ≤ w.heap.size) : Prob n v ws B' w :=
  ⟨h.le, h.good, h.len, hB', h.sets.wider fun _ hb => Nat.lt_of_lt_of_le hb hB, h.tab⟩
/-- The lists of the reference: the length of the first one. -/
theorem lists_first {n m c : Nat} {v : Value} {ws : List Nat} {B : Nat} {w w' : World} {A : Option Addr} {F : Nat → Prop} (h : Prob n v ws B w) (hm : m = (Hit.allF ws n).1.length) (hs : SlII F w' (.slice A m c) (intsL (Hit.allF ws n).1)) :
    ∃ ad A1 c1, A = some ad ∧ F ad.block ∧ w'.cell? ad = some (.slice A1 (Hit.pop (Hit.least ws n)) c1) ∧ SlI F w' (.slice A1 (Hit.pop (Hit.least ws n)) c1) (Hit.ints (Hit.members (Hit.least ws n))) ∧ 0 < m := by
  obtain ⟨l, hl⟩ := h.first
  obtain ⟨A', c', hv, _, _, hat⟩ := hs.open
  injection hv with e1 e2 e3
  subst e1 e3
  rw [hl] at hat hm
  obtain ⟨ad, u, rfl, hF, hc, hu⟩ := hat 0 (by simp [intsL])
  have hu' : SlI F w' u (Hit.ints (Hit.members (Hit.least ws n))) := hu
  obtain ⟨A1, c1, rfl, _⟩ := id hu'.open
  rw [ints_length] at hc hu'
  refine ⟨ad, A1, c1, rfl, hF, (by have h2 := hc; simp [Addr.add] at h2; exact h2), hu', by rw [hm]; simp⟩
set_option maxRecDepth 100000 in
set_option maxHeartbeats 4000000 in
theorem law_proves (N : Nat) (hN : N < 256) (vs : Value) (sets : List Nat) (hs : ∀ s ∈ sets, s < 256) (size : Int) (w : World) (F : Nat → Prop) (hF : ∀ b, F b → b < w.heap.size) (hr : SlU .u8 F w vs sets) (hT : Tab32 w) :
    Calls Tryd.prog 5 #[.agg #[.int .u8 N, vs], .int .i64 size] w fun e w' => e = .returned (.bool true) ∧ Below w.heap.size w w' := by
  have hK : ∀ W, Below w.heap.size w W → Calls Tryd.prog 11 #[] W fun e w' => e = .returned (.bool true) ∧ Below W.heap.size W w' := fun W hW => known_any W (hT.below hW)
  have hM := make_prob N hN vs sets hs w F hF hr hT
  obtain ⟨As, cs, rfl, _⟩ := hr.open
  have hn8 : 1 + N % 8 ≤ 8 := by omega
  generalize Hit.planW (1 + N % 8) sets = ws at *
  generalize 1 + N % 8 = n at *
  have HK := Lib.hid hK
  have HM := Lib.hid hM
  clear hK hM hr hT hs
  go_enter Tryd.func5, Tryd.ntmps5
  go_upto_region 4 with (first
    | (go_at_call 11; refine (HK.out _ (Ba (B0 w) _)).mono ?_; rintro e w1 ⟨rfl, hb1⟩; have HB1 := Lib.hid (Bt (Ba (B0 w) _) hb1); have c0 : w1.cell? ⟨w.heap.size, 0, none⟩ = some (.int .u8 N) := (Bc hb1 (by simp)).trans (by simp [go_sem]); have c1 : w1.cell? ⟨w.heap.size, 1, none⟩ = some (.slice As sets.length cs) := (Bc hb1 (by simp)).trans (by simp [go_sem]); clear hb1)
    | (go_at_call 12; refine (HM.out _ HB1.out).mono ?_; rintro e w2 ⟨A2, m2, c2, rfl, hp2, hb2⟩; have HB2 := Lib.hid (Bt HB1.out hb2); have HP2 := Lib.hid hp2; clear hb2 hp2 c0 c1))
  have hb3 := Ba HB2.out (.cells #[.int .i64 n, .slice A2 m2 c2] 28)
  have hP3 := (HP2.out.on (Ba (B0 w2) (.cells #[.int .i64 n, .slice A2 m2 c2] 28)))
  have k0 : (w2.alloc (.cells #[.int .i64 n, .slice A2 m2 c2] 28)).cell? ⟨w2.heap.size, 0, none⟩ = some (.int .i64 n) := by simp [go_sem]
  have k1 : (w2.alloc (.cells #[.int .i64 n, .slice A2 m2 c2] 28)).cell? ⟨w2.heap.size, 1, none⟩ = some (.slice A2 m2 c2) := by simp [go_sem]
  have l3 : w2.heap.size < (w2.alloc (.cells #[.int .i64 n, .slice A2 m2 c2] 28)).heap.size := by simp
  generalize (w2.alloc (.cells #[.int .i64 n, .slice A2 m2 c2] 28)) = w3 at *
  have hP3 := hP3.more (Nat.le_of_lt l3) (Nat.le_refl _)
  have HB3 := Lib.hid hb3
  have HP3 := Lib.hid hP3
  obtain ⟨pb, hpb⟩ : ∃ pb, w2.heap.size = pb := ⟨_, rfl⟩
  rw [hpb] at k0 k1 l3 ⊢
  have k : ∀ W, Below w3.heap.size w3 W → W.cell? ⟨pb, 0, none⟩ = some (.int .i64 n) ∧ W.cell? ⟨pb, 1, none⟩ = some (.slice A2 m2 c2) := fun W hW => ⟨(Bc hW l3).trans k0, (Bc hW l3).trans k1⟩
  have K := Lib.hid k
  clear hb3 hP3 HM HP2 hpb k
  by_cases hrg : size < 0 ∨ (n : Int) < size
  · have hq : decide (size < 0) = true ∨ (decide (size < 0) = false ∧ decide ((n : Int) < size) = true) := by
      simp only [decide_eq_true_eq, decide_eq_false_iff_not]; omega
    have hPv := fun W (hW : Below w3.heap.size w3 W) => (HP3.out.on hW).proveOut hrg
    have HPV := Lib.hid hPv
    clear hrg hPv
    rcases hq with hq | ⟨hq1, hq2⟩
    all_goals
      go_wp2_with (go_at_call 18; (with_reducible refine ((HPV.out _ (B0 w3)).mono ?_)); rintro e w4 ⟨rfl, hb4⟩; have HB4 := Lib.hid (Bt HB3.out hb4); have k40 := (K.out _ hb4).1; have k41 := (K.out _ hb4).2; clear hb4)
      go_ret
      exact ⟨rfl, HB4.out⟩
  · have hq1 : decide (size < 0) = false := decide_eq_false (by omega)
    have hq2 : decide ((n : Int) < size) = false := decide_eq_false (by omega)
    have hAl := fun W (hW : Below w3.heap.size w3 W) => (HP3.out.on hW).allC hn8
    have HAL := Lib.hid hAl
    clear hAl
    by_cases hless : (Hit.pop (Hit.least ws n) : Int) < size
    · have hPv := fun W (hW : Below w3.heap.size w3 W) => (HP3.out.on hW).proveLess (size := size) (by omega) (by omega) hless
      have HPV := Lib.hid hPv
      have d1 : decide ((Hit.pop (Hit.least ws n) : Int) < size) = true := decide_eq_true hless
      have HFI := Lib.hid (fun W (hW : Below w3.heap.size w3 W) (w' : World) A m c F => @lists_first n m c _ ws _ W w' A F (HP3.out.on hW))
      clear hrg hPv hless
      generalize Hit.pop (Hit.least ws n) = pl at *
      go_wp2_with (first
        | (go_at_call 18; (with_reducible refine ((HPV.out _ (B0 w3)).mono ?_)); rintro e w4 ⟨rfl, hb4⟩; have HB4 := Lib.hid hb4; have k40 := (K.out _ hb4).1; have k41 := (K.out _ hb4).2; clear hb4 k0 k1)
        | (go_at_call 21; (with_reducible refine ((HAL.out _ HB4.out).mono ?_)); rintro e w5 ⟨A5, m5, c5, rfl, hm5, hs5, hb5⟩; obtain ⟨ad, A1, c1, rfl, _, hc1, _, hm0⟩ := HFI.out _ HB4.out _ _ _ _ _ hm5 hs5; have HB5 := Lib.hid (Bt HB4.out hb5); have hm0i : (0 : Int) < m5 := (by omega); clear hm5 hs5 hb5))
      go_ret
      exact ⟨rfl, Bt HB3.out HB5.out⟩
    · have hle : size ≤ (Hit.pop (Hit.least ws n) : Int) := by omega
      have d1 : decide ((Hit.pop (Hit.least ws n) : Int) < size) = false := decide_eq_false hless
      obtain ⟨t, ht⟩ : ∃ t, Prob.tr ws n size = t := ⟨_, rfl⟩
      have hsh : 0 < t.length ∧ t.length ≤ 512 := by rw [← ht]; exact Prob.node_short hn8 size
      have hwt : ∀ x ∈ t, x.weights.length ≤ 1000000 := fun x hx => by rw [← ht] at hx; have := HP3.out.weights size x hx; omega
      have htr : Hit.treeF ws n size t = true := by rw [← ht]; exact HP3.out.tree hle
      have hvf : Hit.verifyF ws n size t = 0 := by unfold Hit.verifyF; rw [if_neg (by omega), if_neg (by omega), if_neg (by omega), htr]; rfl
      have hPv : ∀ W, Below w3.heap.size w3 W → Calls Tryd.prog 18 #[.agg #[.int .i64 n, .slice A2 m2 c2], .int .i64 size] W fun e w' => ∃ A c, e = .returned (.tuple #[.slice A t.length c, .int .i64 0]) ∧ SlT (fun b => b < w'.heap.size) w' (.slice A t.length c) t ∧ Below W.heap.size W w' := fun W hW => by
        refine ((HP3.out.on hW).proveC (size := size) (by omega) (by omega) hle).mono ?_
        rw [ht]
        rintro e w' ⟨pb', vs', A, c, rfl, _, hP, hb⟩
        exact ⟨A, c, rfl, (Sl.mono (hP.slt (by omega)) fun b h => h.2).monoR fun cs x hc => NodeC.keep hc (Agree.refl _ _) fun b h => h.2, hb⟩
      have hTr : ∀ W v, Below w3.heap.size w3 W → SlT (fun b => b < W.heap.size) W v t → Calls Tryd.prog 22 #[.agg #[.int .i64 n, .slice A2 m2 c2], .int .i64 size, v] W fun e w' => e = .returned (.bool true) ∧ Below W.heap.size W w' := fun W v hW hv => by
        have := (HP3.out.on hW).treeC size v t hsh.1 (by omega) hwt hv
        rw [htr] at this
        exact this
      have hVe : ∀ W v, Below w3.heap.size w3 W → SlT (fun b => b < W.heap.size) W v t → Calls Tryd.prog 23 #[.agg #[.int .i64 n, .slice A2 m2 c2], .int .i64 size, v] W fun e w' => e = .returned (.int .i64 0) ∧ Below W.heap.size W w' := fun W v hW hv => by
        have := (HP3.out.on hW).verifyC size v t (by omega) hwt hv
        rw [hvf] at this
        exact this
      have HPV := Lib.hid hPv
      have HTR := Lib.hid hTr
      have HVE := Lib.hid hVe
      have HFI := Lib.hid (fun W (hW : Below w3.heap.size w3 W) (w' : World) A m c F => @lists_first n m c _ ws _ W w' A F (HP3.out.on hW))
      have hl1 : decide ((0 : Int) < (t.length : Int)) = true := decide_eq_true (by omega)
      have hl2 : decide (0 < t.length) = true := decide_eq_true (by omega)
      have hl3 : decide ((t.length : Int) ≤ 100000) = true := decide_eq_true (by omega)
      have hl4 : decide (t.length ≤ 100000) = true := decide_eq_true (by omega)
      clear hrg hPv hless hTr hVe htr hvf hwt ht hle
      generalize Hit.pop (Hit.least ws n) = pl at *
      go_wp2_with (first
        | (go_at_call 18; (with_reducible refine ((HPV.out _ (B0 w3)).mono ?_)); rintro e w4 ⟨A4, c4, rfl, hs4, hb4⟩; have HS4 := Lib.hid hs4; have HB4 := Lib.hid hb4; have k40 := (K.out _ hb4).1; have k41 := (K.out _ hb4).2; clear hb4 hs4 k0 k1)
        | (go_at_call 21; (with_reducible refine ((HAL.out _ HB4.out).mono ?_)); rintro e w5 ⟨A5, m5, c5, rfl, hm5, hs5, hb5⟩; obtain ⟨ad, A1, c1, rfl, _, hc1, _, hm0⟩ := HFI.out _ HB4.out _ _ _ _ _ hm5 hs5; have HS5 := Lib.hid (HS4.out.on hb5); have HB5 := Lib.hid (Bt HB4.out hb5); have k50 := (K.out _ (Bt HB4.out hb5)).1; have k51 := (K.out _ (Bt HB4.out hb5)).2; have hm0i : (0 : Int) < m5 := (by omega); clear hm5 hs5 hb5)
        | (go_at_call 22; (with_reducible refine ((HTR.out _ _ HB5.out HS5.out).mono ?_)); rintro e w6 ⟨rfl, hb6⟩; have HS6 := Lib.hid (HS5.out.on hb6); have HB6 := Lib.hid (Bt HB5.out hb6); have k60 := (K.out _ (Bt HB5.out hb6)).1; have k61 := (K.out _ (Bt HB5.out hb6)).2; clear hb6)
        | (go_at_call 23; (with_reducible refine ((HVE.out _ _ HB6.out HS6.out).mono ?_)); rintro e w7 ⟨rfl, hb7⟩; have HB7 := Lib.hid (Bt HB6.out hb7); clear hb7))
      go_ret
      exact ⟨rfl, Bt HB3.out HB7.out⟩
end Go.Proofs.YtiochodepgldpaaDoor
