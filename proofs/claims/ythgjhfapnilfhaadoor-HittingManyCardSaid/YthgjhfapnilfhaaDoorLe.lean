/- Walks over the statements of hitting: HittingLeast. -/
import Derived.Test.YthgjhfapnilfhaaDoorLb
import Derived.Test.YthgjhfapnilfhaaDoorLd
namespace Go.Proofs.YthgjhfapnilfhaaDoor
open Go Go.RowKit
set_option maxHeartbeats 2000000 in
theorem count2_any (n : Nat) (hn : n ≤ 20) (vs : Value) (ws : List Nat) (hg : Hit.Good ws n) (hwl : ws.length ≤ 100) (str : ByteArray) (w : World) (F : Nat → Prop) (hF : ∀ b, F b → b < w.heap.size) (hr : SlII F w vs (setsOf ws))
    (hOf : ∀ W, Below w.heap.size w W → Calls Tryd.prog 52 #[.int .i64 (cntTo ws (2 ^ n) : Nat)] W fun e w' => e = .returned (.string str) ∧ Below W.heap.size W w') :
    Calls Tryd.prog 19 #[.agg #[.int .i64 n, vs]] w fun e w' => e = .returned (.tuple #[.string str, .int .i64 0]) ∧ Below w.heap.size w w' := by
  have hw := good_lt hg (by omega)
  have hC : ∀ W, Below w.heap.size w W → Calls Tryd.prog 33 #[.agg #[.int .i64 n, vs]] W fun e w' => e = .returned (.int .i64 0) ∧ Below W.heap.size W w' :=
    fun W hW => by
      have := check_any n vs (setsOf ws) W F (fun b hb => Nat.lt_of_lt_of_le (hF b hb) hW.size) (hr.keep (Agree.below hW hF))
      rw [show Hit.checkF n (setsOf ws) = 0 from Hit.checkF_of hn hwl hg] at this
      exact this
  have hW : ∀ W, Below w.heap.size w W → Calls Tryd.prog 36 #[.agg #[.int .i64 n, vs]] W fun e w' => ∃ A m c, e = .returned (.slice A m c) ∧ m = ws.length ∧ Own0 w' W.heap.size 95 1 A m c (cellsV (vU .u32) ws) ∧ Below W.heap.size W w' :=
    fun W hW => words_any n vs ws hw (by omega) W F (fun b hb => Nat.lt_of_lt_of_le (hF b hb) hW.size) (hr.keep (Agree.below hW hF))
  have hM : ∀ W A m c x, x < 4294967296 → m = ws.length → Own0 W w.heap.size 95 1 A m c (cellsV (vU .u32) ws) → Calls Tryd.prog 51 #[.slice A m c, .int .u32 ((x : Nat) : Int)] W fun e w' => e = .returned (.int .i64 (missF ws x)) ∧ Below W.heap.size W w' :=
    fun W A m c x hx hm hO => missed_any _ ws hw x hx W (fun b => b < W.heap.size) (fun _ h => h) (hO.words hm (by omega) fun b _ h => h)
  obtain ⟨As, cs, rfl, _⟩ := hr.open
  have hT : 2 ^ n ≤ 1048576 := Nat.le_trans (Nat.pow_le_pow_right (by decide) hn) (by decide)
  have hshl : (2 : Int) ^ n % 4294967296 = ((2 ^ n : Nat) : Int) := Hit.two_u32 n (by omega)
  have hcl := cntTo_le ws
  generalize hTT : 2 ^ n = T at *
  have HC := Lib.hid hC
  have HW := Lib.hid hW
  have HM := Lib.hid hM
  have HOF := Lib.hid hOf
  have HCL := Lib.hid hcl
  clear hC hW hM hOf hr hw hg hTT hcl
  go_enter Tryd.func19, Tryd.ntmps19
  go_wp2_with fail
  refine (HC.out _ (Ba (B0 w) _)).mono ?_
  rintro e w1 ⟨rfl, hb1⟩
  have c0 : w1.cell? ⟨w.heap.size, 0, none⟩ = some (.int .i64 n) := (Bc hb1 (by simp)).trans (by simp [go_sem])
  have c1 : w1.cell? ⟨w.heap.size, 1, none⟩ = some (.slice As (setsOf ws).length cs) := (Bc hb1 (by simp)).trans (by simp [go_sem])
  have s1 : w.heap.size < w1.heap.size := by have := hb1.size; simp at this; omega
  have HB := Lib.hid (Bt (Ba (B0 w) _) hb1)
  clear hb1
  go_wp2_with fail
  refine (HW.out _ HB.out).mono ?_
  rintro e w2 ⟨A, m, c, rfl, hm, hO, hb2⟩
  have c02 := (Bc hb2 s1).trans c0
  have HB2 := Lib.hid (Bt HB.out hb2)
  have HO := Lib.hid (hO.more HB.out.size)
  have HMm := Lib.hid hm
  clear hb2 hO hm c0 c1
  go_wp2_with fail
  rw [hshl]
  clear hshl
  go_loopg [6, 18] T (fun gg s6 s18 wr => ∃ k : Nat, k ≤ T ∧ T - k ≤ gg ∧ s18 = .int .u32 k ∧ s6 = .int .i64 (cntTo ws k : Nat) ∧ Aside (Own0 wr w.heap.size 95 1 A m c (cellsV (vU .u32) ws)) ∧ Aside (Below w.heap.size w wr))
  case atStart => exact ⟨0, by omega, by omega, rfl, rfl, HO.out, HB2.out⟩
  case round =>
    obtain ⟨k, hk, hg, rfl, rfl, HO4, HB4⟩ := hrel
    by_cases hlt : k < T
    · have hki : decide ((k : Int) < T) = true := decide_eq_true (by omega)
      have hneg := missF_neg ws k
      have hcs := cntTo_succ ws k
      have hck := HCL.out k
      have HMz := Lib.hid (HM.out wr A m c k (by omega) HMm.out HO4.out)
      have HNG := Lib.hid hneg
      have HCS := Lib.hid hcs
      generalize cntTo ws k = q at *
      clear hneg hcs
      cases hz : Hit.hit ws k with
      | true =>
        have hd2 : decide (missF ws k < 0) = true := decide_eq_true (HNG.out.2 hz)
        have hS : cntTo ws (k + 1) = q + 1 := by rw [HCS.out, hz]; rfl
        have HS2 := Lib.hid hS
        generalize missF ws k = ms2 at *
        clear hz hS
        go_wp2_with (go_at_call 51; refine HMz.out.mono ?_; rintro e w5 ⟨rfl, hb5⟩; have Q1 := Lib.hid (HO4.out.below hb5); have Q2 := Lib.hid (Bt HB4.out hb5); clear hb5)
        go_roundg (T - (k + 1))
        case measure => omega
        case rel => exact ⟨k + 1, by omega, by omega, by go_num, by rw [HS2.out]; go_num, Q1.out, Q2.out⟩
      | false =>
        have hd2 : decide (missF ws k < 0) = false := decide_eq_false (fun h => by rw [HNG.out.1 h] at hz; cases hz)
        have hS : cntTo ws (k + 1) = q := by rw [HCS.out, hz]; rfl
        have HS2 := Lib.hid hS
        generalize missF ws k = ms2 at *
        clear hz hS
        go_wp2_with (go_at_call 51; refine HMz.out.mono ?_; rintro e w5 ⟨rfl, hb5⟩; have Q1 := Lib.hid (HO4.out.below hb5); have Q2 := Lib.hid (Bt HB4.out hb5); clear hb5)
        go_roundg (T - (k + 1))
        case measure => omega
        case rel => exact ⟨k + 1, by omega, by omega, by go_num, by rw [HS2.out], Q1.out, Q2.out⟩
    · have hki : decide ((k : Int) < T) = false := decide_eq_false (by omega)
      have : k = T := by omega
      subst this
      go_wp2_with fail
      refine (HOF.out _ HB4.out).mono ?_
      rintro e w6 ⟨rfl, hb6⟩
      have Q2 := Lib.hid (Bt HB4.out hb6)
      clear hb6
      go_wp2
      go_ret2
      exact ⟨rfl, Q2.out⟩
theorem Prob.countC {n : Nat} {v : Value} {ws : List Nat} {B : Nat} {w : World} (h : Prob n v ws B w) (hT : TabP w) : Calls Tryd.prog 19 #[.agg #[.int .i64 n, v]] w fun e w' => e = .returned (.tuple #[.string (itoaS (Hit.allF ws n).2), .int .i64 0]) ∧ Below w.heap.size w w' := by
  have hc : cntTo ws (2 ^ n) = (Hit.allF ws n).2 := by rw [Hit.allF_count]; rfl
  have hle := cntTo_le ws (2 ^ n)
  have h2 : 2 ^ n ≤ 1048576 := Nat.le_trans (Nat.pow_le_pow_right (by decide) h.le) (by decide)
  exact count2_any n h.le v ws h.good h.len (itoaS (Hit.allF ws n).2) w (fun b => b < B) h.inW h.sets fun W hW => by
    rw [hc]
    exact of_any _ (by omega) W (hT.below hW)
theorem SlII.on {w w' : World} {v : Value} {l : List (List Int)} (h : SlII (fun b => b < w.heap.size) w v l) (hb : Below w.heap.size w w') : SlII (fun b => b < w'.heap.size) w' v l :=
  (SlII.keep h (Agree.below hb fun _ h => h)).wider fun _ hb' => Nat.lt_of_lt_of_le hb' hb.size
set_option maxRecDepth 200000 in
set_option maxHeartbeats 8000000 in
theorem law_least (N : Nat) (hN : N < 256) (vs : Value) (sets : List Nat) (hs : ∀ s ∈ sets, s < 256) (limit : Int) (w : World) (F : Nat → Prop) (hF : ∀ b, F b → b < w.heap.size) (hr : SlU .u8 F w vs sets) (hT : Tab32 w) (hTP : TabP w) :
    Calls Tryd.prog 5 #[.agg #[.int .u8 N, vs], .int .i64 limit] w fun e w' => e = .returned (.bool true) ∧ Below w.heap.size w w' := by
  have hK : ∀ W, Below w.heap.size w W → Calls Tryd.prog 17 #[] W fun e w' => e = .returned (.bool true) ∧ Below W.heap.size W w' := fun W hW => known_any W (hT.below hW)
  have hM := make_prob N hN vs sets hs w F hF hr hT
  obtain ⟨As, cs, rfl, _⟩ := hr.open
  have hn8 : 1 + N % 8 ≤ 8 := by omega
  generalize Hit.planW (1 + N % 8) sets = ws at *
  generalize 1 + N % 8 = n at *
  have HK := Lib.hid hK
  have HM := Lib.hid hM
  have HTP := Lib.hid hTP
  clear hK hM hr hT hs hTP
  go_enter Tryd.func5, Tryd.ntmps5
  go_upto_region 4 with (first
    | (go_at_call 17; refine (HK.out _ (Ba (B0 w) _)).mono ?_; rintro e w1 ⟨rfl, hb1⟩; have HB1 := Lib.hid (Bt (Ba (B0 w) _) hb1); have c0 : w1.cell? ⟨w.heap.size, 0, none⟩ = some (.int .u8 N) := (Bc hb1 (by simp)).trans (by simp [go_sem]); have c1 : w1.cell? ⟨w.heap.size, 1, none⟩ = some (.slice As sets.length cs) := (Bc hb1 (by simp)).trans (by simp [go_sem]); clear hb1)
    | (go_at_call 9; refine (HM.out _ HB1.out).mono ?_; rintro e w2 ⟨A2, m2, c2, rfl, hp2, hb2⟩; have HB2 := Lib.hid (Bt HB1.out hb2); have HP2 := Lib.hid hp2; clear hb2 hp2 c0 c1))
  have hb3 := Ba HB2.out (.cells #[.int .i64 n, .slice A2 m2 c2] 30)
  have hP3 := (HP2.out.on (Ba (B0 w2) (.cells #[.int .i64 n, .slice A2 m2 c2] 30)))
  have k0 : (w2.alloc (.cells #[.int .i64 n, .slice A2 m2 c2] 30)).cell? ⟨w2.heap.size, 0, none⟩ = some (.int .i64 n) := by simp [go_sem]
  have k1 : (w2.alloc (.cells #[.int .i64 n, .slice A2 m2 c2] 30)).cell? ⟨w2.heap.size, 1, none⟩ = some (.slice A2 m2 c2) := by simp [go_sem]
  have l3 : w2.heap.size < (w2.alloc (.cells #[.int .i64 n, .slice A2 m2 c2] 30)).heap.size := by simp
  generalize (w2.alloc (.cells #[.int .i64 n, .slice A2 m2 c2] 30)) = w3 at *
  have hP3 := hP3.more (Nat.le_of_lt l3) (Nat.le_refl _)
  have HB3 := Lib.hid hb3
  have HP3 := Lib.hid hP3
  obtain ⟨pb, hpb⟩ : ∃ pb, w2.heap.size = pb := ⟨_, rfl⟩
  rw [hpb] at k0 k1 l3 ⊢
  have k : ∀ W, Below w3.heap.size w3 W → W.cell? ⟨pb, 0, none⟩ = some (.int .i64 n) ∧ W.cell? ⟨pb, 1, none⟩ = some (.slice A2 m2 c2) := fun W hW => ⟨(Bc hW l3).trans k0, (Bc hW l3).trans k1⟩
  have K := Lib.hid k
  have HT3 := Lib.hid (HTP.out.below hb3)
  clear hb3 hP3 HM HP2 hpb k HTP
  have hLe := fun W (hW : Below w3.heap.size w3 W) => (HP3.out.on hW).leastC
  have hCo := fun W (hW : Below w3.heap.size w3 W) => (HP3.out.on hW).countC (HT3.out.below hW)
  have hAl := fun W (hW : Below w3.heap.size w3 W) => all_any n (HP3.out.on hW).le (.slice A2 m2 c2) ws HP3.out.good HP3.out.len limit W (fun b => b < w3.heap.size) (HP3.out.on hW).inW (HP3.out.on hW).sets (HP3.out.on hW).tab
  have hRe := fun W (hW : Below w3.heap.size w3 W) => (HP3.out.on hW).allC hn8
  have h2 : 2 ^ n ≤ 256 := Nat.pow_le_pow_right (n := 2) (by decide) hn8
  have hcl : (Hit.allF ws n).2 ≤ 1000000000 := by
    rw [Hit.allF_count]
    have h3 : ((List.range (2 ^ n)).filter fun b => Hit.hit ws b).length ≤ 2 ^ n := Nat.le_trans (List.length_filter_le _ _) (by simp)
    omega
  have hwl : (Hit.allF ws n).1.length ≤ 256 := by
    rw [Hit.allF_len]
    have := Hit.irrL_le ws n (2 ^ n)
    omega
  have hOf := fun W (hW : Below w3.heap.size w3 W) => ofR_any (Hit.allF ws n).2 hcl W (HT3.out.below hW)
  have hSm : ∀ W va vb (l : List Int), SlI (fun b => b < W.heap.size) W va l → SlI (fun b => b < W.heap.size) W vb l → Calls Tryd.prog 22 #[va, vb] W fun e w' => e = .returned (.bool true) ∧ Below W.heap.size W w' := fun W va vb l ha hb => by
    have := same_any va vb l l W _ _ (fun _ h => h) (fun _ h => h) ha hb
    rwa [decide_eq_true rfl] at this
  obtain ⟨rest, hfirst⟩ := HP3.out.first
  have hpos : 0 < (Hit.allF ws n).1.length := by rw [hfirst]; simp
  have hf0 : ∀ h : 0 < (intsL (Hit.allF ws n).1).length, (intsL (Hit.allF ws n).1)[0] = Hit.ints (Hit.members (Hit.least ws n)) := fun h => by simp [intsL, hfirst]
  have hil : (intsL (Hit.allF ws n).1).length = (Hit.allF ws n).1.length := by simp [intsL]
  clear hfirst
  obtain ⟨LS, hLS⟩ : ∃ LS, intsL (Hit.allF ws n).1 = LS := ⟨_, rfl⟩
  obtain ⟨cnt, hcnt⟩ : ∃ cnt, (Hit.allF ws n).2 = cnt := ⟨_, rfl⟩
  unfold AllP at hAl
  rw [hLS] at hRe hAl hf0 hil
  rw [hcnt] at hCo hRe hOf
  obtain ⟨len, hlen⟩ : ∃ len, (Hit.allF ws n).1.length = len := ⟨_, rfl⟩
  rw [hlen] at hRe hAl hil hpos hwl
  obtain ⟨str, hstr⟩ : ∃ str, itoaS cnt = str := ⟨_, rfl⟩
  rw [hstr] at hCo hOf
  have HLE := Lib.hid hLe
  have HCO := Lib.hid hCo
  have HRE := Lib.hid hRe
  have HOF := Lib.hid hOf
  have HSM := Lib.hid hSm
  have HF0 := Lib.hid hf0
  have HIL := Lib.hid hil
  have hposI : (0 : Int) < len := by omega
  generalize Hit.pop (Hit.least ws n) = pl at *
  generalize Hit.ints (Hit.members (Hit.least ws n)) = LL at *
  clear hLe hCo hRe hOf hSm hcl hLS hcnt hlen hstr hf0 hil h2
  have ARMS : True := trivial
  by_cases hrg : limit < 1 ∨ 1000 < limit
  · have hA2 : ∀ W, Below w3.heap.size w3 W → Calls Tryd.prog 20 #[.agg #[.int .i64 n, .slice A2 m2 c2], .int .i64 limit] W fun e w' => e = .returned (.tuple #[.slice none 0 0, .int .i64 3]) ∧ Below W.heap.size W w' := fun W hW => (hAl W hW).mono fun e w' ⟨hb, h⟩ => ⟨by
      rcases h with ⟨_, h⟩ | ⟨⟨h1, h2, _⟩, _⟩ | ⟨⟨h1, h2, _⟩, _⟩
      · exact h
      · omega
      · omega, hb⟩
    have HAL := Lib.hid hA2
    have hq : decide (limit < 1) = true ∨ (decide (limit < 1) = false ∧ decide (1000 < limit) = true) := by
      simp only [decide_eq_true_eq, decide_eq_false_iff_not]; omega
    clear hAl hA2 hrg ARMS
    rcases hq with hq | ⟨hq1, hq2⟩
    all_goals
      as_aux_lemma =>
      go_wp2_with (first
        | (go_at_call 18; (with_reducible refine ((HLE.out _ (B0 w3)).mono ?_)); rintro e w4 ⟨A4, c4, rfl, hs4, hb4⟩; have HS4 := Lib.hid (hs4.mono (G := fun b => b < w4.heap.size) fun b h => h.2); have HB4 := Lib.hid hb4; have k40 := (K.out _ hb4).1; have k41 := (K.out _ hb4).2; clear hb4 hs4 k0 k1)
        | (go_at_call 19; (with_reducible refine ((HCO.out _ HB4.out).mono ?_)); rintro e w5 ⟨rfl, hb5⟩; have HS5 := Lib.hid (SlI.on HS4.out hb5); have HB5 := Lib.hid (Bt HB4.out hb5); have k50 := (K.out _ (Bt HB4.out hb5)).1; have k51 := (K.out _ (Bt HB4.out hb5)).2; clear hb5 k40 k41)
        | (go_at_call 20; (with_reducible refine ((HAL.out _ HB5.out).mono ?_)); rintro e w6 ⟨rfl, hb6⟩; have HS6 := Lib.hid (SlI.on HS5.out hb6); have HB6 := Lib.hid (Bt HB5.out hb6); have k60 := (K.out _ (Bt HB5.out hb6)).1; have k61 := (K.out _ (Bt HB5.out hb6)).2; clear hb6 k50 k51)
        | (go_at_call 21; (with_reducible refine ((HRE.out _ HB6.out).mono ?_)); rintro e w7 ⟨A7, m7, c7, rfl, hm7, hsw7, hb7⟩; have hm7 := hm7.symm; subst hm7; have HS7 := Lib.hid (SlI.on HS6.out hb7); have HSW7 := Lib.hid (hsw7.wider (G := fun b => b < w7.heap.size) fun b h => h.2); have HB7 := Lib.hid (Bt HB6.out hb7); obtain ⟨A7', c7', hv7, _, _, hat7⟩ := hsw7.open; injection hv7 with q71 q72 q73; subst q71; subst q73; clear q72; obtain ⟨ad7, u7, hA7, _, hc7, hu7⟩ := hat7 0 (by rw [HIL.out]; exact hpos); subst hA7; rw [HF0.out] at hu7; have HU7 := Lib.hid (hu7.mono (G := fun b => b < w7.heap.size) fun b h => h.2); have hc70 : w7.cell? ad7 = some u7 := (by have h2 := hc7; simp [Addr.add] at h2; exact h2); clear hb7 hsw7 hat7 hc7 hu7 k60 k61)
        | (go_at_call 22; (with_reducible refine ((HSM.out _ _ _ _ HS7.out HU7.out).mono ?_)); rintro e w8 ⟨rfl, hb8⟩; have HB8 := Lib.hid (Bt HB7.out hb8); have HSW8 := Lib.hid (SlII.on HSW7.out hb8); clear hb8 hc70)
        | (go_at_call 23; (with_reducible refine ((HOF.out _ HB8.out).mono ?_)); rintro e w9 ⟨rfl, hb9⟩; have HB9 := Lib.hid (Bt HB8.out hb9); have HSW9 := Lib.hid (SlII.on HSW8.out hb9); clear hb9))
      go_ret
      exact ⟨rfl, Bt HB3.out HB9.out⟩
  · have hq1 : decide (limit < 1) = false := decide_eq_false (by omega)
    have hq2 : decide (1000 < limit) = false := decide_eq_false (by omega)
    by_cases hov : limit < (len : Int)
    · have hA2 : ∀ W, Below w3.heap.size w3 W → Calls Tryd.prog 20 #[.agg #[.int .i64 n, .slice A2 m2 c2], .int .i64 limit] W fun e w' => e = .returned (.tuple #[.slice none 0 0, .int .i64 4]) ∧ Below W.heap.size W w' := fun W hW => (hAl W hW).mono fun e w' ⟨hb, h⟩ => ⟨by
        rcases h with ⟨h1, _⟩ | ⟨_, h⟩ | ⟨⟨h1, h2, h3⟩, _⟩
        · omega
        · exact h
        · omega, hb⟩
      have HAL := Lib.hid hA2
      have hq3 : decide (limit < (len : Int)) = true := decide_eq_true hov
      clear hAl hA2 hrg ARMS hov
      go_wp2_with (first
        | (go_at_call 18; (with_reducible refine ((HLE.out _ (B0 w3)).mono ?_)); rintro e w4 ⟨A4, c4, rfl, hs4, hb4⟩; have HS4 := Lib.hid (hs4.mono (G := fun b => b < w4.heap.size) fun b h => h.2); have HB4 := Lib.hid hb4; have k40 := (K.out _ hb4).1; have k41 := (K.out _ hb4).2; clear hb4 hs4 k0 k1)
        | (go_at_call 19; (with_reducible refine ((HCO.out _ HB4.out).mono ?_)); rintro e w5 ⟨rfl, hb5⟩; have HS5 := Lib.hid (SlI.on HS4.out hb5); have HB5 := Lib.hid (Bt HB4.out hb5); have k50 := (K.out _ (Bt HB4.out hb5)).1; have k51 := (K.out _ (Bt HB4.out hb5)).2; clear hb5 k40 k41)
        | (go_at_call 20; (with_reducible refine ((HAL.out _ HB5.out).mono ?_)); rintro e w6 ⟨rfl, hb6⟩; have HS6 := Lib.hid (SlI.on HS5.out hb6); have HB6 := Lib.hid (Bt HB5.out hb6); have k60 := (K.out _ (Bt HB5.out hb6)).1; have k61 := (K.out _ (Bt HB5.out hb6)).2; clear hb6 k50 k51)
        | (go_at_call 21; (with_reducible refine ((HRE.out _ HB6.out).mono ?_)); rintro e w7 ⟨A7, m7, c7, rfl, hm7, hsw7, hb7⟩; have hm7 := hm7.symm; subst hm7; have HS7 := Lib.hid (SlI.on HS6.out hb7); have HSW7 := Lib.hid (hsw7.wider (G := fun b => b < w7.heap.size) fun b h => h.2); have HB7 := Lib.hid (Bt HB6.out hb7); obtain ⟨A7', c7', hv7, _, _, hat7⟩ := hsw7.open; injection hv7 with q71 q72 q73; subst q71; subst q73; clear q72; obtain ⟨ad7, u7, hA7, _, hc7, hu7⟩ := hat7 0 (by rw [HIL.out]; exact hpos); subst hA7; rw [HF0.out] at hu7; have HU7 := Lib.hid (hu7.mono (G := fun b => b < w7.heap.size) fun b h => h.2); have hc70 : w7.cell? ad7 = some u7 := (by have h2 := hc7; simp [Addr.add] at h2; exact h2); clear hb7 hsw7 hat7 hc7 hu7 k60 k61)
        | (go_at_call 22; (with_reducible refine ((HSM.out _ _ _ _ HS7.out HU7.out).mono ?_)); rintro e w8 ⟨rfl, hb8⟩; have HB8 := Lib.hid (Bt HB7.out hb8); have HSW8 := Lib.hid (SlII.on HSW7.out hb8); clear hb8 hc70)
        | (go_at_call 23; (with_reducible refine ((HOF.out _ HB8.out).mono ?_)); rintro e w9 ⟨rfl, hb9⟩; have HB9 := Lib.hid (Bt HB8.out hb9); have HSW9 := Lib.hid (SlII.on HSW8.out hb9); clear hb9))
      go_ret
      exact ⟨rfl, Bt HB3.out HB9.out⟩
    · have hA2 : ∀ W, Below w3.heap.size w3 W → Calls Tryd.prog 20 #[.agg #[.int .i64 n, .slice A2 m2 c2], .int .i64 limit] W fun e w' => ∃ A c, e = .returned (.tuple #[.slice A len c, .int .i64 0]) ∧ SlII (fun b => b < w'.heap.size) w' (.slice A len c) LS ∧ Below W.heap.size W w' := fun W hW => (hAl W hW).mono fun e w' ⟨hb, h⟩ => by
        rcases h with ⟨h1, _⟩ | ⟨⟨h1, h2, h3⟩, _⟩ | ⟨_, A, c, he, hs⟩
        · omega
        · omega
        · exact ⟨A, c, he, hs.wider fun b h => h.2, hb⟩
      have HAL := Lib.hid hA2
      have hq3 : decide (limit < (len : Int)) = false := decide_eq_false hov
      clear hAl hA2 hrg ARMS hov
      go_wp2_with (first
        | (go_at_call 18; (with_reducible refine ((HLE.out _ (B0 w3)).mono ?_)); rintro e w4 ⟨A4, c4, rfl, hs4, hb4⟩; have HS4 := Lib.hid (hs4.mono (G := fun b => b < w4.heap.size) fun b h => h.2); have HB4 := Lib.hid hb4; have k40 := (K.out _ hb4).1; have k41 := (K.out _ hb4).2; clear hb4 hs4 k0 k1)
        | (go_at_call 19; (with_reducible refine ((HCO.out _ HB4.out).mono ?_)); rintro e w5 ⟨rfl, hb5⟩; have HS5 := Lib.hid (SlI.on HS4.out hb5); have HB5 := Lib.hid (Bt HB4.out hb5); have k50 := (K.out _ (Bt HB4.out hb5)).1; have k51 := (K.out _ (Bt HB4.out hb5)).2; clear hb5 k40 k41)
        | (go_at_call 20; (with_reducible refine ((HAL.out _ HB5.out).mono ?_)); rintro e w6 ⟨A6, c6, rfl, hsa6, hb6⟩; have HS6 := Lib.hid (SlI.on HS5.out hb6); have HSA6 := Lib.hid hsa6; have HB6 := Lib.hid (Bt HB5.out hb6); have k60 := (K.out _ (Bt HB5.out hb6)).1; have k61 := (K.out _ (Bt HB5.out hb6)).2; clear hb6 k50 k51 hsa6)
        | (go_at_call 21; (with_reducible refine ((HRE.out _ HB6.out).mono ?_)); rintro e w7 ⟨A7, m7, c7, rfl, hm7, hsw7, hb7⟩; have hm7 := hm7.symm; subst hm7; have HS7 := Lib.hid (SlI.on HS6.out hb7); have HSW7 := Lib.hid (hsw7.wider (G := fun b => b < w7.heap.size) fun b h => h.2); have HSA7 := Lib.hid (SlII.on HSA6.out hb7); have HB7 := Lib.hid (Bt HB6.out hb7); obtain ⟨A7', c7', hv7, _, _, hat7⟩ := hsw7.open; injection hv7 with q71 q72 q73; subst q71; subst q73; clear q72; obtain ⟨ad7, u7, hA7, _, hc7, hu7⟩ := hat7 0 (by rw [HIL.out]; exact hpos); subst hA7; rw [HF0.out] at hu7; have HU7 := Lib.hid (hu7.mono (G := fun b => b < w7.heap.size) fun b h => h.2); have hc70 : w7.cell? ad7 = some u7 := (by have h2 := hc7; simp [Addr.add] at h2; exact h2); clear hb7 hsw7 hat7 hc7 hu7 k60 k61)
        | (go_at_call 22; (with_reducible refine ((HSM.out _ _ _ _ HS7.out HU7.out).mono ?_)); rintro e w8 ⟨rfl, hb8⟩; have HB8 := Lib.hid (Bt HB7.out hb8); have HSW8 := Lib.hid (SlII.on HSW7.out hb8); have HSA8 := Lib.hid (SlII.on HSA7.out hb8); clear hb8 hc70)
        | (go_at_call 23; (with_reducible refine ((HOF.out _ HB8.out).mono ?_)); rintro e w9 ⟨rfl, hb9⟩; have HB9 := Lib.hid (Bt HB8.out hb9); have HSW9 := Lib.hid (SlII.on HSW8.out hb9); have HSA9 := Lib.hid (SlII.on HSA8.out hb9); clear hb9))
      go_loopg [14] len (fun gg s14 wr => ∃ k : Nat, k ≤ len ∧ len - k ≤ gg ∧ s14 = .int .i64 k ∧ Aside (Below w9.heap.size w9 wr))
      case atStart => exact ⟨0, by omega, by omega, rfl, B0 w9⟩
      case round =>
        obtain ⟨k, hk, hg, rfl, HBk⟩ := hrel
        by_cases hlt : k < len
        · have hki : decide ((k : Int) < len) = true := decide_eq_true (by omega)
          have hk2 : (k : Int) < len := by omega
          have hSa := SlII.on HSA9.out HBk.out
          have hSw := SlII.on HSW9.out HBk.out
          obtain ⟨A6', c6', hv6, _, _, hat6⟩ := hSa.open
          obtain ⟨A7', c7', hv7, _, _, hat7⟩ := hSw.open
          injection hv6 with q1 q5 q2
          injection hv7 with q3 q6 q4
          subst q1; subst q2; subst q3; subst q4
          obtain ⟨ad6, u6, hA6, hf6, hc6, hu6⟩ := hat6 k (by rw [HIL.out]; exact hlt)
          obtain ⟨ad8, u8, hA8, hf8, hc8, hu8⟩ := hat7 k (by rw [HIL.out]; exact hlt)
          subst hA6
          injection hA8 with hA8
          subst hA8
          have hcall := HSM.out wr.drew u6 u8 _ hu6 hu8
          have HCALL := Lib.hid hcall
          clear hat6 hat7 hSa hSw hcall hu6 hu8 hlt q5 q6
          go_wp2_with fail
          go_region_held3 (fun w' => w'.cell? (ad6.add k) = some u6 ∧ w'.cell? (ad7.add k) = some u8) (first | exact ⟨hc6, hc8⟩ | exact ⟨j6, j8⟩)
            ((go_at_call 22; (with_reducible refine (HCALL.out.mono ?_)); rintro e wx ⟨rfl, hbx⟩; have j6 := (hbx.cell (p := ad6.add k) (by rw [block_of_add]; exact hf6)).trans hc6; have j8 := (hbx.cell (p := ad7.add k) (by rw [block_of_add]; exact hf8)).trans hc8; have HBX := Lib.hid (Bt (B0 wr).drew hbx); clear hbx))
          go_wp2_with fail
          go_roundg (len - (k + 1))
          case measure => omega
          case rel => exact ⟨k + 1, by omega, by omega, by go_num, Bt HBk.out HBX.out⟩
        · have hki : decide ((k : Int) < len) = false := decide_eq_false (by omega)
          obtain rfl : k = len := by omega
          clear hlt
          go_wp2_with fail
          go_ret
          exact ⟨rfl, Bt HB3.out (Bt HB9.out HBk.out)⟩
end Go.Proofs.YthgjhfapnilfhaaDoor
