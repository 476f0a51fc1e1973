/- Walks over hitting: All. -/
import Derived.Test.YthgjhfapnilfhaaDoorLc
namespace Go.Proofs.YthgjhfapnilfhaaDoor
open Go Go.RowKit
/-- The irreducible lists below k. -/
def irrLs (ws : List Nat) (n k : Nat) : List (List Nat) := (Hit.irrL ws n k).map Hit.members
theorem irrLs_len (ws : List Nat) (n k : Nat) : (irrLs ws n k).length = (Hit.irrL ws n k).length := by simp [irrLs]
theorem irrLs_no {ws : List Nat} {n k : Nat} (h : (Hit.hit ws k && Hit.irr ws n k) = false) : irrLs ws n (k + 1) = irrLs ws n k := by
  unfold irrLs; rw [Hit.irrL_succ, h]; simp
theorem irrLs_yes {ws : List Nat} {n k : Nat} (h1 : Hit.hit ws k = true) (h2 : Hit.irr ws n k = true) : irrLs ws n (k + 1) = irrLs ws n k ++ [Hit.members k] := by
  unfold irrLs; rw [Hit.irrL_succ, h1, h2]; simp
/-- What All returns. -/
def AllP (ws : List Nat) (n : Nat) (limit : Int) (w : World) (e : Ending) (w' : World) : Prop :=
  Below w.heap.size w w' ∧ (((limit < 1 ∨ 1000 < limit) ∧ e = .returned (.tuple #[.slice none 0 0, .int .i64 3])) ∨
    ((1 ≤ limit ∧ limit ≤ 1000 ∧ limit < ((Hit.allF ws n).1.length : Int)) ∧ e = .returned (.tuple #[.slice none 0 0, .int .i64 4])) ∨
    ((1 ≤ limit ∧ limit ≤ 1000 ∧ ((Hit.allF ws n).1.length : Int) ≤ limit) ∧ ∃ A c, e = .returned (.tuple #[.slice A (Hit.allF ws n).1.length c, .int .i64 0]) ∧ SlII (fun b => w.heap.size ≤ b ∧ b < w'.heap.size) w' (.slice A (Hit.allF ws n).1.length c) (intsL (Hit.allF ws n).1)))
theorem allF_pos {ws : List Nat} {n : Nat} (hg : Hit.Good ws n) (hn : n ≤ 64) : 0 < (Hit.allF ws n).1.length := by
  obtain ⟨X, hX⟩ := Hit.least_spec hg
  obtain ⟨l, hl⟩ := Hit.all_head hn hX
  rw [hl]; simp
set_option maxRecDepth 100000 in
set_option maxHeartbeats 4000000 in
theorem all_any (n : Nat) (hn : n ≤ 20) (vs : Value) (ws : List Nat) (hg : Hit.Good ws n) (hwl : ws.length ≤ 100) (limit : Int) (w : World) (F : Nat → Prop) (hF : ∀ b, F b → b < w.heap.size) (hr : SlII F w vs (setsOf ws)) (hT32 : Tab32 w) :
    Calls Tryd.prog 20 #[.agg #[.int .i64 n, vs], .int .i64 limit] w (AllP ws n limit w) := by
  have hw := good_lt hg (by omega)
  have hC : ∀ W, Below w.heap.size w W → Calls Tryd.prog 33 #[.agg #[.int .i64 n, vs]] W fun e w' => e = .returned (.int .i64 0) ∧ Below W.heap.size W w' :=
    fun W hW => by
      have := check_any n vs (setsOf ws) W F (fun b hb => Nat.lt_of_lt_of_le (hF b hb) hW.size) (hr.keep (Agree.below hW hF))
      rw [show Hit.checkF n (setsOf ws) = 0 from Hit.checkF_of hn hwl hg] at this
      exact this
  have hW : ∀ W, Below w.heap.size w W → Calls Tryd.prog 36 #[.agg #[.int .i64 n, vs]] W fun e w' => ∃ A m c, e = .returned (.slice A m c) ∧ m = ws.length ∧ Own0 w' W.heap.size 95 1 A m c (cellsV (vU .u32) ws) ∧ Below W.heap.size W w' :=
    fun W hW => words_any n vs ws hw (by omega) W F (fun b hb => Nat.lt_of_lt_of_le (hF b hb) hW.size) (hr.keep (Agree.below hW hF))
  have hM : ∀ W0 A m c, m = ws.length → SlU .u32 (fun b => b < W0.heap.size) W0 (.slice A m c) ws → ∀ W x, x < 4294967296 → Below W0.heap.size W0 W → Calls Tryd.prog 51 #[.slice A m c, .int .u32 ((x : Nat) : Int)] W fun e w' => e = .returned (.int .i64 (missF ws x)) ∧ Below W.heap.size W w' :=
    fun W0 A m c _ hS W x hx hb => missed_any _ ws hw x hx W (fun b => b < W0.heap.size) (fun _ h => Nat.lt_of_lt_of_le h hb.size) (hS.keep (Agree.below hb fun _ h => h))
  obtain ⟨As, cs, rfl, _⟩ := hr.open
  have hT : 2 ^ n ≤ 1048576 := Nat.le_trans (Nat.pow_le_pow_right (by decide) hn) (by decide)
  have hshl : (2 : Int) ^ n % 4294967296 = ((2 ^ n : Nat) : Int) := Hit.two_u32 n (by omega)
  have hfin : ∀ M : List (List Nat), M.Perm (irrLs ws n (2 ^ n)) → (M.Pairwise fun x y => Hit.before y x = false) → M = (Hit.allF ws n).1 := fun M h1 h2 => Hit.sort_unique h1 h2
  have hlen : (irrLs ws n (2 ^ n)).length = (Hit.allF ws n).1.length := by rw [irrLs_len, Hit.allF_len]
  have hpos := allF_pos hg (by omega)
  have hirr : ∀ b, b < 2 ^ n → Hit.irr ws n b = (Hit.members b).all fun i => !Hit.hit ws (Hit.andn b (Hit.bit i)) := fun b hb => Hit.irr_members (by omega) hb
  have hmono : ∀ b, b ≤ 2 ^ n → (irrLs ws n b).length ≤ (irrLs ws n (2 ^ n)).length := fun b hb => by rw [irrLs_len, irrLs_len]; exact Hit.irrL_mono ws n hb
  have hn32 : 2 ^ n ≤ 2 ^ 32 := Nat.pow_le_pow_right (by decide) (by omega)
  generalize hTT : 2 ^ n = T at *
  have HC := Lib.hid hC
  have HW := Lib.hid hW
  have HM := Lib.hid hM
  have HFIN := Lib.hid hfin
  have HLEN := Lib.hid hlen
  have HPOS := Lib.hid hpos
  have HIRR := Lib.hid hirr
  have HMONO := Lib.hid hmono
  have HT := Lib.hid hT32
  clear hC hW hM hr hw hg hTT hfin hlen hpos hirr hmono hT32 hn32
  go_enter Tryd.func20, Tryd.ntmps20
  go_wp2_with fail
  refine (HC.out _ (Ba (B0 w) _)).mono ?_
  rintro e w1 ⟨rfl, hb1⟩
  have c0 : w1.cell? ⟨w.heap.size, 0, none⟩ = some (.int .i64 n) := (Bc hb1 (by simp)).trans (by simp [go_sem])
  have c1 : w1.cell? ⟨w.heap.size, 1, none⟩ = some (.slice As (setsOf ws).length cs) := (Bc hb1 (by simp)).trans (by simp [go_sem])
  have s1 : w.heap.size < w1.heap.size := by have := hb1.size; simp at this; omega
  have HB := Lib.hid (Bt (Ba (B0 w) _) hb1)
  clear hb1
  by_cases hrg : limit < 1 ∨ 1000 < limit
  · have hq : decide (limit < 1) = true ∨ (decide (limit < 1) = false ∧ decide (1000 < limit) = true) := by
      simp only [decide_eq_true_eq, decide_eq_false_iff_not]; omega
    have HRG := Lib.hid hrg
    clear hrg hshl
    rcases hq with hq | ⟨hq1, hq2⟩
    all_goals
      go_wp2_with fail
      go_ret2
      exact ⟨HB.out, .inl ⟨HRG.out, rfl⟩⟩
  · obtain ⟨lm, rfl⟩ := Int.eq_ofNat_of_zero_le (show 0 ≤ limit by omega)
    have hlm1 : 1 ≤ lm := by omega
    have hlm2 : lm ≤ 1000 := by omega
    have hq1 : decide ((lm : Int) < 1) = false := decide_eq_false (by omega)
    have hq2 : decide (1000 < (lm : Int)) = false := decide_eq_false (by omega)
    have hq1n : decide (lm < 1) = false := decide_eq_false (by omega)
    have hq2n : decide (1000 < lm) = false := decide_eq_false (by omega)
    clear hrg
    go_wp2_with fail
    refine (HW.out _ HB.out).mono ?_
    rintro e w2 ⟨Aw, mw, cw, rfl, hm, hO, hb2⟩
    have c02 := (Bc hb2 s1).trans c0
    have HB2 := Lib.hid (Bt HB.out hb2)
    have hM2 := HM.out w2 Aw mw cw hm (hO.words hm (by omega) fun b _ h => h)
    have HM2 := Lib.hid hM2
    have HT2 := Lib.hid (HT.out.below HB2.out)
    clear hb2 hO hm c0 c1 hM2 HM HW HC hq1 hq2 hq1n hq2n
    go_wp2_with fail
    rw [hshl]
    clear hshl
    go_loopg [8, 28] T (fun gg s8 s28 wr => ∃ (b : Nat) (A : Option Addr) (m c : Nat), b ≤ T ∧ m ≤ lm ∧ T - b ≤ gg ∧ s28 = .int .u32 b ∧ s8 = .slice A m c ∧ Aside (m = (irrLs ws n b).length) ∧ Aside (OLI w2.heap.size wr (.slice A m c) (intsL (irrLs ws n b))) ∧ Aside (Below w2.heap.size w2 wr))
    case atStart => exact ⟨0, none, 0, 0, by omega, by omega, by omega, rfl, rfl, rfl, OLI.nil _ _, B0 w2⟩
    case round =>
      obtain ⟨b, A, m, c, hb, hml, hg, rfl, rfl, HMl, HO, HBw⟩ := hrel
      obtain ⟨wo, rfl⟩ : ∃ wo : World, wo = wr := ⟨_, rfl⟩
      by_cases hlt : b < T
      · have hki : decide ((b : Int) < T) = true := decide_eq_true (by omega)
        have hneg := missF_neg ws b
        have HMz := Lib.hid (HM2.out wo b (by omega) HBw.out)
        cases hh : Hit.hit ws b with
        | false =>
          have hd : decide (0 ≤ missF ws b) = true := decide_eq_true (by
            have : ¬ missF ws b < 0 := fun q => by rw [hneg.1 q] at hh; cases hh
            omega)
          have hnx := irrLs_no (ws := ws) (n := n) (k := b) (by rw [hh]; rfl)
          have HNX := Lib.hid hnx
          clear hneg hh hnx
          generalize missF ws b = ms at *
          go_wp2_with (go_at_call 51; (with_reducible refine (HMz.out.mono ?_)); rintro e w3 ⟨rfl, hb3⟩; have HB3 := Lib.hid (Bt HBw.out hb3); have HO3 := Lib.hid (HO.out.later hb3); clear hb3)
          go_roundg (T - (b + 1))
          case measure => omega
          case rel => exact ⟨b + 1, A, m, c, by omega, hml, by omega, by go_num, rfl, by rw [HNX.out]; exact HMl.out, by rw [HNX.out]; exact HO3.out, HB3.out⟩
        | true =>
          have hms := missF_cases ws b
          rw [hh] at hms
          have hd : decide (0 ≤ missF ws b) = false := decide_eq_false (by
            rcases hms with ⟨_, q⟩ | ⟨q, _⟩
            · omega
            · cases q)
          have hir := HIRR.out b hlt
          have hno := fun (h2 : Hit.irr ws n b = false) => irrLs_no (ws := ws) (n := n) (k := b) (by rw [hh, h2]; rfl)
          have hyes := fun (h2 : Hit.irr ws n b = true) => irrLs_yes (ws := ws) (n := n) (k := b) hh h2
          have HIR := Lib.hid hir
          have HNO := Lib.hid hno
          have HYES := Lib.hid hyes
          clear hneg hh hms hir hno hyes
          generalize missF ws b = ms at *
          go_wp2_with (go_at_call 51; (with_reducible refine (HMz.out.mono ?_)); rintro e w3 ⟨rfl, hb3⟩; have HB3 := Lib.hid (Bt HBw.out hb3); have HO3 := Lib.hid (HO.out.later hb3); clear hb3)
          clear HO HBw HMz hd
          go_loopg [10, 11] b (fun gg s10 s11 wr => ∃ (r : Nat) (nd : Bool), r ≤ gg ∧ r ≤ b ∧ s11 = .int .u32 r ∧ s10 = .bool nd ∧ Aside ((nd && (Hit.members r).all fun i => !Hit.hit ws (Hit.andn b (Hit.bit i))) = Hit.irr ws n b) ∧ Aside (Below w3.heap.size w3 wr))
          case atStart => exact ⟨b, true, by omega, by omega, rfl, rfl, by rw [Aside, Bool.true_and, ← HIR.out], B0 w3⟩
          case round =>
            obtain ⟨r, nd, hrg, hrb, rfl, rfl, HND, HBi⟩ := hrel
            have hBw := Bt HB3.out HBi.out
            have HOi := Lib.hid (HO3.out.later HBi.out)
            have HBw := Lib.hid hBw
            clear hBw
            by_cases hgo : nd = true ∧ r ≠ 0
            · obtain ⟨rfl, hr0⟩ := hgo
              have h0' : ((r : Int) != 0) = true := by simp; omega
              have h1 : (1 : Int) ≤ r := by omega
              have hr32 : r < 4294967296 := by omega
              have hb32 : b < 4294967296 := by omega
              obtain ⟨hs, hlt2⟩ := Hit.members_step 32 r (by decide) hr0 hr32
              rw [← Hit.tz_ctz 32 r (by decide) hr0 hr32] at hs
              have hnd := HND.out
              rw [hs, List.all_cons, Bool.true_and] at hnd
              obtain ⟨hlow, htz⟩ := Hit.low_bit 32 r (by decide) hr0 hr32
              have hbp : Hit.bit (Hit.tz r) < 4294967296 := Hit.bit_lt htz
              have hneg : -(r : Int) % 4294967296 = ((4294967296 - r : Nat) : Int) := by omega
              have hand1 := Hit.u32_and r (4294967296 - r) hr32 (by omega)
              rw [show r &&& (4294967296 - r) = Hit.bit (Hit.tz r) from hlow] at hand1
              have hdn := Hit.u32_andn b (Hit.bit (Hit.tz r)) hb32 hbp
              have hzl : Hit.andn b (Hit.bit (Hit.tz r)) < 4294967296 := Hit.andn_lt (k := 32) hb32
              have hand := Hit.u32_and r (r - 1) hr32 (by omega)
              rw [show ((r - 1 : Nat) : Int) = (r : Int) - 1 from by omega] at hand
              have hcases := missF_cases ws (Hit.andn b (Hit.bit (Hit.tz r)))
              generalize Hit.andn b (Hit.bit (Hit.tz r)) = z at *
              generalize Hit.bit (Hit.tz r) = bp at *
              have HMi := Lib.hid (HM2.out wr z hzl HBw.out)
              generalize r &&& (r - 1) = r2 at *
              clear hs hlow htz hbp hzl
              rcases hcases with ⟨hz, hmz⟩ | ⟨hz, hmz⟩
              · have hd2 : decide (0 ≤ missF ws z) = false := decide_eq_false (by omega)
                have hnd2 : (false && (Hit.members r2).all fun i => !Hit.hit ws (Hit.andn b (Hit.bit i))) = Hit.irr ws n b := by rw [← hnd, hz]; rfl
                have HND2 := Lib.hid hnd2
                clear hnd hnd2 hz hmz
                generalize missF ws z = mz at *
                go_wp2_with (go_at_call 51; (with_reducible refine (HMi.out.mono ?_)); rintro e w4 ⟨rfl, hb4⟩; have HB4 := Lib.hid (Bt HBi.out hb4); clear hb4)
                go_roundg r2
                case measure => omega
                case rel => exact ⟨r2, false, by omega, by omega, by go_num, rfl, HND2.out, HB4.out⟩
              · have hd2 : decide (0 ≤ missF ws z) = true := decide_eq_true hmz
                have hnd2 : (true && (Hit.members r2).all fun i => !Hit.hit ws (Hit.andn b (Hit.bit i))) = Hit.irr ws n b := by rw [← hnd, hz]; rfl
                have HND2 := Lib.hid hnd2
                clear hnd hnd2 hz hmz
                generalize missF ws z = mz at *
                go_wp2_with (go_at_call 51; (with_reducible refine (HMi.out.mono ?_)); rintro e w4 ⟨rfl, hb4⟩; have HB4 := Lib.hid (Bt HBi.out hb4); clear hb4)
                go_roundg r2
                case measure => omega
                case rel => exact ⟨r2, true, by omega, by omega, by go_num, rfl, HND2.out, HB4.out⟩
            · have hnd : Hit.irr ws n b = nd := by
                rw [← HND.out]
                cases nd with
                | false => rfl
                | true =>
                  have : r = 0 := Classical.byContradiction fun h => hgo ⟨rfl, h⟩
                  rw [this]; rfl
              have hq : ((r : Int) != 0) = false ∨ (((r : Int) != 0) = true ∧ nd = false) := by
                by_cases h : r = 0
                · exact .inl (by simp [h])
                · refine .inr ⟨by simp; omega, ?_⟩
                  cases nd with
                  | false => rfl
                  | true => exact absurd ⟨rfl, h⟩ hgo
              clear hgo HND
              cases nd with
              | false =>
                have HNX := Lib.hid (HNO.out hnd)
                clear hnd
                rcases hq with hq | ⟨hq, _⟩
                all_goals
                  go_wp2_with fail
                  go_roundg (T - (b + 1))
                  case measure => omega
                  case rel => exact ⟨b + 1, A, m, c, by omega, hml, by omega, by go_num, rfl, by rw [HNX.out]; exact HMl.out, by rw [HNX.out]; exact HOi.out, HBw.out⟩
              | true =>
                have hnx := HYES.out hnd
                have HNX := Lib.hid hnx
                have hlen2 : (irrLs ws n (b + 1)).length = m + 1 := by rw [hnx, List.length_append, ← HMl.out]; rfl
                have hmon := HMONO.out (b + 1) (by omega)
                rw [hlen2, HLEN.out] at hmon
                have HMON := Lib.hid hmon
                have HLEN2 := Lib.hid hlen2
                obtain ⟨cl, hc1, hc2, hc3⟩ := HOi.out
                have hil : (intsL (irrLs ws n b)).length = m := by simp [intsL]; exact HMl.out.symm
                rw [hil] at hc1 hc3
                have HC1 := Lib.hid hc1
                have HC2 := Lib.hid hc2
                have HC3 := Lib.hid hc3
                have HIL := Lib.hid hil
                have HNu := Lib.hid (numbers_any b (by omega) wr (HT2.out.below HBw.out))
                have hmbl : (Hit.members b).length ≤ 1000000000 := red_len b
                have hqq : ((r : Int) != 0) = false := by
                  rcases hq with h | ⟨_, h⟩
                  · exact h
                  · cases h
                clear hnd hnx hlen2 hmon hc1 hc2 hc3 hil hq
                have hq' : decide ((lm : Int) < (m : Int) + 1) = true ∨ decide ((lm : Int) < (m : Int) + 1) = false := by cases decide ((lm : Int) < (m : Int) + 1) <;> simp
                by_cases hover : lm < m + 1
                · have d1 : decide ((lm : Int) < (m : Int) + 1) = true := decide_eq_true (by omega)
                  have d1n : decide (lm < m + 1) = true := decide_eq_true hover
                  clear hq'
                  go_wp2_with (first
                    | (go_at_call 50; (with_reducible refine (HNu.out.mono ?_)); rintro e w4 ⟨A4, m4, c4, rfl, hm4, hO4, hb4⟩; have HB4 := Lib.hid hb4; clear hb4 hm4 hO4)
                    | (at_builtin; refine wpList_appS elemS (by omega) rfl _ _ rfl w2.heap.size (.slice A m c) m cl.flatten rfl ((HC3.out.kept (row := none) (only_of_below HB4.out none) (by cases hv : (Value.slice A m c).ownBlock <;> simp)).alloc _) ⟨w4.heap.size, 0, none⟩ 1 [.slice A4 m4 c4] rfl rfl (Flds.new w4 _ _) (by simp [Value.oneCell']) (by omega) (by omega) (by have h1 := HBw.out.size; have h2 := HB4.out.size; simp; omega) ?_; intro g5 cap5 w5 q1 q2 q3; have HB5 := Lib.hid ((Ba (Bt HBw.out HB4.out) (.cells #[.slice A4 m4 c4] 37)).grown q2 (by have h1 := HBw.out.size; have h2 := HB4.out.size; simp; omega) fun k hk => (HC3.out.lt k hk).1); clear q1 q2 q3))
                  go_ret2
                  exact ⟨Bt HB2.out HB5.out, .inr (.inl ⟨⟨by omega, by omega, by have := HMON.out; omega⟩, rfl⟩)⟩
                · have d1 : decide ((lm : Int) < (m : Int) + 1) = false := decide_eq_false (by omega)
                  have d1n : decide (lm < m + 1) = false := decide_eq_false hover
                  clear hq'
                  go_wp2_with (first
                    | (go_at_call 50; (with_reducible refine (HNu.out.mono ?_)); rintro e w4 ⟨A4, m4, c4, rfl, hm4, hO4, hb4⟩; have HB4 := Lib.hid hb4; have HV4 := Lib.hid (hO4.ints hm4 hmbl (F := fun x => wr.heap.size ≤ x ∧ x < w4.heap.size) fun x q1 q2 => ⟨q1, q2⟩); clear hb4 hm4 hO4)
                    | (at_builtin; refine wpList_appS elemS (by omega) rfl _ _ rfl w2.heap.size (.slice A m c) m cl.flatten rfl ((HC3.out.kept (row := none) (only_of_below HB4.out none) (by cases hv : (Value.slice A m c).ownBlock <;> simp)).alloc _) ⟨w4.heap.size, 0, none⟩ 1 [.slice A4 m4 c4] rfl rfl (Flds.new w4 _ _) (by simp [Value.oneCell']) (by omega) (by omega) (by have h1 := HBw.out.size; have h2 := HB4.out.size; simp; omega) ?_; intro g5 cap5 w5 q1 q2 q3; have HB5 := Lib.hid ((Ba (Bt HBw.out HB4.out) (.cells #[.slice A4 m4 c4] 37)).grown q2 (by have h1 := HBw.out.size; have h2 := HB4.out.size; simp; omega) fun k hk => (HC3.out.lt k hk).1); have HQ1 := Lib.hid q1; have HQ2 := Lib.hid q2; have HQ3 := Lib.hid q3; clear q1 q2 q3))
                  have hOn : OLI w2.heap.size w5 (.slice (some ⟨g5, 0, none⟩) (m + 1) cap5) (intsL (irrLs ws n (b + 1))) := by
                    have := OLI.append (base := w2.heap.size) (w := wr) (w2 := w4.alloc (.cells #[.slice A4 m4 c4] 37)) (v := .slice A m c) (u := .slice A4 m4 c4) (ls := intsL (irrLs ws n b)) (l := Hit.ints (Hit.members b)) (by rw [HIL.out]; exact HC1.out) HC2.out (Ba HB4.out _) HBw.out.size (fun x hx => (HC3.out.lt x hx).2) (by rw [HIL.out]; exact HQ1.out) HQ2.out HQ3.out
                      ((HV4.out.keep (Agree.below (Ba (B0 w4) _) fun x h => h.2)).mono fun x h => ⟨h.1, by have := h.2; simp; omega⟩)
                    rw [HIL.out] at this
                    have e : intsL (irrLs ws n b) ++ [Hit.ints (Hit.members b)] = intsL (irrLs ws n (b + 1)) := by rw [HNX.out]; simp [intsL]
                    rwa [e] at this
                  have HON := Lib.hid hOn
                  clear hOn
                  go_roundg (T - (b + 1))
                  case measure => omega
                  case rel => exact ⟨b + 1, some ⟨g5, 0, none⟩, m + 1, cap5, by omega, by omega, by omega, by go_num, rfl, HLEN2.out.symm, HON.out, HB5.out⟩
      · have hki : decide ((b : Int) < T) = false := decide_eq_false (by omega)
        obtain rfl : b = T := by omega
        have hml2 := HMl.out
        rw [HLEN.out] at hml2
        obtain ⟨cl, hc1, hc2, hc3⟩ := id HO.out
        have hil : (intsL (irrLs ws n b)).length = m := by simp [intsL]; exact HMl.out.symm
        rw [hil] at hc3
        obtain ⟨g, cap, hv, hgb, _⟩ := hc3.form (by have := HPOS.out; omega)
        injection hv with e1 _ e3
        subst e1; subst e3
        have hO := HO.out
        have hmI := HMl.out
        have hsort := sortAll_any w2.heap.size g c (irrLs ws n b) wo (by omega) (by rw [← hmI]; exact hO) (by have := HPOS.out; omega)
        rw [← hmI] at hsort
        have HSO := Lib.hid hsort
        have HML2 := Lib.hid hml2
        have hgl := (hc3.lt g rfl)
        have hgl1 := hgl.1
        clear hO hmI hsort hml2 hc1 hc2 hc3 hil hgl HO
        go_wp2_with (go_at_call 53; (with_reducible refine (HSO.out.mono ?_)); rintro e w6 ⟨rfl, M, hM1, hM2, hM3, hM4, hM5⟩; have HB6 := Lib.hid (HBw.out.grown hM5 HBw.out.size fun k hk => by injection hk with hk; omega); have HFM := Lib.hid (HFIN.out M hM1 hM2); have HM4 := Lib.hid hM4; clear hM1 hM2 hM3 hM4 hM5)
        go_ret2
        have hM4 := HM4.out
        rw [HFM.out, HML2.out] at hM4
        refine ⟨Bt HB2.out HB6.out, .inr (.inr ⟨⟨by omega, by omega, by rw [← HML2.out]; omega⟩, some ⟨g, 0, none⟩, c, by rw [HML2.out]; rfl, hM4.wider fun b hb => ⟨?_, hb.2⟩⟩)⟩
        have := HB2.out.size
        omega
end Go.Proofs.YthgjhfapnilfhaaDoor
