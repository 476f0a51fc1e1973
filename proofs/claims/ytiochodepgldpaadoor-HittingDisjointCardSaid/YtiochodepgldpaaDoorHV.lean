/- Walks over hitting: how many lists hit all sets. -/
import Derived.Test.YtiochodepgldpaaDoorHU
namespace Go.Proofs.YtiochodepgldpaaDoor
open Go Go.RowKit
def cntTo (ws : List Nat) (k : Nat) : Nat := ((List.range k).filter fun x => Hit.hit ws x).length
theorem cntTo_succ (ws : List Nat) (k : Nat) : cntTo ws (k + 1) = cntTo ws k + (if Hit.hit ws k then 1 else 0) := by
  unfold cntTo
  rw [List.range_succ, List.filter_append, List.length_append, List.filter_cons, List.filter_nil]
  split <;> rfl
theorem cntTo_le (ws : List Nat) (k : Nat) : cntTo ws k ≤ k := Nat.le_trans (List.length_filter_le _ _) (by simp)
set_option maxHeartbeats 1000000 in
theorem of4 (w : World) : Calls Tryd.prog 56 #[.int .i64 4] w fun e w' => e = .returned (.string ⟨#[52]⟩) ∧ Below w.heap.size w w' := by
  go_enter Tryd.func56, Tryd.ntmps56
  go_wp2
  go_ret
  exact ⟨rfl, B0 w⟩
set_option maxHeartbeats 2000000 in
theorem count_any (n : Nat) (hn : n ≤ 20) (vs : Value) (ws : List Nat) (hg : Hit.Good ws n) (hwl : ws.length ≤ 100) (str : ByteArray) (w : World) (F : Nat → Prop) (hF : ∀ b, F b → b < w.heap.size) (hr : SlII F w vs (setsOf ws))
    (hOf : ∀ W, Calls Tryd.prog 56 #[.int .i64 (cntTo ws (2 ^ n) : Nat)] W fun e w' => e = .returned (.string str) ∧ Below W.heap.size W w') :
    Calls Tryd.prog 24 #[.agg #[.int .i64 n, vs]] w fun e w' => e = .returned (.tuple #[.string str, .int .i64 0]) ∧ Below w.heap.size w w' := by
  have hw := good_lt hg (by omega)
  have hC : ∀ W, Below w.heap.size w W → Calls Tryd.prog 29 #[.agg #[.int .i64 n, vs]] W fun e w' => e = .returned (.int .i64 0) ∧ Below W.heap.size W w' :=
    fun W hW => by
      have := check_any n vs (setsOf ws) W F (fun b hb => Nat.lt_of_lt_of_le (hF b hb) hW.size) (hr.keep (Agree.below hW hF))
      rw [show Hit.checkF n (setsOf ws) = 0 from Hit.checkF_of hn hwl hg] at this
      exact this
  have hW : ∀ W, Below w.heap.size w W → Calls Tryd.prog 35 #[.agg #[.int .i64 n, vs]] W fun e w' => ∃ A m c, e = .returned (.slice A m c) ∧ m = ws.length ∧ Own0 w' W.heap.size 83 1 A m c (cellsV (vU .u32) ws) ∧ Below W.heap.size W w' :=
    fun W hW => words_any n vs ws hw (by omega) W F (fun b hb => Nat.lt_of_lt_of_le (hF b hb) hW.size) (hr.keep (Agree.below hW hF))
  have hM : ∀ W A m c x, x < 4294967296 → m = ws.length → Own0 W w.heap.size 83 1 A m c (cellsV (vU .u32) ws) → Calls Tryd.prog 55 #[.slice A m c, .int .u32 ((x : Nat) : Int)] W fun e w' => e = .returned (.int .i64 (missF ws x)) ∧ Below W.heap.size W w' :=
    fun W A m c x hx hm hO => missed_any _ ws hw x hx W (fun b => b < W.heap.size) (fun _ h => h) (hO.words hm (by omega) fun b _ h => h)
  obtain ⟨As, cs, rfl, _⟩ := hr.open
  have hT : 2 ^ n ≤ 1048576 := Nat.le_trans (Nat.pow_le_pow_right (by decide) hn) (by decide)
  have hshl : (2 : Int) ^ n % 4294967296 = ((2 ^ n : Nat) : Int) := Hit.two_u32 n (by omega)
  have hcl := cntTo_le ws
  generalize hTT : 2 ^ n = T at *
  have HC := Lib.hid hC
  have HW := Lib.hid hW
  have HM := Lib.hid hM
  have HOF := Lib.hid hOf
  have HCL := Lib.hid hcl
  clear hC hW hM hOf hr hw hg hTT hcl
  go_enter Tryd.func24, Tryd.ntmps24
  go_wp2_with fail
  refine (HC.out _ (Ba (B0 w) _)).mono ?_
  rintro e w1 ⟨rfl, hb1⟩
  have c0 : w1.cell? ⟨w.heap.size, 0, none⟩ = some (.int .i64 n) := (Bc hb1 (by simp)).trans (by simp [go_sem])
  have c1 : w1.cell? ⟨w.heap.size, 1, none⟩ = some (.slice As (setsOf ws).length cs) := (Bc hb1 (by simp)).trans (by simp [go_sem])
  have s1 : w.heap.size < w1.heap.size := by have := hb1.size; simp at this; omega
  have HB := Lib.hid (Bt (Ba (B0 w) _) hb1)
  clear hb1
  go_wp2_with fail
  refine (HW.out _ HB.out).mono ?_
  rintro e w2 ⟨A, m, c, rfl, hm, hO, hb2⟩
  have c02 := (Bc hb2 s1).trans c0
  have HB2 := Lib.hid (Bt HB.out hb2)
  have HO := Lib.hid (hO.more HB.out.size)
  have HMm := Lib.hid hm
  clear hb2 hO hm c0 c1
  go_wp2_with fail
  rw [hshl]
  clear hshl
  go_loopg [6, 18] T (fun gg s6 s18 wr => ∃ k : Nat, k ≤ T ∧ T - k ≤ gg ∧ s18 = .int .u32 k ∧ s6 = .int .i64 (cntTo ws k : Nat) ∧ Aside (Own0 wr w.heap.size 83 1 A m c (cellsV (vU .u32) ws)) ∧ Aside (Below w.heap.size w wr))
  case atStart => exact ⟨0, by omega, by omega, rfl, rfl, HO.out, HB2.out⟩
  case round =>
    obtain ⟨k, hk, hg, rfl, rfl, HO4, HB4⟩ := hrel
    by_cases hlt : k < T
    · have hki : decide ((k : Int) < T) = true := decide_eq_true (by omega)
      have hneg := missF_neg ws k
      have hcs := cntTo_succ ws k
      have hck := HCL.out k
      have HMz := Lib.hid (HM.out wr A m c k (by omega) HMm.out HO4.out)
      have HNG := Lib.hid hneg
      have HCS := Lib.hid hcs
      generalize cntTo ws k = q at *
      clear hneg hcs
      cases hz : Hit.hit ws k with
      | true =>
        have hd2 : decide (missF ws k < 0) = true := decide_eq_true (HNG.out.2 hz)
        have hS : cntTo ws (k + 1) = q + 1 := by rw [HCS.out, hz]; rfl
        have HS2 := Lib.hid hS
        generalize missF ws k = ms2 at *
        clear hz hS
        go_wp2_with (go_at_call 55; refine HMz.out.mono ?_; rintro e w5 ⟨rfl, hb5⟩; have Q1 := Lib.hid (HO4.out.below hb5); have Q2 := Lib.hid (Bt HB4.out hb5); clear hb5)
        go_roundg (T - (k + 1))
        case measure => omega
        case rel => exact ⟨k + 1, by omega, by omega, by go_num, by rw [HS2.out]; go_num, Q1.out, Q2.out⟩
      | false =>
        have hd2 : decide (missF ws k < 0) = false := decide_eq_false (fun h => by rw [HNG.out.1 h] at hz; cases hz)
        have hS : cntTo ws (k + 1) = q := by rw [HCS.out, hz]; rfl
        have HS2 := Lib.hid hS
        generalize missF ws k = ms2 at *
        clear hz hS
        go_wp2_with (go_at_call 55; refine HMz.out.mono ?_; rintro e w5 ⟨rfl, hb5⟩; have Q1 := Lib.hid (HO4.out.below hb5); have Q2 := Lib.hid (Bt HB4.out hb5); clear hb5)
        go_roundg (T - (k + 1))
        case measure => omega
        case rel => exact ⟨k + 1, by omega, by omega, by go_num, by rw [HS2.out], Q1.out, Q2.out⟩
    · have hki : decide ((k : Int) < T) = false := decide_eq_false (by omega)
      have : k = T := by omega
      subst this
      go_wp2_with fail
      refine (HOF.out _).mono ?_
      rintro e w6 ⟨rfl, hb6⟩
      have Q2 := Lib.hid (Bt HB4.out hb6)
      clear hb6
      go_wp2
      go_ret2
      exact ⟨rfl, Q2.out⟩
end Go.Proofs.YtiochodepgldpaaDoor
