/- Walks over hitting: the first shortest list. -/
import Derived.Test.YtiochodepgldpaaDoorHT
namespace Go.Proofs.YtiochodepgldpaaDoor
open Go Go.RowKit
theorem leastGo_zero (ws : List Nat) (size k : Nat) : Hit.leastGo ws size 0 k = (Hit.srch ws size 0 0 (k : Int)).getD 0 := rfl
theorem leastGo_some {ws : List Nat} {size f k r : Nat} (h : Hit.srch ws size 0 0 (k : Int) = some r) : Hit.leastGo ws size f k = r := by
  cases f with
  | zero => rw [leastGo_zero, h]; rfl
  | succ f => simp only [Hit.leastGo, h]
theorem leastGo_none {ws : List Nat} {size f k : Nat} (h : Hit.srch ws size 0 0 (k : Int) = none) : Hit.leastGo ws size (f + 1) k = Hit.leastGo ws size f (k + 1) := by simp only [Hit.leastGo, h]
theorem srch_full {ws : List Nat} {size : Nat} (hg : Hit.Good ws size) : Hit.srch ws size 0 0 (size : Int) ≠ none := by
  intro h
  have := Hit.srch_spec ws size 0 0 size (by omega)
  rw [Nat.sub_zero, h] at this
  exact this _ (Hit.all_ok hg)
theorem least_lt {ws : List Nat} {size : Nat} (hg : Hit.Good ws size) (hs : size ≤ 32) : Hit.least ws size < 4294967296 := by
  obtain ⟨X, hX⟩ := Hit.least_spec hg
  rw [hX.word]
  exact Hit.word_lt (k := 32) fun x hx => by have := hX.ok.lo x hx; omega
theorem good_lt {ws : List Nat} {size : Nat} (hg : Hit.Good ws size) (hs : size ≤ 32) : ∀ s ∈ ws, s < 4294967296 := fun s h => Nat.lt_of_lt_of_le (hg s h).2 (show 2 ^ size ≤ 2 ^ 32 from Nat.pow_le_pow_right (by decide) hs)
set_option maxHeartbeats 2000000 in
theorem least_any (n : Nat) (hn : n ≤ 20) (vs : Value) (ws : List Nat) (hg : Hit.Good ws n) (hwl : ws.length ≤ 1000) (w : World) (F : Nat → Prop) (hF : ∀ b, F b → b < w.heap.size) (hr : SlII F w vs (setsOf ws)) :
    Calls Tryd.prog 38 #[.agg #[.int .i64 n, vs]] w fun e w' => e = .returned (.int .u32 (Hit.least ws n : Nat)) ∧ Below w.heap.size w w' := by
  have hw := good_lt hg (by omega)
  have hW : ∀ W, Below w.heap.size w W → Calls Tryd.prog 35 #[.agg #[.int .i64 n, vs]] W fun e w' => ∃ A m c, e = .returned (.slice A m c) ∧ m = ws.length ∧ Own0 w' W.heap.size 83 1 A m c (cellsV (vU .u32) ws) ∧ Below W.heap.size W w' :=
    fun W hW => words_any n vs ws hw hwl W F (fun b hb => Nat.lt_of_lt_of_le (hF b hb) hW.size) (hr.keep (Agree.below hW hF))
  have hS : ∀ W A m c k, k ≤ n → m = ws.length → Own0 W w.heap.size 83 1 A m c (cellsV (vU .u32) ws) → Calls Tryd.prog 69 #[.slice A m c, .int .u32 0, .int .i64 0, .int .i64 ((k : Nat) : Int), .int .i64 n] W fun e w' => e = .returned (srchV (Hit.srch ws n 0 0 (k : Int))) ∧ Below W.heap.size W w' :=
    fun W A m c k hk hm hO => by
      have := search_any (.slice A m c) ws hw hwl n hn (fun b => b < W.heap.size) n 0 0 (k : Int) W (by omega) (by omega) (by omega) (by omega) (by omega) (fun _ h => h) (hO.words hm (by omega) fun b _ h => h)
      exact this
  obtain ⟨As, cs, rfl, _⟩ := hr.open
  have HW := Lib.hid hW
  have HS := Lib.hid hS
  have HG := Lib.hid hg
  clear hW hS hr hw hg
  go_enter Tryd.func38, Tryd.ntmps38
  go_wp2_with fail
  refine (HW.out _ (Ba (B0 w) _)).mono ?_
  rintro e w1 ⟨A, m, c, rfl, hm, hO, hb1⟩
  have c0 : w1.cell? ⟨w.heap.size, 0, none⟩ = some (.int .i64 n) := (Bc hb1 (by simp)).trans (by simp [go_sem])
  have s1 : w.heap.size < w1.heap.size := by have := hb1.size; simp at this; omega
  have HB := Lib.hid (Bt (Ba (B0 w) _) hb1)
  have HO := Lib.hid (hO.more (base' := w.heap.size) (by simp))
  have HM := Lib.hid hm
  have C0 := Lib.hid c0
  clear hb1 hO hm c0
  go_wp2_with fail
  go_loopg [4] n (fun gg s4 wr => ∃ k : Nat, k ≤ n ∧ n - k ≤ gg ∧ s4 = .int .i64 k ∧ Aside (Hit.least ws n = Hit.leastGo ws n (n - k) k) ∧ Aside (Below w1.heap.size w1 wr))
  case atStart => exact ⟨0, by omega, by omega, rfl, rfl, B0 w1⟩
  case round =>
    obtain ⟨k, hk, hg, rfl, HL, HBw⟩ := hrel
    have c0 := (Bc HBw.out s1).trans C0.out
    have hR := HS.out wr A m c k hk HM.out (HO.out.below HBw.out)
    cases hs : Hit.srch ws n 0 0 (k : Int) with
    | some r =>
      rw [hs] at hR
      have hf := HL.out.trans (leastGo_some hs)
      have HF := Lib.hid hf
      have HR2 : Hid (Calls Tryd.prog 69 #[.slice A m c, .int .u32 0, .int .i64 0, .int .i64 ((k : Nat) : Int), .int .i64 n] wr fun e w' => e = .returned (.tuple #[.int .u32 (r : Nat), .bool true]) ∧ Below wr.heap.size wr w') := hR
      clear hf hs hR
      go_wp2_with (go_at_call 69; refine HR2.out.mono ?_; rintro e w5 ⟨rfl, hb5⟩; have Q := Lib.hid (Bt HB.out (Bt HBw.out hb5)); clear hb5)
      go_ret
      exact ⟨by rw [HF.out]; rfl, Q.out⟩
    | none =>
      rw [hs] at hR
      have hkn : k < n := by
        rcases Nat.lt_or_ge k n with h | h
        · exact h
        · exfalso
          have e : k = n := by omega
          rw [e] at hs
          exact srch_full HG.out hs
      have hf : Hit.least ws n = Hit.leastGo ws n (n - (k + 1)) (k + 1) := by rw [HL.out, show n - k = (n - (k + 1)) + 1 from by omega, leastGo_none hs]
      have HF := Lib.hid hf
      have HR2 : Hid (Calls Tryd.prog 69 #[.slice A m c, .int .u32 0, .int .i64 0, .int .i64 ((k : Nat) : Int), .int .i64 n] wr fun e w' => e = .returned (.tuple #[.int .u32 0, .bool false]) ∧ Below wr.heap.size wr w') := hR
      clear hf hs hR
      go_wp2_with (go_at_call 69; refine HR2.out.mono ?_; rintro e w5 ⟨rfl, hb5⟩; have Q := Lib.hid (Bt HBw.out hb5); clear hb5)
      go_roundg (n - (k + 1))
      case measure => omega
      case rel => exact ⟨k + 1, by omega, by omega, by go_num, HF.out, Q.out⟩
set_option maxHeartbeats 2000000 in
theorem leastL_any (n : Nat) (hn : n ≤ 20) (vs : Value) (ws : List Nat) (hg : Hit.Good ws n) (hwl : ws.length ≤ 100) (w : World) (F : Nat → Prop) (hF : ∀ b, F b → b < w.heap.size) (hr : SlII F w vs (setsOf ws)) (hT : Tab32 w) :
    Calls Tryd.prog 14 #[.agg #[.int .i64 n, vs]] w fun e w' => ∃ A m c, e = .returned (.tuple #[.slice A m c, .int .i64 0]) ∧ m = (Hit.members (Hit.least ws n)).length ∧ Own0 w' w.heap.size 3 1 A m c (cellsV vN (Hit.members (Hit.least ws n))) ∧ Below w.heap.size w w' := by
  have hC : ∀ W, Below w.heap.size w W → Calls Tryd.prog 29 #[.agg #[.int .i64 n, vs]] W fun e w' => e = .returned (.int .i64 0) ∧ Below W.heap.size W w' :=
    fun W hW => by
      have := check_any n vs (setsOf ws) W F (fun b hb => Nat.lt_of_lt_of_le (hF b hb) hW.size) (hr.keep (Agree.below hW hF))
      rw [show Hit.checkF n (setsOf ws) = 0 from Hit.checkF_of hn hwl hg] at this
      exact this
  have hL : ∀ W, Below w.heap.size w W → Calls Tryd.prog 38 #[.agg #[.int .i64 n, vs]] W fun e w' => e = .returned (.int .u32 (Hit.least ws n : Nat)) ∧ Below W.heap.size W w' :=
    fun W hW => least_any n hn vs ws hg (by omega) W F (fun b hb => Nat.lt_of_lt_of_le (hF b hb) hW.size) (hr.keep (Agree.below hW hF))
  obtain ⟨As, cs, rfl, _⟩ := hr.open
  have hlt := least_lt hg (by omega)
  have HC := Lib.hid hC
  have HL := Lib.hid hL
  have HT := Lib.hid hT
  have HLT := Lib.hid hlt
  generalize hq : Hit.least ws n = q at *
  have HQ := Lib.hid hq
  clear hC hL hr hT hlt hg hq
  go_enter Tryd.func14, Tryd.ntmps14
  go_wp2_with fail
  refine (HC.out _ (Ba (B0 w) _)).mono ?_
  rintro e w1 ⟨rfl, hb1⟩
  have c0 : w1.cell? ⟨w.heap.size, 0, none⟩ = some (.int .i64 n) := (Bc hb1 (by simp)).trans (by simp [go_sem])
  have c1 : w1.cell? ⟨w.heap.size, 1, none⟩ = some (.slice As (setsOf ws).length cs) := (Bc hb1 (by simp)).trans (by simp [go_sem])
  have HB := Lib.hid (Bt (Ba (B0 w) _) hb1)
  clear hb1
  go_wp2_with fail
  refine (HL.out _ HB.out).mono ?_
  rintro e w2 ⟨rfl, hb2⟩
  have HB2 := Lib.hid (Bt HB.out hb2)
  clear hb2 c0 c1
  go_wp2_with fail
  refine (numbers_any q HLT.out w2 (HT.out.below HB2.out)).mono ?_
  rintro e w3 ⟨A, m, c, rfl, hm, hO, hb3⟩
  have Q0 := Lib.hid hm
  have Q1 := Lib.hid (hO.more HB2.out.size)
  have Q2 := Lib.hid (Bt HB2.out hb3)
  clear hm hO hb3
  go_wp2
  go_ret2
  exact ⟨A, m, c, rfl, Q0.out, Q1.out, Q2.out⟩
end Go.Proofs.YtiochodepgldpaaDoor
