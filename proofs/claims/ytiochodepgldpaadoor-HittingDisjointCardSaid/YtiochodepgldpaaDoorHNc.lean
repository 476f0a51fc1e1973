/- Walks over hitting: Prove. -/
import Derived.Test.YtiochodepgldpaaDoorHNb
namespace Go.Proofs.YtiochodepgldpaaDoor
open Go Go.RowKit
/-- What Prove returns for a right problem. -/
def ProveR (n : Nat) (ws : List Nat) (size : Int) (w : World) (e : Ending) (w' : World) : Prop :=
  Below w.heap.size w w' ∧ (((size < 0 ∨ (n : Int) < size) ∧ e = .returned (.tuple #[.slice none 0 0, .int .i64 3])) ∨ ((0 ≤ size ∧ size ≤ n ∧ (Hit.pop (Hit.least ws n) : Int) < size) ∧ e = .returned (.tuple #[.slice none 0 0, .int .i64 18])) ∨
    ((0 ≤ size ∧ size ≤ n ∧ size ≤ (Hit.pop (Hit.least ws n) : Int)) ∧ ∃ pb vs A c, w.heap.size ≤ pb ∧ e = .returned (.tuple #[.slice A (Hit.nodeF ws size (n + 1) 0 0 0).length c, .int .i64 0]) ∧ PT pb vs size w' (.slice A (Hit.nodeF ws size (n + 1) 0 0 0).length c) (Hit.nodeF ws size (n + 1) 0 0 0)))
theorem free_le (n w : Nat) : Hit.free n w ≤ n := Nat.le_trans (List.length_filter_le _ _) (by simp)
set_option maxRecDepth 100000 in
set_option maxHeartbeats 2000000 in
theorem prove_any (n : Nat) (hn : n ≤ 20) (vs : Value) (ws : List Nat) (hg : Hit.Good ws n) (hwl : ws.length ≤ 100) (size : Int) (w : World) (F : Nat → Prop) (hF : ∀ b, F b → b < w.heap.size) (hr : SlII F w vs (setsOf ws)) (hT : Tab32 w) :
    Calls Tryd.prog 18 #[.agg #[.int .i64 n, vs], .int .i64 size] w (ProveR n ws size w) := by
  have hw := good_lt hg (by omega)
  have hC : ∀ W, Below w.heap.size w W → Calls Tryd.prog 29 #[.agg #[.int .i64 n, vs]] W fun e w' => e = .returned (.int .i64 0) ∧ Below W.heap.size W w' :=
    fun W hW => by
      have := check_any n vs (setsOf ws) W F (fun b hb => Nat.lt_of_lt_of_le (hF b hb) hW.size) (hr.keep (Agree.below hW hF))
      rw [show Hit.checkF n (setsOf ws) = 0 from Hit.checkF_of hn hwl hg] at this
      exact this
  have hL : ∀ W, Below w.heap.size w W → Calls Tryd.prog 38 #[.agg #[.int .i64 n, vs]] W fun e w' => e = .returned (.int .u32 (Hit.least ws n : Nat)) ∧ Below W.heap.size W w' :=
    fun W hW => least_any n hn vs ws hg (by omega) W F (fun b hb => Nat.lt_of_lt_of_le (hF b hb) hW.size) (hr.keep (Agree.below hW hF))
  have hW : ∀ W, Below w.heap.size w W → Calls Tryd.prog 35 #[.agg #[.int .i64 n, vs]] W fun e w' => ∃ A m c, e = .returned (.slice A m c) ∧ m = ws.length ∧ Own0 w' W.heap.size 83 1 A m c (cellsV (vU .u32) ws) ∧ Below W.heap.size W w' :=
    fun W hW => words_any n vs ws hw (by omega) W F (fun b hb => Nat.lt_of_lt_of_le (hF b hb) hW.size) (hr.keep (Agree.below hW hF))
  obtain ⟨As, cs, rfl, _⟩ := hr.open
  have hlt := least_lt hg (by omega)
  have hlt32 : Hit.least ws n < 4294967296 := hlt
  have htb : 0 < w.heap.size := World.block_lt_of_cell? _ _ (hT 0 (by decide))
  have hO1 := fun W => ones_any (Hit.least ws n) hlt32 W
  have lp := Hit.pop_le (Hit.least ws n)
  have HC := Lib.hid hC
  have HL := Lib.hid hL
  have HW := Lib.hid hW
  have HT := Lib.hid hT
  have HO1 := Lib.hid hO1
  have HG := Lib.hid hg
  clear hC hL hW hr hT hlt hlt32 hO1 hg hw
  unfold ProveR
  generalize Hit.least ws n = q at *
  generalize hpq : Hit.pop q = pq at *
  clear hpq
  go_enter Tryd.func18, Tryd.ntmps18
  go_wp2_with fail
  refine (HC.out _ (Ba (B0 w) _)).mono ?_
  rintro e w1 ⟨rfl, hb1⟩
  have c0 : w1.cell? ⟨w.heap.size, 0, none⟩ = some (.int .i64 n) := (Bc hb1 (by simp)).trans (by simp [go_sem])
  have c1 : w1.cell? ⟨w.heap.size, 1, none⟩ = some (.slice As (setsOf ws).length cs) := (Bc hb1 (by simp)).trans (by simp [go_sem])
  have s1 : w.heap.size < w1.heap.size := by have := hb1.size; simp at this; omega
  have HB := Lib.hid (Bt (Ba (B0 w) _) hb1)
  clear hb1
  by_cases hrg : size < 0 ∨ (n : Int) < size
  · have hq : decide (size < 0) = true ∨ (decide (size < 0) = false ∧ decide ((n : Int) < size) = true) := by
      simp only [decide_eq_true_eq, decide_eq_false_iff_not]; omega
    have HRG := Lib.hid hrg
    clear hrg
    rcases hq with hq | ⟨hq1, hq2⟩
    all_goals
      go_wp2_with fail
      go_ret2
      exact ⟨HB.out, .inl ⟨HRG.out, rfl⟩⟩
  · have hq1 : decide (size < 0) = false := decide_eq_false (by omega)
    have hq2 : decide ((n : Int) < size) = false := decide_eq_false (by omega)
    have hrg2 : 0 ≤ size ∧ size ≤ n := by omega
    clear hrg
    go_upto_region 6 with fail
    by_cases hlt : (pq : Int) < size
    · have hd : decide ((pq : Int) < size) = true := decide_eq_true hlt
      have HLT := Lib.hid hlt
      clear hlt
      go_wp2_with (first
        | (go_at_call 38; refine (HL.out _ HB.out).mono ?_; rintro e w2 ⟨rfl, hb2⟩; have HB2 := Lib.hid (Bt HB.out hb2); clear hb2)
        | (go_at_call 44; refine (HO1.out _).mono ?_; rintro e w' ⟨rfl, nq, rfl⟩; have HB3 := Lib.hid (below_drewN HB2.out nq)))
      go_ret2
      exact ⟨HB3.out, .inr (.inl ⟨⟨hrg2.1, hrg2.2, HLT.out⟩, rfl⟩)⟩
    · have hd : decide ((pq : Int) < size) = false := decide_eq_false hlt
      have HLT := Lib.hid hlt
      clear hlt
      go_upto_region 9 with (first
        | (go_at_call 38; refine (HL.out _ HB.out).mono ?_; rintro e w2 ⟨rfl, hb2⟩; have c02 := (Bc hb2 s1).trans c0; have c12 := (Bc hb2 s1).trans c1; have HB2 := Lib.hid (Bt HB.out hb2); clear hb2 c0 c1)
        | (go_at_call 44; refine (HO1.out _).mono ?_; rintro e w' ⟨rfl, nq, rfl⟩; have HB3 := Lib.hid (below_drewN HB2.out nq))
        | (go_at_call 35; refine (HW.out _ HB3.out).mono ?_; rintro e w4 ⟨A4, m4, c4, rfl, hm4, hO4, hb4⟩; have HB4 := Lib.hid (Bt HB3.out hb4); have HO4 := Lib.hid hO4; have HM4 := Lib.hid hm4; clear hb4 hO4 hm4))
      have hbk := Blk.new w4 99 #[.slice A4 m4 c4, .int .i64 size, .slice none 0 0]
      have hb5 := Ba (B0 w4) (.cells #[.slice A4 m4 c4, .int .i64 size, .slice none 0 0] 99)
      have hO5 := HO4.out.below hb5
      have hP5 : PT w4.heap.size (.slice A4 m4 c4) size (w4.alloc (.cells #[.slice A4 m4 c4, .int .i64 size, .slice none 0 0] 99)) (.slice none 0 0) [] := ⟨hbk, OwnL.nil⟩
      have hs4 := HB4.out.size
      have hcall : Calls Tryd.prog 45 #[.pointer (some ⟨w4.heap.size, 0, none⟩), .int .u32 0, .int .u32 0] (w4.alloc (.cells #[.slice A4 m4 c4, .int .i64 size, .slice none 0 0] 99)) (NodeP w4.heap.size (.slice A4 m4 c4) ws size (w4.alloc (.cells #[.slice A4 m4 c4, .int .i64 size, .slice none 0 0] 99)) [] (n + 1) 0 0) := node_any w4.heap.size (by omega) (.slice A4 m4 c4) ws n hn HG.out (by omega) size (by omega) (fun b => b < w4.heap.size) (fun _ h => h) (n + 1) 0 0 _ _ [] (by rw [Nat.zero_or]; have := free_le n 0; omega) (Nat.two_pow_pos n) (Nat.two_pow_pos n)
        (by have : 2 ^ (n + 1) ≤ 2 ^ 21 := Nat.pow_le_pow_right (by decide) (by omega)
            simp; omega) ((HO4.out.words HM4.out (by omega) fun b _ h => h).keep (Agree.below hb5 fun _ h => h)) ((HT.out.below HB4.out).below hb5) hP5
      have HCL := Lib.hid hcall
      clear hbk hO5 hP5 hcall
      go_wp2_with (go_at_call 45; (with_reducible refine (HCL.out.mono ?_)); rintro e w6 ⟨he6, ⟨v6, hP6⟩, hB6⟩; have he7 : e = .returned (.int .i64 0) := he6; subst he7; clear he6; have P6 := hP6; rw [List.nil_append] at P6; obtain ⟨A6, c6, rfl⟩ := P6.form; have k62 := P6.blk.cell 2; have HP6 := Lib.hid P6; have HB6 := Lib.hid hB6; clear hP6 hB6 P6)
      go_ret2
      refine ⟨HB4.out.trans (((B0 w4).alloc (Nat.le_refl _) _).trans HB6.out |>.mono hs4), .inr (.inr ⟨⟨hrg2.1, hrg2.2, by have := HLT.out; omega⟩, w4.heap.size, _, A6, c6, hs4, rfl, HP6.out⟩)⟩
end Go.Proofs.YtiochodepgldpaaDoor
