/- Walks over checker: Cover.proved, for one node that is a bound. -/
import Derived.Test.YtnpdoejjebgcpaaQh
import Derived.Test.YtnpdoejjebgcpaaQb
namespace Go.Proofs.Ytnpdoejjebgcpaa
open Go Go.RowKit
theorem infoCh : (Try.prog.info? 104).map (fun i => (i.zero, i.size, i.bytes)) = some (some (.agg #[.int .u64 0, .int .u64 0, .int .i64 0]), 3, 24) := by kernel_rfl
theorem make_choices (W : World) : (Instr.makeSlice 120 (.int .i64 1) (.int .i64 1)).run Try.prog W = .ok (.slice (some ⟨W.heap.size, 0, none⟩) 1 1) (W.alloc (.cells #[.int .u64 0, .int .u64 0, .int .i64 0] 104)) := by
  obtain ⟨i, hi, hz, hs, hb⟩ := info_parts infoCh
  have := run_make_rowN (P := Try.prog) 120 104 i _ Try.underlying120 hi hz .i64 .i64 1 1 (by omega) (by rw [hb]; decide) (by decide) W
  have e : madeCells (Value.agg #[.int .u64 0, .int .u64 0, .int .i64 0]).cells (1 * 3) = #[.int .u64 0, .int .u64 0, .int .i64 0] := by kernel_rfl
  rw [hs, e] at this
  exact this
set_option maxRecDepth 100000 in
set_option maxHeartbeats 4000000 in
theorem proved1_any (n : Nat) (least : Int) (vs vc vt : Value) (Al : Option Addr) (ml cl : Nat) (ys no_ bd : Int) (ws : List Nat) (cs : List Int) (hcov : Cov n ws cs) (weights : List Int) (hwl : weights.length ≤ 1000000) (w : World) (F G H : Nat → Prop) (hF : ∀ b, F b → b < w.heap.size) (hG : ∀ b, G b → b < w.heap.size) (hH : ∀ b, H b → b < w.heap.size)
    (hr : SlII F w vs (setsOf ws)) (hc : SlI G w vc cs) (ht : SlT H w vt [⟨-1, ys, no_, bd, weights⟩]) :
    Calls Try.prog 36 #[.agg #[.int .i64 n, vs, vc, .slice Al ml cl, .int .i64 least, vt]] w fun e w' => e = .returned (.bool (Hit.boundF ws cs n least 0 0 0 ⟨-1, ys, no_, bd, weights⟩)) ∧ Below w.heap.size w w' := by
  have hBO := fun At mt ct vw W (hW : Below w.heap.size w W) (hl : SlI H W vw weights) => boundC_any n least vs vc vw Al At ml cl mt ct ws cs hcov 0 0 (by decide) (by decide) 0 (by omega) (by omega) (-1) ys no_ bd weights hwl W F G H (fun b hb => Nat.lt_of_lt_of_le (hF b hb) hW.size) (fun b hb => Nat.lt_of_lt_of_le (hG b hb) hW.size) (fun b hb => Nat.lt_of_lt_of_le (hH b hb) hW.size) (hr.keep (Agree.below hW hF)) (hc.keep (Agree.below hW hG)) hl
  obtain ⟨As, c1, rfl, hx2⟩ := hr.open
  obtain ⟨Ac, c2, rfl, hx3⟩ := hc.open
  obtain ⟨At, ct, rfl, hct, _, hat⟩ := ht.open
  obtain ⟨ad, vw, rfl, hf, hu, hfd⟩ := hat 0 (by simp)
  simp only [List.length_singleton] at hct ⊢
  obtain ⟨Aw, cw, rfl, hx1⟩ := id hu.open
  rw [show ((0 : Nat) : Int) = 0 from rfl] at hBO
  clear hx1 hx2 hx3 hr hc ht hat hcov
  generalize (setsOf ws).length = ls at *
  generalize cs.length = lc at *
  have HBO := Lib.hid hBO
  clear hBO
  generalize Hit.boundF ws cs n least 0 0 0 ⟨-1, ys, no_, bd, weights⟩ = br at *
  have hms := make_choices
  have hmb := make_seen
  go_enter Try.func36, Try.ntmps36
  go_wp2_with fail
  obtain ⟨w5, hw5⟩ : ∃ w5 : World, (((w.alloc (.cells #[.int .i64 n, .slice As ls c1, .slice Ac lc c2, .slice Al ml cl, .int .i64 least, .slice (some ad) 1 ct] 65)).alloc (.cells #[.int .u64 0, .int .u64 0, .int .i64 0] 104)).alloc (.cells #[.bool true] 4)) = w5 := ⟨_, rfl⟩
  have e0 : w5.cell? ⟨w.heap.size, 0, none⟩ = some (.int .i64 n) := by rw [← hw5]; simp [go_sem]
  have e1 : w5.cell? ⟨w.heap.size, 1, none⟩ = some (.slice As ls c1) := by rw [← hw5]; simp [go_sem]
  have e2 : w5.cell? ⟨w.heap.size, 2, none⟩ = some (.slice Ac lc c2) := by rw [← hw5]; simp [go_sem]
  have e3 : w5.cell? ⟨w.heap.size, 3, none⟩ = some (.slice Al ml cl) := by rw [← hw5]; simp [go_sem]
  have e4 : w5.cell? ⟨w.heap.size, 4, none⟩ = some (.int .i64 least) := by rw [← hw5]; simp [go_sem]
  have e5 : w5.cell? ⟨w.heap.size, 5, none⟩ = some (.slice (some ad) 1 ct) := by rw [← hw5]; simp [go_sem]
  have t0 : w5.cell? ⟨w.heap.size + 1, 0, none⟩ = some (.int .u64 0) := by rw [← hw5]; simp [go_sem]
  have t1 : w5.cell? ⟨w.heap.size + 1, 1, none⟩ = some (.int .u64 0) := by rw [← hw5]; simp [go_sem]
  have t2 : w5.cell? ⟨w.heap.size + 1, 2, none⟩ = some (.int .i64 0) := by rw [← hw5]; simp [go_sem]
  have v0 : w5.cell? ⟨w.heap.size + 1 + 1, 0, none⟩ = some (.bool true) := by rw [← hw5]; simp [go_sem]
  have HB5 : Hid (Below w.heap.size w w5) := Lib.hid (by rw [← hw5]; exact Ba (Ba (Ba (B0 w) _) _) _)
  have l5 : w.heap.size + 1 + 1 < w5.heap.size := by rw [← hw5]; simp
  have l6 : w.heap.size + 1 < w5.heap.size := Nat.lt_of_succ_lt l5
  have l7 : w.heap.size < w5.heap.size := Nat.lt_of_succ_lt l6
  rw [hw5]
  clear hw5
  go_loopg [23] 1 (fun gg s33 wr => ∃ k : Nat, k ≤ 1 ∧ 1 - k ≤ gg ∧ s33 = .int .i64 k ∧ ((k = 0 ∧ wr = w5) ∨ (k = 1 ∧ Aside (br = true ∧ Below w.heap.size w wr))))
  case atStart => exact ⟨0, by omega, by omega, rfl, .inl ⟨rfl, rfl⟩⟩
  case round =>
    obtain ⟨k, hk, hg, rfl, hor⟩ := hrel
    rcases hor with ⟨rfl, rfl⟩ | ⟨rfl, hA⟩
    · have fd' := hfd.keep (Agree.below HB5.out hH) (by rw [block_of_add]; exact hf)
      have f0 := fd'.f0 rfl
      have f1 := fd'.f1 rfl
      have f2 := fd'.f2 rfl
      have f3 := fd'.f3 rfl
      have f4 := fd'.f4 rfl
      simp only [Nat.zero_mul, Addr.add, if_true] at f0 f1 f2 f3 f4
      have hB6 := Ba (Ba HB5.out (.cells #[.int .i64 (-1), .int .i64 ys, .int .i64 no_, .int .i64 bd, .slice Aw weights.length cw] 42)) (.cells #[.int .u64 0, .int .u64 0, .int .i64 0] 104)
      have hcall := HBO.out (some ad) 1 ct (.slice Aw weights.length cw) _ hB6 (SlI.keep hu (Agree.below hB6 hH))
      have HCALL := Lib.hid hcall
      have HB6 := Lib.hid hB6
      clear hcall hB6 fd' hfd hu
      cases br with
      | true =>
        go_wp2_with (go_at_call 55; (with_reducible refine (HCALL.out.mono ?_)); rintro e wz ⟨rfl, hbz⟩; have HBZ := Lib.hid (Bt HB6.out hbz); clear hbz)
        go_roundg 0
        case measure => omega
        case rel => exact ⟨1, by omega, by omega, rfl, .inr ⟨rfl, by simp, HBZ.out⟩⟩
      | false =>
        go_wp2_with (go_at_call 55; (with_reducible refine (HCALL.out.mono ?_)); rintro e wz ⟨rfl, hbz⟩; have HBZ := Lib.hid (Bt HB6.out hbz); clear hbz)
        go_ret
        exact ⟨rfl, HBZ.out⟩
    · obtain ⟨hbr, hB⟩ := hA.out
      go_wp2_with fail
      go_ret
      exact ⟨by rw [hbr]; rfl, hB⟩
end Go.Proofs.Ytnpdoejjebgcpaa
