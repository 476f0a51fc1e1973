/- Walks over covering: proves, for one node that is a bound. Walks over covering: Verify, for a problem or a list that is not right. Walks over covering: Verify, for a right problem and list, and a proof of one node. -/
import Derived.Test.YtnpdoejjebgcpaaPx
import Derived.Test.YtnpdoejjebgcpaaPy
namespace Go.Proofs.Ytnpdoejjebgcpaa
open Go Go.RowKit
theorem unionW_zero (ws : List Nat) : Hit.unionW ws 0 = 0 := Nat.eq_of_testBit_eq fun b => by
  rw [Hit.unionW_test, Nat.zero_testBit, Bool.eq_false_iff]
  intro h
  obtain ⟨k, _, q⟩ := List.any_eq_true.1 h
  simp at q
theorem infoSt : (Try.prog.info? 130).map (fun i => (i.zero, i.size, i.bytes)) = some (some (.agg #[.int .u64 0, .int .u64 0, .int .u64 0, .int .i64 0]), 4, 32) := by kernel_rfl
theorem infoBo : (Try.prog.info? 4).map (fun i => (i.zero, i.size, i.bytes)) = some (some (.bool false), 1, 1) := by kernel_rfl
theorem make_states (W : World) : (Instr.makeSlice 128 (.int .i64 1) (.int .i64 1)).run Try.prog W = .ok (.slice (some ⟨W.heap.size, 0, none⟩) 1 1) (W.alloc (.cells #[.int .u64 0, .int .u64 0, .int .u64 0, .int .i64 0] 130)) := by
  obtain ⟨i, hi, hz, hs, hb⟩ := info_parts infoSt
  have := run_make_rowN (P := Try.prog) 128 130 i _ Try.underlying128 hi hz .i64 .i64 1 1 (by omega) (by rw [hb]; decide) (by decide) W
  have e : madeCells (Value.agg #[.int .u64 0, .int .u64 0, .int .u64 0, .int .i64 0]).cells (1 * 4) = #[.int .u64 0, .int .u64 0, .int .u64 0, .int .i64 0] := by kernel_rfl
  rw [hs, e] at this
  exact this
theorem make_seen (W : World) : (Instr.makeSlice 89 (.int .i64 1) (.int .i64 1)).run Try.prog W = .ok (.slice (some ⟨W.heap.size, 0, none⟩) 1 1) (W.alloc (.cells #[.bool false] 4)) := by
  obtain ⟨i, hi, hz, hs, hb⟩ := info_parts infoBo
  have := run_make_rowN (P := Try.prog) 89 4 i _ Try.underlying89 hi hz .i64 .i64 1 1 (by omega) (by rw [hb]; decide) (by decide) W
  have e : madeCells (Value.bool false).cells (1 * 1) = #[.bool false] := by kernel_rfl
  rw [hs, e] at this
  exact this
set_option maxRecDepth 100000 in
set_option maxHeartbeats 4000000 in
theorem proves1_any (n : Nat) (vs vt : Value) (least ys no_ bd : Int) (ws : List Nat) (cs : List Int) (hcov : Cov n ws cs) (weights : List Int) (hwl : weights.length ≤ 1000000) (w : World) (F G : Nat → Prop) (hF : ∀ b, F b → b < w.heap.size) (hG : ∀ b, G b → b < w.heap.size)
    (hr : SlS F w vs (covL ws cs)) (ht : SlT G w vt [⟨-1, ys, no_, bd, weights⟩]) :
    Calls Try.prog 40 #[.agg #[.int .i64 n, vs], vt, .int .i64 least] w fun e w' => e = .returned (.bool (Hit.boundF ws cs n least 0 0 0 ⟨-1, ys, no_, bd, weights⟩)) ∧ Below w.heap.size w w' := by
  have HWD := Lib.hid fun W (hW : Below w.heap.size w W) => wordsV_any n n vs ws cs hcov W F (fun b hb => Nat.lt_of_lt_of_le (hF b hb) hW.size) (hr.keep (Agree.below hW hF))
  have HBO := Lib.hid fun sb vw W (hW : Below w.heap.size w W) (hS : SrchAt sb n vs least W) (hl : SlI G W vw weights) => boundsV_any sb n vs vw least ws cs hcov 0 0 (by decide) (by decide) 0 (by omega) (by omega) (-1) ys no_ bd weights hwl W F G (fun b hb => Nat.lt_of_lt_of_le (hF b hb) hW.size) (fun b hb => Nat.lt_of_lt_of_le (hG b hb) hW.size) hS (hr.keep (Agree.below hW hF)) hl
  obtain ⟨As, c1, rfl, _⟩ := hr.openC hcov.eq
  obtain ⟨At, ct, rfl, hct, _, hat⟩ := ht.open
  obtain ⟨ad, vw, rfl, hf, hu, hfd⟩ := hat 0 (by simp)
  simp only [List.length_singleton] at hct ⊢
  rw [unionW_zero] at HBO
  obtain ⟨Aw, cw, rfl, hx1⟩ := id hu.open
  clear hx1 hr ht hat
  generalize Hit.boundF ws cs n least 0 0 0 ⟨-1, ys, no_, bd, weights⟩ = br at *
  have hms := make_states
  have hmb := make_seen
  go_enter Try.func40, Try.ntmps40
  go_upto_region 3 with fail
  have hB1 := Ba (B0 w) (.cells #[.int .i64 n, .slice As ws.length c1] 36)
  have k0 : (w.alloc (.cells #[.int .i64 n, .slice As ws.length c1] 36)).cell? ⟨w.heap.size, 0, none⟩ = some (.int .i64 n) := by simp [go_sem]
  have k1 : (w.alloc (.cells #[.int .i64 n, .slice As ws.length c1] 36)).cell? ⟨w.heap.size, 1, none⟩ = some (.slice As ws.length c1) := by simp [go_sem]
  have l1 : w.heap.size < (w.alloc (.cells #[.int .i64 n, .slice As ws.length c1] 36)).heap.size := by simp
  generalize (w.alloc (.cells #[.int .i64 n, .slice As ws.length c1] 36)) = w1 at *
  have hcall := HWD.out w1.drew hB1.drew
  have HCALL := Lib.hid hcall
  have HB1 := Lib.hid hB1
  clear hcall hB1
  go_region_held3 (fun w' => w'.cell? ⟨w.heap.size, 0, none⟩ = some (.int .i64 n) ∧ w'.cell? ⟨w.heap.size, 1, none⟩ = some (.slice As ws.length c1)) (first | exact ⟨k0, k1⟩ | exact ⟨j0, j1⟩ | exact ⟨(Bc (Ba (B0 wy) _) ly).trans j0, (Bc (Ba (B0 wy) _) ly).trans j1⟩)
    ((go_at_call 59; (with_reducible refine (HCALL.out.mono ?_)); rintro e wy ⟨A3, m3, c3, rfl, hm3, _, hby⟩; clear hm3; have j0 := (Bc hby (show w.heap.size < w1.drew.heap.size from l1)).trans k0; have j1 := (Bc hby (show w.heap.size < w1.drew.heap.size from l1)).trans k1; have ly : w.heap.size < wy.heap.size := Nat.lt_of_lt_of_le l1 hby.size; have HBY := Lib.hid (Bt HB1.out.drew hby); clear hby))
  go_wp2_with fail
  obtain ⟨w5, hw5⟩ : ∃ w5 : World, (((wy.alloc (.cells #[.int .i64 n, .slice As ws.length c1, .slice A3 m3 c3, .int .i64 least, .slice none 0 0, .bool false, .int .i64 0, .slice none 0 0] 127)).alloc (.cells #[.int .u64 0, .int .u64 0, .int .u64 0, .int .i64 0] 130)).alloc (.cells #[.bool true] 4)) = w5 := ⟨_, rfl⟩
  have hS5 : SrchAt wy.heap.size n (.slice As ws.length c1) least w5 := by
    rw [← hw5]
    exact ⟨by simp; omega, by simp [go_sem], by simp [go_sem], by simp [go_sem]⟩
  have t0 : w5.cell? ⟨wy.heap.size + 1, 0, none⟩ = some (.int .u64 0) := by rw [← hw5]; simp [go_sem]
  have t1 : w5.cell? ⟨wy.heap.size + 1, 1, none⟩ = some (.int .u64 0) := by rw [← hw5]; simp [go_sem]
  have t2 : w5.cell? ⟨wy.heap.size + 1, 2, none⟩ = some (.int .u64 0) := by rw [← hw5]; simp [go_sem]
  have t3 : w5.cell? ⟨wy.heap.size + 1, 3, none⟩ = some (.int .i64 0) := by rw [← hw5]; simp [go_sem]
  have v0 : w5.cell? ⟨wy.heap.size + 1 + 1, 0, none⟩ = some (.bool true) := by rw [← hw5]; simp [go_sem]
  have HB5 : Hid (Below w.heap.size w w5) := Lib.hid (by rw [← hw5]; exact Ba (Ba (Ba HBY.out _) _) _)
  have l5 : wy.heap.size + 1 + 1 < w5.heap.size := by rw [← hw5]; simp
  rw [hw5]
  clear hw5 j0 j1 k0 k1
  go_loopg [33] 1 (fun gg s33 wr => ∃ k : Nat, k ≤ 1 ∧ 1 - k ≤ gg ∧ s33 = .int .i64 k ∧ ((k = 0 ∧ wr = w5) ∨ (k = 1 ∧ Aside (br = true ∧ Below w.heap.size w wr))))
  case atStart => exact ⟨0, by omega, by omega, rfl, .inl ⟨rfl, rfl⟩⟩
  case round =>
    obtain ⟨k, hk, hg, rfl, hor⟩ := hrel
    rcases hor with ⟨rfl, rfl⟩ | ⟨rfl, hA⟩
    · have fd' := hfd.keep (Agree.below HB5.out hG) (by rw [block_of_add]; exact hf)
      have f0 := fd'.f0 rfl
      have f1 := fd'.f1 rfl
      have f2 := fd'.f2 rfl
      have f3 := fd'.f3 rfl
      have f4 := fd'.f4 rfl
      simp only [Nat.zero_mul, Addr.add, if_true] at f0 f1 f2 f3 f4
      go_upto_region 24 with fail
      have hbw := Ba (B0 wr) (.cells #[.int .i64 (-1), .int .i64 ys, .int .i64 no_, .int .i64 bd, .slice Aw weights.length cw] 42)
      have n0 : (wr.alloc (.cells #[.int .i64 (-1), .int .i64 ys, .int .i64 no_, .int .i64 bd, .slice Aw weights.length cw] 42)).cell? ⟨wr.heap.size, 0, none⟩ = some (.int .i64 (-1)) := by simp [go_sem]
      have n1 : (wr.alloc (.cells #[.int .i64 (-1), .int .i64 ys, .int .i64 no_, .int .i64 bd, .slice Aw weights.length cw] 42)).cell? ⟨wr.heap.size, 1, none⟩ = some (.int .i64 ys) := by simp [go_sem]
      have n2 : (wr.alloc (.cells #[.int .i64 (-1), .int .i64 ys, .int .i64 no_, .int .i64 bd, .slice Aw weights.length cw] 42)).cell? ⟨wr.heap.size, 2, none⟩ = some (.int .i64 no_) := by simp [go_sem]
      have n3 : (wr.alloc (.cells #[.int .i64 (-1), .int .i64 ys, .int .i64 no_, .int .i64 bd, .slice Aw weights.length cw] 42)).cell? ⟨wr.heap.size, 3, none⟩ = some (.int .i64 bd) := by simp [go_sem]
      have n4 : (wr.alloc (.cells #[.int .i64 (-1), .int .i64 ys, .int .i64 no_, .int .i64 bd, .slice Aw weights.length cw] 42)).cell? ⟨wr.heap.size, 4, none⟩ = some (.slice Aw weights.length cw) := by simp [go_sem]
      have z2 : wr.heap.size < (wr.alloc (.cells #[.int .i64 (-1), .int .i64 ys, .int .i64 no_, .int .i64 bd, .slice Aw weights.length cw] 42)).drew.heap.size := by show _ < (wr.alloc _).heap.size; simp
      generalize (wr.alloc (.cells #[.int .i64 (-1), .int .i64 ys, .int .i64 no_, .int .i64 bd, .slice Aw weights.length cw] 42)) = w6 at *
      have z1 : wy.heap.size + 1 < w6.drew.heap.size := Nat.lt_trans (Nat.lt_of_succ_lt l5) z2
      have m0 := (Bc hbw (Nat.lt_of_succ_lt l5)).trans t0
      have m1 := (Bc hbw (Nat.lt_of_succ_lt l5)).trans t1
      have m2 := (Bc hbw (Nat.lt_of_succ_lt l5)).trans t2
      have m3 := (Bc hbw (Nat.lt_of_succ_lt l5)).trans t3
      have hB6 := Bt HB5.out hbw
      have hcall := HBO.out wy.heap.size (.slice Aw weights.length cw) w6.drew hB6.drew (hS5.below hbw.drew) (SlI.keep hu (Agree.below hB6.drew hG))
      rw [show ((0 : Nat) : Int) = 0 from rfl] at hcall
      have HCALL3 := Lib.hid hcall
      have HB6 := Lib.hid hB6
      clear hcall hB6 hbw f0 f1 f2 f3 f4 fd' hfd hu t0 t1 t2 t3
      go_region_held3 (fun w' => (w'.cell? ⟨wy.heap.size + 1, 0, none⟩ = some (.int .u64 0) ∧ w'.cell? ⟨wy.heap.size + 1, 1, none⟩ = some (.int .u64 0) ∧ w'.cell? ⟨wy.heap.size + 1, 2, none⟩ = some (.int .u64 0) ∧ w'.cell? ⟨wy.heap.size + 1, 3, none⟩ = some (.int .i64 0)) ∧ w'.cell? ⟨wr.heap.size, 0, none⟩ = some (.int .i64 (-1)) ∧ w'.cell? ⟨wr.heap.size, 1, none⟩ = some (.int .i64 ys) ∧ w'.cell? ⟨wr.heap.size, 2, none⟩ = some (.int .i64 no_) ∧ w'.cell? ⟨wr.heap.size, 3, none⟩ = some (.int .i64 bd) ∧ w'.cell? ⟨wr.heap.size, 4, none⟩ = some (.slice Aw weights.length cw)) (first | exact ⟨⟨m0, m1, m2, m3⟩, n0, n1, n2, n3, n4⟩ | exact ⟨⟨(Bc HBZ0.out z1).trans m0, (Bc HBZ0.out z1).trans m1, (Bc HBZ0.out z1).trans m2, (Bc HBZ0.out z1).trans m3⟩, (Bc HBZ0.out z2).trans n0, (Bc HBZ0.out z2).trans n1, (Bc HBZ0.out z2).trans n2, (Bc HBZ0.out z2).trans n3, (Bc HBZ0.out z2).trans n4⟩)
        ((go_at_call 62; (with_reducible refine (HCALL3.out.mono ?_)); rintro e wz ⟨rfl, hbz⟩; have HBZ0 := Lib.hid hbz; have HBZ := Lib.hid (Bt HB6.out.drew hbz); clear hbz))
      cases br with
      | true =>
        go_wp2_with fail
        go_roundg 0
        case measure => omega
        case rel => exact ⟨1, by omega, by omega, rfl, .inr ⟨rfl, by simp, HBZ.out⟩⟩
      | false =>
        go_wp2_with fail
        go_ret
        exact ⟨rfl, HBZ.out⟩
    · obtain ⟨hbr, hB⟩ := hA.out
      go_wp2_with fail
      go_ret
      exact ⟨by rw [hbr]; rfl, hB⟩
end Go.Proofs.Ytnpdoejjebgcpaa
namespace Go.Proofs.Ytnpdoejjebgcpaa
open Go Go.RowKit
set_option maxHeartbeats 2000000 in
theorem verifyV_err (n cost : Int) (vs vl : Value) (Ap : Option Addr) (mp cp : Nat) (ls : List (List Int × Int)) (l : List Int) (w : World) (F G : Nat → Prop) (hF : ∀ b, F b → b < w.heap.size) (hG : ∀ b, G b → b < w.heap.size) (hr : SlS F w vs ls) (hl : SlI G w vl l) (he : bothV n ls l ≠ 0) :
    Calls Try.prog 18 #[.agg #[.int .i64 n, vs], .agg #[vl, .int .i64 cost, .slice Ap mp cp]] w fun e w' => e = .returned (.int .i64 (bothV n ls l)) ∧ Below w.heap.size w w' := by
  have HC := Lib.hid fun W (hW : Below w.heap.size w W) => bothV_any n vs vl ls l W F G (fun b hb => Nat.lt_of_lt_of_le (hF b hb) hW.size) (fun b hb => Nat.lt_of_lt_of_le (hG b hb) hW.size) (hr.keep (Agree.below hW hF)) (SlI.keep hl (Agree.below hW hG))
  obtain ⟨As, cs, rfl, _⟩ := hr.open
  obtain ⟨Al, cl, rfl, _⟩ := hl.open
  have he' : (bothV n ls l != 0) = true := by simpa using he
  generalize bothV n ls l = er at *
  clear hr hl he
  go_enter Try.func18, Try.ntmps18
  go_wp2_with (go_at_call 37; (with_reducible refine ((HC.out _ (Ba (Ba (B0 w) _) _)).mono ?_)); rintro e w1 ⟨rfl, hb1⟩; have HB1 := Lib.hid (Bt (Ba (Ba (B0 w) _) _) hb1); clear hb1)
  go_ret
  exact ⟨rfl, HB1.out⟩
end Go.Proofs.Ytnpdoejjebgcpaa
namespace Go.Proofs.Ytnpdoejjebgcpaa
open Go Go.RowKit
/-- What Verify answers for a right problem. -/
def verV (ws : List Nat) (cs : List Int) (n : Nat) (ns : List Nat) (cost : Int) (br : Bool) : Int := if unionL ws ns ≠ Hit.bit n - 1 then 7 else if costL cs ns ≠ cost then 20 else if br = true then 0 else 20
set_option maxHeartbeats 4000000 in
theorem verifyV_any (n : Nat) (cost ys no_ bd : Int) (vs vl vt : Value) (ws : List Nat) (cs : List Int) (hcov : Cov n ws cs) (ns : List Nat) (hb : bothV n (covL ws cs) (Hit.ints ns) = 0) (hns : ∀ x ∈ ns, x < ws.length) (hnl : ns.length ≤ 1000) (weights : List Int) (hwl : weights.length ≤ 1000000) (w : World) (F G H : Nat → Prop)
    (hF : ∀ b, F b → b < w.heap.size) (hG : ∀ b, G b → b < w.heap.size) (hH : ∀ b, H b → b < w.heap.size) (hr : SlS F w vs (covL ws cs)) (hl : SlI G w vl (Hit.ints ns)) (ht : SlT H w vt [⟨-1, ys, no_, bd, weights⟩]) :
    Calls Try.prog 18 #[.agg #[.int .i64 n, vs], .agg #[vl, .int .i64 cost, vt]] w fun e w' => e = .returned (.int .i64 (verV ws cs n ns cost (Hit.boundF ws cs n cost 0 0 0 ⟨-1, ys, no_, bd, weights⟩))) ∧ Below w.heap.size w w' := by
  have HC := Lib.hid fun W (hW : Below w.heap.size w W) => bothV_any n vs vl (covL ws cs) (Hit.ints ns) W F G (fun b hb => Nat.lt_of_lt_of_le (hF b hb) hW.size) (fun b hb => Nat.lt_of_lt_of_le (hG b hb) hW.size) (hr.keep (Agree.below hW hF)) (SlI.keep hl (Agree.below hW hG))
  have HV := Lib.hid fun W (hW : Below w.heap.size w W) => coveredV_any n n vs vl ws cs hcov ns hns hnl W F G (fun b hb => Nat.lt_of_lt_of_le (hF b hb) hW.size) (fun b hb => Nat.lt_of_lt_of_le (hG b hb) hW.size) (hr.keep (Agree.below hW hF)) (SlI.keep hl (Agree.below hW hG))
  have HP := Lib.hid fun W (hW : Below w.heap.size w W) => proves1_any n vs vt cost ys no_ bd ws cs hcov weights hwl W F H (fun b hb => Nat.lt_of_lt_of_le (hF b hb) hW.size) (fun b hb => Nat.lt_of_lt_of_le (hH b hb) hW.size) (hr.keep (Agree.below hW hF)) (ht.keep (Agree.below hW hH))
  have HA := Lib.hid fun W => allV_any n hcov.le vs (by obtain ⟨A, c, h, _⟩ := hr.open; exact ⟨A, _, c, h⟩) W
  obtain ⟨As, c1, rfl, _⟩ := hr.openC hcov.eq
  obtain ⟨Al, cl, rfl, _⟩ := hl.open
  obtain ⟨At, ct, rfl, _⟩ := ht.open
  rw [hb] at HC
  simp only [List.length_singleton] at HP ⊢
  clear hr hl ht hb
  generalize Hit.boundF ws cs n cost 0 0 0 ⟨-1, ys, no_, bd, weights⟩ = br at *
  have hv : ∀ u c a : _, unionL ws ns = u → costL cs ns = c → Hit.bit n - 1 = a → verV ws cs n ns cost br = if u ≠ a then 7 else if c ≠ cost then 20 else if br = true then 0 else 20 := fun u c a h1 h2 h3 => by unfold verV; rw [h1, h2, h3]
  generalize hu : unionL ws ns = u at *
  generalize hc : costL cs ns = c at *
  generalize ha : Hit.bit n - 1 = a at *
  have hz := hv u c a rfl rfl rfl
  clear hv
  by_cases hua : u = a
  · rw [if_neg (by simpa using hua)] at hz
    have d1 : ((u : Int) != (a : Int)) = false := by simp [hua]
    by_cases hcc : c = cost
    · rw [if_neg (by simpa using hcc)] at hz
      have d2 : (c != cost) = false := by simp [hcc]
      have HZ := Lib.hid hz
      clear hz hua hcc hu hc ha hcov
      go_enter Try.func18, Try.ntmps18
      cases br
      all_goals
        go_wp2_with (first
          | (go_at_call 37; (with_reducible refine ((HC.out _ (Ba (Ba (B0 w) _) _)).mono ?_)); rintro e w1 ⟨rfl, hb1⟩; have HB1 := Lib.hid (Bt (Ba (Ba (B0 w) _) _) hb1); have p0 : w1.cell? ⟨w.heap.size, 0, none⟩ = some (.int .i64 n) := (Bc hb1 (by simp; omega)).trans (by simp [go_sem]); have p1 : w1.cell? ⟨w.heap.size, 1, none⟩ = some (.slice As ws.length c1) := (Bc hb1 (by simp; omega)).trans (by simp [go_sem]); have q0 : w1.cell? ⟨w.heap.size + 1, 0, none⟩ = some (.slice Al (Hit.ints ns).length cl) := (Bc hb1 (by simp)).trans (by simp [go_sem]); have q1 : w1.cell? ⟨w.heap.size + 1, 1, none⟩ = some (.int .i64 cost) := (Bc hb1 (by simp)).trans (by simp [go_sem]); have q2 : w1.cell? ⟨w.heap.size + 1, 2, none⟩ = some (.slice At 1 ct) := (Bc hb1 (by simp)).trans (by simp [go_sem]); have l1 : w.heap.size + 1 < w1.heap.size := (by have := hb1.size; simp at this; omega); clear hb1)
          | (go_at_call 38; (with_reducible refine ((HV.out _ HB1.out).mono ?_)); rintro e w2 ⟨rfl, hb2⟩; have HB2 := Lib.hid (Bt HB1.out hb2); have p20 := (Bc hb2 (Nat.lt_of_succ_lt l1)).trans p0; have p21 := (Bc hb2 (Nat.lt_of_succ_lt l1)).trans p1; have q21 := (Bc hb2 l1).trans q1; have q22 := (Bc hb2 l1).trans q2; have l2 := Nat.lt_of_lt_of_le l1 hb2.size; clear hb2 p0 p1 q0 q1 q2)
          | (go_at_call 39; (with_reducible refine ((HA.out _).mono ?_)); rintro e w3 ⟨rfl, hb3⟩; have HB3 := Lib.hid (Bt HB2.out hb3); have p30 := (Bc hb3 (Nat.lt_of_succ_lt l2)).trans p20; have p31 := (Bc hb3 (Nat.lt_of_succ_lt l2)).trans p21; have q31 := (Bc hb3 l2).trans q21; have q32 := (Bc hb3 l2).trans q22; clear hb3 p20 p21 q21 q22)
          | (go_at_call 40; (with_reducible refine ((HP.out _ HB3.out).mono ?_)); rintro e w4 ⟨rfl, hb4⟩; have HB4 := Lib.hid (Bt HB3.out hb4); clear hb4))
        go_ret
        exact ⟨by rw [HZ.out]; rfl, HB4.out⟩
    · rw [if_pos hcc] at hz
      have d2 : (c != cost) = true := by simpa using hcc
      have HZ := Lib.hid hz
      clear hz hua hcc hu hc ha hcov
      go_enter Try.func18, Try.ntmps18
      go_wp2_with (first
        | (go_at_call 37; (with_reducible refine ((HC.out _ (Ba (Ba (B0 w) _) _)).mono ?_)); rintro e w1 ⟨rfl, hb1⟩; have HB1 := Lib.hid (Bt (Ba (Ba (B0 w) _) _) hb1); have p0 : w1.cell? ⟨w.heap.size, 0, none⟩ = some (.int .i64 n) := (Bc hb1 (by simp; omega)).trans (by simp [go_sem]); have p1 : w1.cell? ⟨w.heap.size, 1, none⟩ = some (.slice As ws.length c1) := (Bc hb1 (by simp; omega)).trans (by simp [go_sem]); have q0 : w1.cell? ⟨w.heap.size + 1, 0, none⟩ = some (.slice Al (Hit.ints ns).length cl) := (Bc hb1 (by simp)).trans (by simp [go_sem]); have q1 : w1.cell? ⟨w.heap.size + 1, 1, none⟩ = some (.int .i64 cost) := (Bc hb1 (by simp)).trans (by simp [go_sem]); have q2 : w1.cell? ⟨w.heap.size + 1, 2, none⟩ = some (.slice At 1 ct) := (Bc hb1 (by simp)).trans (by simp [go_sem]); have l1 : w.heap.size + 1 < w1.heap.size := (by have := hb1.size; simp at this; omega); clear hb1)
        | (go_at_call 38; (with_reducible refine ((HV.out _ HB1.out).mono ?_)); rintro e w2 ⟨rfl, hb2⟩; have HB2 := Lib.hid (Bt HB1.out hb2); have p20 := (Bc hb2 (Nat.lt_of_succ_lt l1)).trans p0; have p21 := (Bc hb2 (Nat.lt_of_succ_lt l1)).trans p1; have q21 := (Bc hb2 l1).trans q1; have q22 := (Bc hb2 l1).trans q2; have l2 := Nat.lt_of_lt_of_le l1 hb2.size; clear hb2 p0 p1 q0 q1 q2)
        | (go_at_call 39; (with_reducible refine ((HA.out _).mono ?_)); rintro e w3 ⟨rfl, hb3⟩; have HB3 := Lib.hid (Bt HB2.out hb3); have p30 := (Bc hb3 (Nat.lt_of_succ_lt l2)).trans p20; have p31 := (Bc hb3 (Nat.lt_of_succ_lt l2)).trans p21; have q31 := (Bc hb3 l2).trans q21; have q32 := (Bc hb3 l2).trans q22; clear hb3 p20 p21 q21 q22)
        | (go_at_call 40; (with_reducible refine ((HP.out _ HB3.out).mono ?_)); rintro e w4 ⟨rfl, hb4⟩; have HB4 := Lib.hid (Bt HB3.out hb4); clear hb4))
      go_ret
      exact ⟨by rw [HZ.out]; rfl, HB3.out⟩
  · rw [if_pos hua] at hz
    have d1 : ((u : Int) != (a : Int)) = true := by simp; omega
    have HZ := Lib.hid hz
    clear hz hua hu hc ha hcov
    go_enter Try.func18, Try.ntmps18
    go_wp2_with (first
      | (go_at_call 37; (with_reducible refine ((HC.out _ (Ba (Ba (B0 w) _) _)).mono ?_)); rintro e w1 ⟨rfl, hb1⟩; have HB1 := Lib.hid (Bt (Ba (Ba (B0 w) _) _) hb1); have p0 : w1.cell? ⟨w.heap.size, 0, none⟩ = some (.int .i64 n) := (Bc hb1 (by simp; omega)).trans (by simp [go_sem]); have p1 : w1.cell? ⟨w.heap.size, 1, none⟩ = some (.slice As ws.length c1) := (Bc hb1 (by simp; omega)).trans (by simp [go_sem]); have q0 : w1.cell? ⟨w.heap.size + 1, 0, none⟩ = some (.slice Al (Hit.ints ns).length cl) := (Bc hb1 (by simp)).trans (by simp [go_sem]); have q1 : w1.cell? ⟨w.heap.size + 1, 1, none⟩ = some (.int .i64 cost) := (Bc hb1 (by simp)).trans (by simp [go_sem]); have q2 : w1.cell? ⟨w.heap.size + 1, 2, none⟩ = some (.slice At 1 ct) := (Bc hb1 (by simp)).trans (by simp [go_sem]); have l1 : w.heap.size + 1 < w1.heap.size := (by have := hb1.size; simp at this; omega); clear hb1)
      | (go_at_call 38; (with_reducible refine ((HV.out _ HB1.out).mono ?_)); rintro e w2 ⟨rfl, hb2⟩; have HB2 := Lib.hid (Bt HB1.out hb2); have p20 := (Bc hb2 (Nat.lt_of_succ_lt l1)).trans p0; have p21 := (Bc hb2 (Nat.lt_of_succ_lt l1)).trans p1; have q21 := (Bc hb2 l1).trans q1; have q22 := (Bc hb2 l1).trans q2; have l2 := Nat.lt_of_lt_of_le l1 hb2.size; clear hb2 p0 p1 q0 q1 q2)
      | (go_at_call 39; (with_reducible refine ((HA.out _).mono ?_)); rintro e w3 ⟨rfl, hb3⟩; have HB3 := Lib.hid (Bt HB2.out hb3); have p30 := (Bc hb3 (Nat.lt_of_succ_lt l2)).trans p20; have p31 := (Bc hb3 (Nat.lt_of_succ_lt l2)).trans p21; have q31 := (Bc hb3 l2).trans q21; have q32 := (Bc hb3 l2).trans q22; clear hb3 p20 p21 q21 q22)
      | (go_at_call 40; (with_reducible refine ((HP.out _ HB3.out).mono ?_)); rintro e w4 ⟨rfl, hb4⟩; have HB4 := Lib.hid (Bt HB3.out hb4); clear hb4))
    go_ret
    exact ⟨by rw [HZ.out]; rfl, HB3.out⟩
end Go.Proofs.Ytnpdoejjebgcpaa
