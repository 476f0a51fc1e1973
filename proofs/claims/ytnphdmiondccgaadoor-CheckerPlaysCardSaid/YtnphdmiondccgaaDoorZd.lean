/- Walks over span: Check, width, one. -/
import Derived.Test.YtnphdmiondccgaaDoorZc
namespace Go.Proofs.YtnphdmiondccgaaDoor
open Go Go.RowKit
open Pop
def okP (m n : Int) : Prop := 0 ≤ n ∧ n ≤ m
def PlOk (hn hs fn fs : Int) : Prop := okP 10 hn ∧ okP 10 fn ∧ okP 127 hs ∧ okP 127 fs
set_option maxRecDepth 100000 in
set_option maxHeartbeats 1000000 in
theorem player_err (hn hs fn fs : Int) (w : World) : Calls Tryd.prog 21 #[.agg #[.int .i64 hn, .int .i64 hs, .int .i64 fn, .int .i64 fs]] w fun e w' => (∃ e0, e = .returned (.int .i64 e0) ∧ (e0 = 0 ↔ PlOk hn hs fn fs)) ∧ Below w.heap.size w w' := by
  obtain ⟨w1, hw1⟩ : ∃ w1 : World, w.alloc (.cells #[.int .i64 hn, .int .i64 hs, .int .i64 fn, .int .i64 fs] 43) = w1 := ⟨_, rfl⟩
  obtain ⟨b, hb⟩ : ∃ b, w.heap.size = b := ⟨_, rfl⟩
  have C1 : Blk w1 b 43 #[.int .i64 hn, .int .i64 hs, .int .i64 fn, .int .i64 fs] := by rw [← hw1, ← hb]; exact Blk.new _ _ _
  have B1 : Below w.heap.size w w1 := by rw [← hw1]; exact Ba (B0 w) _
  have c0 := C1.cell 0
  have c1 := C1.cell 1
  have c2 := C1.cell 2
  have c3 := C1.cell 3
  simp only [List.getElem?_toArray, List.getElem?_cons_zero, List.getElem?_cons_succ] at c0 c1 c2 c3
  obtain ⟨Q, hQ⟩ : ∃ Q : Prop, PlOk hn hs fn fs = Q := ⟨_, rfl⟩
  rw [hQ]
  have HQ := Lib.hid hQ
  have HB := Lib.hid B1
  have HW1 := Lib.hid hw1
  have HBB := Lib.hid hb
  clear hQ B1 C1 hw1 hb
  go_enter Tryd.func21, Tryd.ntmps21
  have i00 : ∀ w, (Instr.index 127 (.agg #[.int .i64 hn, .int .i64 fn]) (.int .i64 0)).run Tryd.prog w = .ok (.int .i64 hn) w := fun _ => by kernel_rfl
  have i01 : ∀ w, (Instr.index 127 (.agg #[.int .i64 hn, .int .i64 fn]) (.int .i64 1)).run Tryd.prog w = .ok (.int .i64 fn) w := fun _ => by kernel_rfl
  have i10 : ∀ w, (Instr.index 127 (.agg #[.int .i64 hs, .int .i64 fs]) (.int .i64 0)).run Tryd.prog w = .ok (.int .i64 hs) w := fun _ => by kernel_rfl
  have i11 : ∀ w, (Instr.index 127 (.agg #[.int .i64 hs, .int .i64 fs]) (.int .i64 1)).run Tryd.prog w = .ok (.int .i64 fs) w := fun _ => by kernel_rfl
  go_upto_region 1 with fail
  have hw1 := HW1.out
  have hbb := HBB.out
  rw [hw1, hbb]
  clear hw1 hbb HW1 HBB
  go_wp2_with fail
  go_loopg [12] 3 (fun gg s12 wr => wr = w1 ∧ ((s12 = .int .i64 0 ∧ 2 ≤ gg) ∨ (s12 = .int .i64 1 ∧ 1 ≤ gg ∧ Aside (okP 10 hn)) ∨ (s12 = .int .i64 2 ∧ Aside (okP 10 hn) ∧ Aside (okP 10 fn))))
  case atStart => exact ⟨rfl, Or.inl ⟨rfl, by omega⟩⟩
  case round =>
    obtain ⟨rfl, ⟨rfl, hg⟩ | ⟨rfl, hg, H1⟩ | ⟨rfl, H1, H2⟩⟩ := hrel
    · by_cases h1 : hn < 0
      · go_wp2_with fail
        go_ret
        exact ⟨⟨3, rfl, fun h => absurd h (by decide), fun h => by have := (HQ.out.mpr h).1.1; omega⟩, HB.out⟩
      · by_cases h2 : 10 < hn
        · go_wp2_with fail
          go_ret
          exact ⟨⟨3, rfl, fun h => absurd h (by decide), fun h => by have := (HQ.out.mpr h).1.2; omega⟩, HB.out⟩
        · have H1 := Lib.hid (show okP 10 hn from ⟨by omega, by omega⟩)
          go_wp2_with fail
          go_roundg 1
          case measure => omega
          case rel => exact ⟨rfl, Or.inr (Or.inl ⟨rfl, by omega, H1.out⟩)⟩
    · replace H1 : Hid (okP 10 hn) := Lib.hid H1
      by_cases h1 : fn < 0
      · go_wp2_with fail
        go_ret
        exact ⟨⟨3, rfl, fun h => absurd h (by decide), fun h => by have := (HQ.out.mpr h).2.1.1; omega⟩, HB.out⟩
      · by_cases h2 : 10 < fn
        · go_wp2_with fail
          go_ret
          exact ⟨⟨3, rfl, fun h => absurd h (by decide), fun h => by have := (HQ.out.mpr h).2.1.2; omega⟩, HB.out⟩
        · have H2 := Lib.hid (show okP 10 fn from ⟨by omega, by omega⟩)
          go_wp2_with fail
          go_roundg 0
          case measure => omega
          case rel => exact ⟨rfl, Or.inr (Or.inr ⟨rfl, H1.out, H2.out⟩)⟩
    · replace H1 : Hid (okP 10 hn) := Lib.hid H1
      replace H2 : Hid (okP 10 fn) := Lib.hid H2
      go_wp2_with fail
      go_loopg [27] 3 (fun gg s27 wq => wq = wr ∧ ((s27 = .int .i64 0 ∧ 2 ≤ gg) ∨ (s27 = .int .i64 1 ∧ 1 ≤ gg ∧ Aside (okP 127 hs)) ∨ (s27 = .int .i64 2 ∧ Aside (okP 127 hs) ∧ Aside (okP 127 fs))))
      case atStart => exact ⟨rfl, Or.inl ⟨rfl, by omega⟩⟩
      case round =>
        obtain ⟨rfl, ⟨rfl, hg⟩ | ⟨rfl, hg, H3⟩ | ⟨rfl, H3, H4⟩⟩ := hrel
        · by_cases h1 : hs < 0
          · go_wp2_with fail
            go_ret
            exact ⟨⟨3, rfl, fun h => absurd h (by decide), fun h => by have := (HQ.out.mpr h).2.2.1.1; omega⟩, HB.out⟩
          · by_cases h2 : 127 < hs
            · go_wp2_with fail
              go_ret
              exact ⟨⟨3, rfl, fun h => absurd h (by decide), fun h => by have := (HQ.out.mpr h).2.2.1.2; omega⟩, HB.out⟩
            · have H3 := Lib.hid (show okP 127 hs from ⟨by omega, by omega⟩)
              go_wp2_with fail
              go_roundg 1
              case measure => omega
              case rel => exact ⟨rfl, Or.inr (Or.inl ⟨rfl, by omega, H3.out⟩)⟩
        · replace H3 : Hid (okP 127 hs) := Lib.hid H3
          by_cases h1 : fs < 0
          · go_wp2_with fail
            go_ret
            exact ⟨⟨3, rfl, fun h => absurd h (by decide), fun h => by have := (HQ.out.mpr h).2.2.2.1; omega⟩, HB.out⟩
          · by_cases h2 : 127 < fs
            · go_wp2_with fail
              go_ret
              exact ⟨⟨3, rfl, fun h => absurd h (by decide), fun h => by have := (HQ.out.mpr h).2.2.2.2; omega⟩, HB.out⟩
            · have H4 := Lib.hid (show okP 127 fs from ⟨by omega, by omega⟩)
              go_wp2_with fail
              go_roundg 0
              case measure => omega
              case rel => exact ⟨rfl, Or.inr (Or.inr ⟨rfl, H3.out, H4.out⟩)⟩
        · replace H3 : Hid (okP 127 hs) := Lib.hid H3
          replace H4 : Hid (okP 127 fs) := Lib.hid H4
          have HA := Lib.hid (HQ.out.mp ⟨H1.out, H2.out, H3.out, H4.out⟩)
          go_wp2_with fail
          go_ret
          exact ⟨⟨0, rfl, fun _ => HA.out, fun _ => rfl⟩, HB.out⟩
end Go.Proofs.YtnphdmiondccgaaDoor
