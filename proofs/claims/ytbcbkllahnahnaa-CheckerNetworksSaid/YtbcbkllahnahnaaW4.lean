/- Walks: slices.Equal at words, the checker's Same. -/
import Derived.Test.YtbcbkllahnahnaaW3
import Derived.Deep.RegionHeld3
import Derived.BigQuiet
namespace Go.Proofs.Ytbcbkllahnahnaa
open Go Go.RowKit

theorem eq_drop (a b : List Nat) (k : Nat) (ha : k < a.length) (hb : k < b.length) : decide (a.drop k = b.drop k) = (decide (a[k] = b[k]) && decide (a.drop (k + 1) = b.drop (k + 1))) := by
  have e1 := List.drop_eq_getElem_cons ha
  have e2 := List.drop_eq_getElem_cons hb
  rw [e1, e2]
  generalize a[k] = x
  generalize b[k] = y
  by_cases h : x = y <;> simp [h]

set_option maxHeartbeats 1000000 in
theorem equal_any (va vb : Value) (a b : List Nat) (w : World) (F G : Nat → Prop) (hF : ∀ b, F b → b < w.heap.size) (hG : ∀ b, G b → b < w.heap.size) (ha : SlW F w va a) (hb : SlW G w vb b) :
    Calls Try.prog 13 #[va, vb] w fun e w' => e = .returned (.bool (decide (a = b))) ∧ Below w.heap.size w w' := by
  obtain ⟨A, c, rfl, _, hla, hca⟩ := ha.open
  obtain ⟨B, d, rfl, _, hlb, hcb⟩ := hb.open
  clear ha hb
  by_cases hl : a.length = b.length
  · have hl' : ((a.length : Int) != b.length) = false := by simp [hl]
    have HL := Lib.hid hl
    clear hl
    go_enter Try.func13, Try.ntmps13
    go_wp2
    go_loopg [13] a.length (fun gg s wr => ∃ kk : Nat, kk ≤ a.length ∧ a.length - kk ≤ gg ∧ s = .int .i64 kk ∧ Aside (Below w.heap.size w wr) ∧ Aside (decide (a = b) = decide (a.drop kk = b.drop kk)))
    case atStart => exact ⟨0, Nat.zero_le _, by omega, rfl, B0 w, rfl⟩
    case round =>
      obtain ⟨kk, hkk, hg, rfl, BW, A1⟩ := hrel
      by_cases hlt : kk < a.length
      · have hltb : kk < b.length := by have := HL.out; omega
        obtain ⟨ad, rfl, hb1, hc1⟩ := hca kk hlt
        obtain ⟨bd, rfl, hb2, hc2⟩ := hcb kk hltb
        have hst := eq_drop a b kk hlt hltb
        have h1 := (BW.out.cell (by rw [block_of_add]; exact hF _ hb1)).trans hc1
        have h2 := (BW.out.cell (by rw [block_of_add]; exact hG _ hb2)).trans hc2
        have i1 : (kk : Int) < a.length := by omega
        have i2 : (kk : Int) < b.length := by omega
        generalize a[kk] = x at *
        generalize b[kk] = y at *
        have HS := Lib.hid hst
        clear hca hcb hst hc1 hc2
        by_cases hxy : x = y
        · subst hxy
          go_wp2_with fail
          go_quiet (fail)
          go_wp2
          go_roundg (a.length - (kk + 1))
          case measure => omega
          case rel => exact ⟨kk + 1, by omega, by omega, by go_num, below_drewN BW.out _, A1.out.trans (by rw [HS.out]; simp)⟩
        · have hxy' : ((x : Int) != (y : Int)) = true := by simp; omega
          have hfin : decide (a = b) = false := by rw [A1.out, HS.out, decide_eq_false hxy]; rfl
          have HF := Lib.hid hfin
          clear hfin hxy
          go_wp2_with fail
          go_quiet (fail)
          go_wp2
          go_ret
          exact ⟨by rw [HF.out]; rfl, below_drewN BW.out _⟩
      · have : kk = a.length := by omega
        subst this
        clear hca hcb
        go_wp2
        go_ret
        exact ⟨by rw [A1.out, List.drop_length, HL.out, List.drop_length]; rfl, BW.out⟩
  · have hl' : ((a.length : Int) != b.length) = true := by simp; omega
    have hne : decide (a = b) = false := decide_eq_false fun h => hl (by rw [h])
    have HN := Lib.hid hne
    clear hne hl hca hcb
    go_enter Try.func13, Try.ntmps13
    go_wp2
    go_ret
    exact ⟨by rw [HN.out]; rfl, B0 w⟩
end Go.Proofs.Ytbcbkllahnahnaa
