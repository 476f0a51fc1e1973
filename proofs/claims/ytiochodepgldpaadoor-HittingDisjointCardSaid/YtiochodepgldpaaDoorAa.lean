/- Walks over the reference of hitting: the order of lists. -/
import Derived.Test.YtiochodepgldpaaDoorH6
namespace Go.Proofs.YtiochodepgldpaaDoor
open Go Go.RowKit
theorem lexLt_drop (a b : List Nat) (k : Nat) (ha : k < a.length) (hb : k < b.length) : Hit.lexLt (a.drop k) (b.drop k) = if a[k] ≠ b[k] then decide (a[k] < b[k]) else Hit.lexLt (a.drop (k + 1)) (b.drop (k + 1)) := by
  rw [List.drop_eq_getElem_cons ha, List.drop_eq_getElem_cons hb]
  simp only [Hit.lexLt]
theorem lexLt_end (a b : List Nat) : Hit.lexLt (a.drop a.length) b = false := by
  rw [List.drop_length]
  simp only [Hit.lexLt]
set_option maxHeartbeats 1000000 in
theorem before_any (va vb : Value) (a b : List Nat) (w : World) (F G : Nat → Prop) (hF : ∀ b, F b → b < w.heap.size) (hG : ∀ b, G b → b < w.heap.size) (ha : SlI F w va (Hit.ints a)) (hb : SlI G w vb (Hit.ints b)) :
    Calls Tryd.prog 40 #[va, vb] w fun e w' => e = .returned (.bool (Hit.before a b)) ∧ Below w.heap.size w w' := by
  obtain ⟨A, c, rfl, _, hla, hca⟩ := ha.open
  obtain ⟨B, d, rfl, _, hlb, hcb⟩ := hb.open
  rw [ints_length a] at hla ⊢
  rw [ints_length b] at hlb ⊢
  clear ha hb
  by_cases hl : a.length = b.length
  · have hl' : ((a.length : Int) != b.length) = false := by simp [hl]
    have hbf : Hit.before a b = Hit.lexLt a b := by unfold Hit.before; rw [if_neg (by simpa using hl)]
    have HBF := Lib.hid hbf
    have HL := Lib.hid hl
    clear hl hbf
    go_enter Tryd.func40, Tryd.ntmps40
    go_wp2
    go_loopg [5] a.length (fun gg s wr => ∃ kk : Nat, kk ≤ a.length ∧ a.length - kk ≤ gg ∧ s = .int .i64 kk ∧ Aside (Below w.heap.size w wr) ∧ Aside (Hit.before a b = Hit.lexLt (a.drop kk) (b.drop kk)))
    case atStart => exact ⟨0, Nat.zero_le _, by omega, rfl, B0 w, HBF.out⟩
    case round =>
      obtain ⟨kk, hkk, hg, rfl, BW, A1⟩ := hrel
      by_cases hlt : kk < a.length
      · have hltb : kk < b.length := by have := HL.out; omega
        obtain ⟨ad, rfl, hb1, hc1⟩ := hca kk (by rw [ints_length]; exact hlt)
        obtain ⟨bd, rfl, hb2, hc2⟩ := hcb kk (by rw [ints_length]; exact hltb)
        rw [ints_get] at hc1 hc2
        have hst := A1.out.trans (lexLt_drop a b kk hlt hltb)
        have h1 := (BW.out.cell (p := ad.add kk) (by rw [block_of_add]; exact hF _ hb1)).trans hc1
        have h2 := (BW.out.cell (p := bd.add kk) (by rw [block_of_add]; exact hG _ hb2)).trans hc2
        have i1 : (kk : Int) < a.length := by omega
        have i2 : (kk : Int) < b.length := by omega
        generalize a[kk] = x at *
        generalize b[kk] = y at *
        have HS := Lib.hid hst
        clear hca hcb hst hc1 hc2
        by_cases hxy : x = y
        · subst hxy
          go_wp2_with fail
          go_quiet (fail)
          go_wp2
          go_roundg (a.length - (kk + 1))
          case measure => omega
          case rel => exact ⟨kk + 1, by omega, by omega, by go_num, below_drewN BW.out _, (HS.out.trans (if_neg (by simp)))⟩
        · have hxy' : ((x : Int) != (y : Int)) = true := by simp; omega
          have hfin : Hit.before a b = decide ((x : Int) < (y : Int)) := by rw [HS.out, if_pos hxy]; simp
          have HF := Lib.hid hfin
          clear hfin hxy
          cases hq : decide ((x : Int) < (y : Int))
          all_goals
            rw [hq] at HF
            have hqn : decide (x < y) = _ := (by simp : decide (x < y) = decide ((x : Int) < (y : Int))).trans hq
            go_wp2_with fail
            go_quiet (fail)
            go_wp2_with fail
            go_quiet (fail)
            go_wp2
            go_ret
            exact ⟨by rw [HF.out]; rfl, below_drewN (below_drewN BW.out _) _⟩
      · have : kk = a.length := by omega
        subst this
        have hfin := A1.out.trans (lexLt_end a _)
        have HF := Lib.hid hfin
        clear hca hcb hfin
        go_wp2
        go_ret
        exact ⟨by rw [HF.out]; rfl, BW.out⟩
  · have hl' : ((a.length : Int) != b.length) = true := by simp; omega
    have hbf : Hit.before a b = decide (a.length < b.length) := by unfold Hit.before; rw [if_pos hl]
    have HBF := Lib.hid hbf
    clear hbf hl hca hcb
    cases hq : decide (a.length < b.length)
    all_goals
      rw [hq] at HBF
      have hqi : decide ((a.length : Int) < (b.length : Int)) = _ := (by simp : decide ((a.length : Int) < (b.length : Int)) = decide (a.length < b.length)).trans hq
      go_enter Tryd.func40, Tryd.ntmps40
      go_wp2
      go_ret
      exact ⟨by rw [HBF.out]; rfl, B0 w⟩
end Go.Proofs.YtiochodepgldpaaDoor
