/- Walks over checker: has, members. -/
import Derived.Test.YtnphdmiondccgaaDoorZl
namespace Go.Proofs.YtnphdmiondccgaaDoor
open Go Go.RowKit Go.Shelf
open Pop
theorem bit_of (v p : Nat) : ((((v >>> p) &&& 1 : Nat) : Int) == 1) = v.testBit p := by
  rw [Nat.testBit_eq_decide_div_mod_eq, Nat.and_one_is_mod, Nat.shiftRight_eq_div_pow]
  by_cases h : v / 2 ^ p % 2 = 1
  · rw [h]; rfl
  · have : v / 2 ^ p % 2 = 0 := by omega
    rw [this]; rfl
theorem shr_of (v p : Nat) (h : p ≤ 64) : ((v : Nat) : Int) / 2 ^ p = ((v >>> p : Nat) : Int) := by
  have := Hit.shr_nat v p 64 h
  rw [Nat.min_eq_left h, Int.fdiv_eq_ediv_of_nonneg _ (Int.pow_nonneg (by decide))] at this
  exact this
set_option maxRecDepth 100000 in
set_option maxHeartbeats 1000000 in
theorem chas_any (x : Nat) (hx : x < 2 ^ 128) (i : Nat) (hi : i < 128) (w : World) :
    Calls Tryd.prog 69 #[ntV x, .int .i64 i] w fun e w' => e = .returned (.bool (x.testBit i)) ∧ Below w.heap.size w w' := by
  have hlo := Nt.lo_lt x
  have hhi := Nt.hi_lt hx
  unfold ntV
  by_cases h64 : i < 64
  · have h64I : (i : Int) < 64 := by omega
    have hb : x.testBit i = (Nt.lo x).testBit i := by rw [Nt.lo_test]; simp [h64]
    rw [hb]
    obtain ⟨d, hd⟩ : ∃ d, Nt.lo x = d := ⟨_, rfl⟩
    obtain ⟨c, hc⟩ : ∃ d, Nt.hi x = d := ⟨_, rfl⟩
    rw [hd] at hlo ⊢
    rw [hc]
    have h3 : ((i : Nat) : Int) % 18446744073709551616 = i := by omega
    have h4 : min i 64 = i := by omega
    have hsh := shr_of d i (by omega)
    have hle : d >>> i ≤ d := by rw [Nat.shiftRight_eq_div_pow]; exact Nat.div_le_self _ _
    have hand : bits .and .u64 ((d >>> i : Nat) : Int) 1 = ((d >>> i &&& 1 : Nat) : Int) := Hit.u64_and (d >>> i) 1 (by omega) (by omega)
    have hbit := bit_of d i
    generalize d >>> i &&& 1 = vb at *
    generalize d >>> i = vs at *
    have HB : Hid (((vb : Int) == 1) = d.testBit i) := Lib.hid hbit
    clear hle hbit hb hd hc hlo hhi hx
    go_enter Tryd.func69, Tryd.ntmps69
    go_wp2
    go_ret
    exact ⟨by first | rfl | (rw [HB.out]; rfl), Ba (B0 w) _⟩
  · obtain ⟨j, rfl⟩ : ∃ j, i = 64 + j := ⟨i - 64, by omega⟩
    have hb : x.testBit (64 + j) = (Nt.hi x).testBit j := (Nt.hi_test x j).symm
    rw [hb]
    obtain ⟨d, hd⟩ : ∃ d, Nt.hi x = d := ⟨_, rfl⟩
    obtain ⟨c, hc⟩ : ∃ d, Nt.lo x = d := ⟨_, rfl⟩
    rw [hd] at hhi ⊢
    rw [hc]
    obtain ⟨i, hi'⟩ : ∃ i : Nat, 64 + j = i := ⟨_, rfl⟩
    rw [hi'] at hi ⊢
    have hsub : IntKind.i64.wrap ((i : Int) - 64) = j := by rw [IntWalk.i64_in _ (by omega)]; omega
    have hn64 : ¬ (i : Int) < 64 := by omega
    have h3 : ((j : Nat) : Int) % 18446744073709551616 = j := by omega
    have h4 : min j 64 = j := by omega
    have hsh := shr_of d j (by omega)
    have hle : d >>> j ≤ d := by rw [Nat.shiftRight_eq_div_pow]; exact Nat.div_le_self _ _
    have hand : bits .and .u64 ((d >>> j : Nat) : Int) 1 = ((d >>> j &&& 1 : Nat) : Int) := Hit.u64_and (d >>> j) 1 (by omega) (by omega)
    have hbit := bit_of d j
    generalize d >>> j &&& 1 = vb at *
    generalize d >>> j = vs at *
    have HB : Hid (((vb : Int) == 1) = d.testBit j) := Lib.hid hbit
    clear hle hbit hb hd hc hlo hhi hx hi'
    go_enter Tryd.func69, Tryd.ntmps69
    go_wp2
    go_ret
    exact ⟨by first | rfl | (rw [HB.out]; rfl), Ba (B0 w) _⟩
/-- The notes below k. -/
def memK (x k : Nat) : List Int := ((List.range k).filter fun i => x.testBit i).map fun i : Nat => (i : Int)
theorem memK_128 (x : Nat) : memK x 128 = memI x := by unfold memK memI; rw [mem_eq]
theorem memK_step (x k : Nat) : memK x (k + 1) = memK x k ++ (if x.testBit k = true then [(k : Int)] else []) := by
  unfold memK
  rw [range_filter_step, List.map_append]
  by_cases h : x.testBit k = true <;> simp [h]
theorem memK_len (x k : Nat) : (memK x k).length ≤ k := by
  unfold memK
  rw [List.length_map]
  exact Nat.le_trans (List.length_filter_le _ _) (by simp)
end Go.Proofs.YtnphdmiondccgaaDoor
