/- Parts of a row of ints: x[:k], x[k:]. -/
import Derived.Test.YtnphdmiondccgaaDoorZh
namespace Go.Proofs.YtnphdmiondccgaaDoor
open Go Go.RowKit
open Pop
theorem SlI.intro {F : Nat → Prop} {w : World} {A : Option Addr} {c : Nat} {l : List Int} (n : Nat) (hn : n = l.length) (hc : l.length ≤ c) (hl : l.length ≤ 140737488355328)
    (h : ∀ i (hi : i < l.length), ∃ ad, A = some ad ∧ F ad.block ∧ w.cell? (ad.add i) = some (.int .i64 l[i])) : SlI F w (.slice A n c) l := by
  subst hn
  refine ⟨A, c, rfl, hc, hl, fun i hi => ?_⟩
  obtain ⟨ad, hA, hF, hcell⟩ := h i hi
  refine ⟨ad, [.int .i64 l[i]], hA, hF, rfl, rfl, fun j u hu => ?_⟩
  cases j with
  | zero =>
    simp at hu
    subst hu
    rw [Nat.mul_one]
    simpa [Addr.add] using hcell
  | succ j => simp at hu
theorem add0 (ad : Addr) : ad.add 0 = ad := rfl
theorem add_add (ad : Addr) (i j : Nat) : (ad.add i).add j = ad.add (i + j) := by
  by_cases hi : i = 0
  · subst hi
    rw [add0, Nat.zero_add]
  · by_cases hj : j = 0
    · subst hj
      rfl
    · unfold Addr.add
      simp [hi, hj, Nat.add_assoc]
theorem SlI.to {F : Nat → Prop} {w : World} {A : Option Addr} {n c : Nat} {l : List Int} (h : SlI F w (.slice A n c) l) {k : Nat} (hk : k ≤ n) : SlI F w (sliced A 0 k c 1) (l.take k) := by
  obtain ⟨A', c', he, hc, hlen, hi⟩ := h.open
  cases he
  unfold sliced
  have hlt : (l.take k).length = k := by rw [List.length_take]; omega
  refine SlI.intro _ (by rw [hlt]; omega) (by rw [hlt]; omega) (by rw [hlt]; omega) fun i hil => ?_
  rw [hlt] at hil
  obtain ⟨ad, hA, hF, hcell⟩ := hi i (by omega)
  subst hA
  refine ⟨ad, ?_, hF, by rw [hcell, List.getElem_take]⟩
  rw [if_neg (by omega)]
  rfl
theorem SlI.from_ {F : Nat → Prop} {w : World} {A : Option Addr} {n c : Nat} {l : List Int} (h : SlI F w (.slice A n c) l) {k : Nat} (hk : k ≤ n) : SlI F w (sliced A k n c 1) (l.drop k) := by
  obtain ⟨A', c', he, hc, hlen, hi⟩ := h.open
  cases he
  unfold sliced
  have hlt : (l.drop k).length = l.length - k := by rw [List.length_drop]
  refine SlI.intro _ (by rw [hlt]) (by rw [hlt]; omega) (by rw [hlt]; omega) fun i hil => ?_
  rw [hlt] at hil
  obtain ⟨ad, hA, hF, hcell⟩ := hi (k + i) (by omega)
  subst hA
  refine ⟨ad.add k, ?_, by rw [block_of_add]; exact hF, by rw [add_add, hcell, List.getElem_drop]⟩
  rw [if_neg (by omega), Nat.mul_one]
  rfl
theorem size_int1 (w : World) : (sizeOf (Tryd.prog.elem 32)).run Tryd.prog w = .ok 1 w := by kernel_rfl
theorem run_to (w : World) (A : Option Addr) (n c k : Nat) (hk : k ≤ n) (hc : n ≤ c) : (Instr.slice 32 (.slice A n c) none (some (.int .i64 (k : Int))) none).run Tryd.prog w = .ok (sliced A 0 k c 1) w := by
  rw [run_slice_h w 32 A n c (by kernel_rfl) .i64 k (by omega) (by omega), size_int1]
  rfl
theorem run_from (w : World) (A : Option Addr) (n c k : Nat) (hk : k ≤ n) : (Instr.slice 32 (.slice A n c) (some (.int .i64 (k : Int))) none none).run Tryd.prog w = .ok (sliced A k n c 1) w := by
  rw [run_slice_l w 32 A n c (by kernel_rfl) .i64 k (by omega) (by omega), size_int1]
  rfl
theorem Sm.take {l : List Int} (h : Sm l) (k : Nat) : Sm (l.take k) := fun x hx => h x (List.mem_of_mem_take hx)
theorem Sm.drop {l : List Int} (h : Sm l) (k : Nat) : Sm (l.drop k) := fun x hx => h x (List.mem_of_mem_drop hx)
end Go.Proofs.YtnphdmiondccgaaDoor
