/- Words for what Reduce leaves, and for the first set that is missed. -/
import Derived.Test.YtiochodepgldpaaDoorHK
namespace Go.Proofs.YtiochodepgldpaaDoor
open Go Go.RowKit
theorem bothF_plan {n : Nat} (hn : n ≤ 20) (sets : List Nat) (l : List Int) : bothF n (setsOf (Hit.planW n sets)) l = Hit.listF n l := by
  have : Hit.checkF n (setsOf (Hit.planW n sets)) = 0 := Hit.checkF_of hn (by have := Hit.planW_len n sets; omega) (Hit.planW_good n sets)
  unfold bothF
  rw [if_neg (by rw [this]; simp)]
theorem red_sub {n : Nat} (_hn : n ≤ 32) (ws : List Nat) (ns : List Nat) (h : ∀ x ∈ ns, x < n) : ∀ x ∈ Hit.members (Hit.reduce ws (Hit.word ns) ns), x < n :=
  Hit.members_lt (Hit.sub_lt (Hit.reduce_sub ws ns _) (Hit.word_lt h))
theorem red_list {n : Nat} (hn : n ≤ 32) (ws : List Nat) (ns : List Nat) (h : ∀ x ∈ ns, x < n) : Hit.listF n (Hit.ints (Hit.members (Hit.reduce ws (Hit.word ns) ns))) = 0 :=
  Hit.listF_of (Hit.inc_members _) (red_sub hn ws ns h)
theorem red_word {n : Nat} (hn : n ≤ 32) (ws : List Nat) (ns : List Nat) (h : ∀ x ∈ ns, x < n) : Hit.word (Hit.members (Hit.reduce ws (Hit.word ns) ns)) = Hit.reduce ws (Hit.word ns) ns :=
  Hit.word_members (Nat.lt_of_lt_of_le (Hit.sub_lt (Hit.reduce_sub ws ns _) (Hit.word_lt h)) (Nat.pow_le_pow_right (by decide) (by omega)))
theorem red_len (x : Nat) : (Hit.members x).length ≤ 1000000000 := Nat.le_trans (List.length_filter_le _ _) (by simp)
theorem missF_cases (ws : List Nat) (x : Nat) : (Hit.hit ws x = true ∧ missF ws x = -1) ∨ (Hit.hit ws x = false ∧ 0 ≤ missF ws x) := by
  cases h : Hit.hit ws x with
  | true =>
    refine .inl ⟨rfl, ?_⟩
    rw [missF_eq, if_pos ((Hit.miss_hit ws x).2 h)]
  | false =>
    refine .inr ⟨rfl, ?_⟩
    have := missF_neg ws x
    rw [h] at this
    have : ¬ missF ws x < 0 := fun q => by have := this.1 q; cases this
    omega
end Go.Proofs.YtiochodepgldpaaDoor
