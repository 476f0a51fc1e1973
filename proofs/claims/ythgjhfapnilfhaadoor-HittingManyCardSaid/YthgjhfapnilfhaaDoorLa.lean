/- Plain: the irreducible lists, collected and then sorted, are the reference's; the comparison by length and order. -/
import Derived.Test.YthgjhfapnilfhaaDoorCovP
namespace Go.Proofs.YthgjhfapnilfhaaDoor
namespace Hit
/-- The irreducible sets below k. -/
def irrL (ws : List Nat) (n k : Nat) : List Nat := (List.range k).filter fun w => hit ws w && irr ws n w
theorem irrL_succ (ws : List Nat) (n k : Nat) : irrL ws n (k + 1) = irrL ws n k ++ (if (hit ws k && irr ws n k) = true then [k] else []) := by
  unfold irrL
  rw [List.range_succ, List.filter_append, List.filter_cons, List.filter_nil]
theorem irrL_le (ws : List Nat) (n k : Nat) : (irrL ws n k).length ≤ k := Nat.le_trans (List.length_filter_le _ _) (by simp)
theorem irrL_mono (ws : List Nat) (n : Nat) {j k : Nat} (h : j ≤ k) : (irrL ws n j).length ≤ (irrL ws n k).length := by
  induction h with
  | refl => exact Nat.le_refl _
  | step _ ih =>
    rw [Nat.succ_eq_add_one, irrL_succ, List.length_append]
    omega
theorem insertF_perm (l : List (List Nat)) (x : List Nat) : (insertF l x).Perm (x :: l) := by
  unfold insertF
  refine List.perm_middle.trans ?_
  rw [List.takeWhile_append_dropWhile]
theorem allGo_perm (ws : List Nat) (n : Nat) : ∀ (l : List Nat) (r : List (List Nat) × Nat), (allGo ws n l r).1.Perm (r.1 ++ (l.filter fun b => hit ws b && irr ws n b).map members) := by
  intro l
  induction l with
  | nil => intro r; simp [allGo]
  | cons b l ih =>
    intro r
    unfold allGo
    cases hb : hit ws b with
    | false => simpa [List.filter_cons, hb] using ih r
    | true =>
      cases hi : irr ws n b with
      | false => simpa [List.filter_cons, hb, hi] using ih (r.1, r.2 + 1)
      | true =>
        have h := ih (insertF r.1 (members b), r.2 + 1)
        simp only [if_true, List.filter_cons, hb, hi, Bool.and_self, List.map_cons]
        exact h.trans (((insertF_perm r.1 (members b)).append_right _).trans List.perm_middle.symm)
theorem sorted_pairwise : ∀ {l : List (List Nat)}, Sorted l → l.Pairwise fun x y => before y x = false
  | [], _ => List.Pairwise.nil
  | _ :: _, h => List.Pairwise.cons h.1 (sorted_pairwise h.2)
theorem allF_perm (ws : List Nat) (n : Nat) : (allF ws n).1.Perm ((irrL ws n (2 ^ n)).map members) := by
  have := allGo_perm ws n (List.range (2 ^ n)) ([], 0)
  simpa [allF, irrL] using this
theorem allF_sorted (ws : List Nat) (n : Nat) : Sorted (allF ws n).1 := (allGo_spec ws n (List.range (2 ^ n)) ([], 0) trivial).1
theorem allF_count (ws : List Nat) (n : Nat) : (allF ws n).2 = ((List.range (2 ^ n)).filter fun b => hit ws b).length := by
  have := (allGo_spec ws n (List.range (2 ^ n)) ([], 0) trivial).2.2
  simpa [allF] using this
theorem allF_len (ws : List Nat) (n : Nat) : (allF ws n).1.length = (irrL ws n (2 ^ n)).length := by
  rw [(allF_perm ws n).length_eq, List.length_map]
theorem sort_unique {ws : List Nat} {n : Nat} {M : List (List Nat)} (hp : M.Perm ((irrL ws n (2 ^ n)).map members)) (hs : M.Pairwise fun x y => before y x = false) : M = (allF ws n).1 :=
  List.Perm.eq_of_pairwise (le := fun x y => before y x = false) (fun a b _ _ h1 h2 => before_conn a b h2 h1) hs (sorted_pairwise (allF_sorted ws n)) (hp.trans (allF_perm ws n).symm)
/-- The comparison of lists, the comparison by length first. -/
def cmpLex : List Nat → List Nat → Int
  | [], [] => 0
  | [], _ :: _ => -1
  | _ :: _, [] => 1
  | x :: a, y :: b => if x < y then -1 else if y < x then 1 else cmpLex a b
def cmpF (a b : List Nat) : Int := if a.length ≠ b.length then (a.length : Int) - b.length else cmpLex a b
theorem cmpLex_lt : ∀ (a b : List Nat), a.length = b.length → decide (cmpLex a b < 0) = lexLt a b
  | [], [], _ => rfl
  | [], _ :: _, h => by simp at h
  | _ :: _, [], h => by simp at h
  | x :: a, y :: b, h => by
    unfold cmpLex lexLt
    rcases Nat.lt_trichotomy x y with h1 | h1 | h1
    · rw [if_pos h1, if_pos (by omega)]; simp [h1]
    · rw [if_neg (by omega), if_neg (by omega), if_neg (by omega)]
      exact cmpLex_lt a b (by simpa using h)
    · rw [if_neg (by omega), if_pos h1, if_pos (by omega)]; simp; omega
theorem cmpF_lt (a b : List Nat) : decide (cmpF a b < 0) = before a b := by
  unfold cmpF before
  by_cases h : a.length ≠ b.length
  · rw [if_pos h, if_pos h]
    rw [Bool.eq_iff_iff]; simp; omega
  · rw [if_neg h, if_neg h]
    exact cmpLex_lt a b (by omega)
theorem cmpLex_bd : ∀ (a b : List Nat), -1 ≤ cmpLex a b ∧ cmpLex a b ≤ 1
  | [], [] => by decide
  | [], _ :: _ => ⟨by unfold cmpLex; omega, by unfold cmpLex; omega⟩
  | _ :: _, [] => ⟨by unfold cmpLex; omega, by unfold cmpLex; omega⟩
  | x :: a, y :: b => by
    have := cmpLex_bd a b
    unfold cmpLex
    split
    · omega
    · split <;> omega
/-- Irreducible: by the members. -/
theorem irr_members {ws : List Nat} {n w : Nat} (hn : n ≤ 64) (hw : w < 2 ^ n) : irr ws n w = (members w).all fun i => !hit ws (andn w (bit i)) := by
  unfold irr
  rw [Bool.eq_iff_iff, List.all_eq_true, List.all_eq_true]
  constructor
  · intro h i hi
    have h1 := mem_members.1 hi
    have h2 := h i (List.mem_range.2 (members_lt hw i hi))
    rw [h1.2] at h2
    simpa using h2
  · intro h i hi
    cases hb : w.testBit i with
    | false => rfl
    | true =>
      have := h i (mem_members.2 ⟨by have := List.mem_range.1 hi; omega, hb⟩)
      simpa using this
theorem members_inj {a b : Nat} (ha : a < 2 ^ 64) (hb : b < 2 ^ 64) (h : members a = members b) : a = b := by
  rw [← word_members ha, ← word_members hb, h]
end Hit
end Go.Proofs.YthgjhfapnilfhaaDoor
