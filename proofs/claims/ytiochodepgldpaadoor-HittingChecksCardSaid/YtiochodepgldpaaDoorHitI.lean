/- Plain: the checker's verifier is the verifier; what the laws on Prove, Verify and Hits owe. -/
import Derived.Test.YtiochodepgldpaaDoorHitH
namespace Go.Proofs.YtiochodepgldpaaDoor
namespace Hit
theorem filter_add (l : List Nat) (q : Nat → Bool) (p : Nat) (hi : Inc l) (hp : p ∈ l) (hq : q p = false) : (l.filter fun i => q i || i == p).length = (l.filter q).length + 1 := by
  induction l with
  | nil => simp at hp
  | cons x l ih =>
    rw [List.filter_cons, List.filter_cons]
    by_cases e : x = p
    · subst e
      have hn := inc_not_mem hi
      have : (l.filter fun i => q i || i == x) = l.filter q := List.filter_congr fun y hy => by
        have : (y == x) = false := by simp; rintro rfl; exact hn hy
        rw [this, Bool.or_false]
      rw [this, hq]
      simp
    · have hpl : p ∈ l := by simp only [List.mem_cons] at hp; rcases hp with h | h; exact absurd h.symm e; exact h
      have := ih hi.2 hpl
      have e2 : (x == p) = false := by simpa using e
      rw [e2, Bool.or_false]
      cases q x <;> simp [this]
theorem pop_bit {w p : Nat} (hp : p < 64) (h : w.testBit p = false) : pop (w ||| bit p) = pop w + 1 := by
  unfold pop members
  have : ((List.range 64).filter fun i => (w ||| bit p).testBit i) = (List.range 64).filter fun i => w.testBit i || i == p := List.filter_congr fun y _ => by
    rw [Nat.testBit_or, bit_test]
    by_cases e : p = y
    · subst e; simp
    · have e1 : (y == p) = false := by simp; exact fun h => e h.symm
      simp [e, e1]
  rw [this]
  exact filter_add _ _ p (inc_range 64) (by simpa using hp) h
/-- The checker's test of a leaf: cost is the number of what is taken. -/
def leafCGo (ws : List Nat) (size cost : Int) (len taken out : Nat) : List Int → List Int → Nat → Bool
  | _, [], _ => decide ((len : Int) + cost ≥ size)
  | prev, i :: r, used =>
    if i < 0 ∨ i > (ws.length : Int) - 1 ∨ prev.contains i = true then false
    else if wsI ws i &&& taken ≠ 0 ∨ andn (wsI ws i) out &&& used ≠ 0 then false
    else if andn (wsI ws i) out = 0 ∧ len = 1 then true
    else leafCGo ws size cost len taken out (prev ++ [i]) r (used ||| andn (wsI ws i) out)
theorem leafC_same (ws : List Nat) (size : Int) (len taken out : Nat) : ∀ (r prev : List Int) (used : Nat), leafCGo ws size (pop taken) len taken out prev r used = leafGo ws size len taken out prev r used := by
  intro r
  induction r with
  | nil => intro prev used; rfl
  | cons i r ih =>
    intro prev used
    unfold leafCGo leafGo
    by_cases h1 : i < 0 ∨ i > (ws.length : Int) - 1 ∨ prev.contains i = true
    · rw [if_pos h1, if_pos]
      rcases h1 with h | h | h
      · exact .inl h
      · exact .inr (.inl (by omega))
      · exact .inr (.inr (.inr h))
    · rw [if_neg h1]
      by_cases h2 : wsI ws i &&& taken ≠ 0
      · rw [if_pos (.inl h2), if_pos (.inr (.inr (.inl h2)))]
      · have h3 : ¬ (i < 0 ∨ i ≥ ws.length ∨ wsI ws i &&& taken ≠ 0 ∨ prev.contains i = true) := by
          intro h
          rcases h with h | h | h | h
          · exact h1 (.inl h)
          · exact h1 (.inr (.inl (by omega)))
          · exact h2 h
          · exact h1 (.inr (.inr h))
        rw [if_neg h3]
        by_cases h4 : andn (wsI ws i) out = 0 ∧ len = 1
        · rw [if_pos h4, if_neg, if_pos h4]
          rintro (h | h)
          · exact h2 h
          · exact h (by rw [h4.1]; simp)
        · rw [if_neg h4, if_neg h4]
          by_cases h5 : andn (wsI ws i) out &&& used ≠ 0
          · rw [if_pos (.inr h5), if_pos h5]
          · rw [if_neg (fun h => h.elim h2 h5), if_neg h5, ih]
/-- The checker's tree: with the cost of what is taken. -/
def treeC (ws : List Nat) (n : Nat) (size : Int) (t : List TNode) : Nat → Nat → Nat → Nat → Int → List Bool → Option (List Bool)
  | 0, _, _, _, _, _ => none
  | d + 1, at_, taken, out, cost, seen =>
    if seen.getD at_ false = true then none
    else
      let x := t.getD at_ node0
      if x.yes = 0 ∧ x.no = 0 then (if leafCGo ws size cost x.weights.length taken out [] x.weights 0 then some (seen.set at_ true) else none)
      else if (x.yes < (at_ : Int) + 1 ∨ x.yes > (t.length : Int) - 1 ∨ x.no < (at_ : Int) + 1 ∨ x.no > (t.length : Int) - 1) ∨ (x.pick < 0 ∨ x.pick > (n : Int) - 1) ∨ (taken ||| out).testBit x.pick.toNat = true then none
      else match treeC ws n size t d x.yes.toNat (taken ||| bit x.pick.toNat) out (cost + 1) (seen.set at_ true) with
        | none => none
        | some s => treeC ws n size t d x.no.toNat taken (out ||| bit x.pick.toNat) cost s
theorem treeC_same (ws : List Nat) (n : Nat) (hn : n ≤ 64) (size : Int) (t : List TNode) : ∀ (d at_ taken out : Nat) (seen : List Bool), treeC ws n size t d at_ taken out (pop taken) seen = rightF ws n size t d at_ taken out seen := by
  intro d
  induction d with
  | zero => intro at_ taken out seen; rfl
  | succ d ih =>
    intro at_ taken out seen
    unfold treeC rightF
    by_cases h0 : seen.getD at_ false = true
    · rw [if_pos h0, if_pos h0]
    · rw [if_neg h0, if_neg h0]
      simp only
      by_cases h1 : (t.getD at_ node0).yes = 0 ∧ (t.getD at_ node0).no = 0
      · rw [if_pos h1, if_pos h1, leafC_same]; rfl
      · rw [if_neg h1, if_neg h1]
        by_cases h2 : (t.getD at_ node0).pick < 0 ∨ (t.getD at_ node0).pick ≥ n ∨ (taken ||| out).testBit (t.getD at_ node0).pick.toNat = true ∨ (t.getD at_ node0).yes ≤ at_ ∨ (t.getD at_ node0).no ≤ at_ ∨ (t.getD at_ node0).yes ≥ t.length ∨ (t.getD at_ node0).no ≥ t.length
        · rw [if_pos h2, if_pos]
          rcases h2 with h | h | h | h | h | h | h
          · exact .inr (.inl (.inl h))
          · exact .inr (.inl (.inr (by omega)))
          · exact .inr (.inr h)
          · exact .inl (.inl (by omega))
          · exact .inl (.inr (.inr (.inl (by omega))))
          · exact .inl (.inr (.inl (by omega)))
          · exact .inl (.inr (.inr (.inr (by omega))))
        · rw [if_neg h2, if_neg]
          · have hp : (t.getD at_ node0).pick.toNat < 64 := by omega
            have hb : taken.testBit (t.getD at_ node0).pick.toNat = false := by
              cases hb : taken.testBit (t.getD at_ node0).pick.toNat with
              | false => rfl
              | true => exact absurd (.inr (.inr (.inl (by rw [Nat.testBit_or, hb]; rfl)))) h2
            have hc : (pop taken : Int) + 1 = (pop (taken ||| bit (t.getD at_ node0).pick.toNat) : Nat) := by rw [pop_bit hp hb]; rfl
            rw [hc, ih]
            cases rightF ws n size t d (t.getD at_ node0).yes.toNat (taken ||| bit (t.getD at_ node0).pick.toNat) out (seen.set at_ true) with
            | none => rfl
            | some s => exact ih _ _ _ _
          · intro h
            refine h2 ?_
            rcases h with (h | h | h | h) | (h | h) | h
            · exact .inr (.inr (.inr (.inl (by omega))))
            · exact .inr (.inr (.inr (.inr (.inr (.inl (by omega))))))
            · exact .inr (.inr (.inr (.inr (.inl (by omega)))))
            · exact .inr (.inr (.inr (.inr (.inr (.inr (by omega))))))
            · exact .inl h
            · exact .inr (.inl (by omega))
            · exact .inr (.inr (.inl h))
/-- The error of Verify: 3 a wrong size, 4 too many nodes, 13 none, 20 no proof. -/
def verifyF (ws : List Nat) (n : Nat) (size : Int) (t : List TNode) : Int :=
  if size < 0 ∨ size > n then 3 else if t.length > 100000 then 4 else if t.length = 0 then 13 else if treeF ws n size t then 0 else 20
theorem pop_zero : pop 0 = 0 := by decide
theorem hits_same (ws : List Nat) (n : Nat) (hn : n ≤ 64) (size : Int) (t : List TNode) (h0 : 0 < t.length) : (treeC ws n size t t.length 0 0 0 0 (List.replicate t.length false)).isSome = treeF ws n size t := by
  have := treeC_same ws n hn size t t.length 0 0 0 (List.replicate t.length false)
  rw [pop_zero] at this
  rw [show (0 : Int) = ((0 : Nat) : Int) from rfl, this, verify_same ws n size t h0]
/-- How long a tree can be. -/
theorem node_len (ws : List Nat) (size : Int) : ∀ (d at_ taken out : Nat), (nodeF ws size d at_ taken out).length + 1 ≤ 2 ^ d := by
  intro d
  induction d with
  | zero => intro at_ taken out; simp [nodeF]
  | succ d ih =>
    intro at_ taken out
    have h2 : 2 ^ (d + 1) = 2 ^ d + 2 ^ d := by rw [Nat.pow_succ]; omega
    have h1 : 1 ≤ 2 ^ d := Nat.one_le_two_pow
    unfold nodeF
    split
    · simp; omega
    · split
      · simp; omega
      · have := ih (at_ + 1) (taken ||| bit (tz ‹Nat›)) out
        simp only [List.length_cons, List.length_append]
        have := ih (at_ + 1 + (nodeF ws size d (at_ + 1) (taken ||| bit (tz ‹Nat›)) out).length) taken (out ||| bit (tz ‹Nat›))
        omega
end Hit
end Go.Proofs.YtiochodepgldpaaDoor
