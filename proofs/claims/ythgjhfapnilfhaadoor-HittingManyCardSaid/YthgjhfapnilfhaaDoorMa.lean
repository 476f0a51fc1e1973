/- Plain: disjoint pairs of numbers: their least list, the tree, how many sets hit them, how many of those are irreducible. -/
import Derived.Test.YthgjhfapnilfhaaDoorLa
namespace Go.Proofs.YthgjhfapnilfhaaDoor
namespace Hit
def pairsW (n : Nat) : List Nat := (List.range n).map fun i => bit (2 * i) ||| bit (2 * i + 1)
theorem pairs_succ (n : Nat) : pairsW (n + 1) = pairsW n ++ [bit (2 * n) ||| bit (2 * n + 1)] := by
  unfold pairsW; rw [List.range_succ, List.map_append]; rfl
theorem pairs_len (n : Nat) : (pairsW n).length = n := by simp [pairsW]
theorem pair_members : ∀ i : Fin 9, members (bit (2 * i.val) ||| bit (2 * i.val + 1)) = [2 * i.val, 2 * i.val + 1] := by decide +kernel
theorem pairs_good9 : ∀ k : Fin 9, ((pairsW (k.val + 1)).all fun s => s != 0 && decide (s < 2 ^ (2 * (k.val + 1)))) = true := by decide +kernel
theorem pairs_least9 : ∀ k : Fin 9, members (least (pairsW (k.val + 1)) (2 * (k.val + 1))) = (List.range (k.val + 1)).map (2 * ·) := by decide +kernel
theorem pairs_verify9 : ∀ k : Fin 9, verifyF (pairsW (k.val + 1)) (2 * (k.val + 1)) ((k.val + 1 : Nat) : Int) (nodeF (pairsW (k.val + 1)) ((k.val + 1 : Nat) : Int) (2 * (k.val + 1) + 1) 0 0 0) = 0 := by decide +kernel
theorem pairs_tree9 : ∀ k : Fin 9, (nodeF (pairsW (k.val + 1)) ((k.val + 1 : Nat) : Int) (2 * (k.val + 1) + 1) 0 0 0).length = 1 := by decide +kernel
theorem pairs_good {n : Nat} (h0 : 0 < n) (h9 : n ≤ 9) : Good (pairsW n) (2 * n) := fun s hs => by
  have := List.all_eq_true.1 (pairs_good9 ⟨n - 1, by omega⟩) s (by show s ∈ pairsW (n - 1 + 1); rwa [show n - 1 + 1 = n by omega])
  simp only [Bool.and_eq_true, bne_iff_ne, ne_eq, decide_eq_true_eq, show n - 1 + 1 = n by omega] at this
  exact this
/-- How many numbers below m have f. -/
def cntR (f : Nat → Bool) (m : Nat) : Nat := ((List.range m).filter f).length
theorem cntR_succ (f : Nat → Bool) (m : Nat) : cntR f (m + 1) = cntR f m + if f m = true then 1 else 0 := by
  unfold cntR
  rw [List.range_succ, List.filter_append, List.length_append]
  cases h : f m <;> simp [h]
theorem cntR_add (f : Nat → Bool) (a b : Nat) : cntR f (a + b) = cntR f a + cntR (fun x => f (a + x)) b := by
  induction b with
  | zero => rfl
  | succ b ih => rw [← Nat.add_assoc, cntR_succ, ih, cntR_succ, Nat.add_assoc]
theorem cntR_congr {f g : Nat → Bool} {m : Nat} (h : ∀ x, x < m → f x = g x) : cntR f m = cntR g m := by
  unfold cntR
  rw [List.filter_congr fun x hx => h x (List.mem_range.1 hx)]
theorem cntR_four (f : Nat → Bool) : cntR f 4 = (if f 0 = true then 1 else 0) + ((if f 1 = true then 1 else 0) + ((if f 2 = true then 1 else 0) + (if f 3 = true then 1 else 0))) := by
  show ((List.range 4).filter f).length = _
  rw [show List.range 4 = [0, 1, 2, 3] from rfl]
  cases h0 : f 0 <;> cases h1 : f 1 <;> cases h2 : f 2 <;> cases h3 : f 3 <;> simp [List.filter, h0, h1, h2, h3]
theorem cntR_none (m : Nat) : cntR (fun _ => false) m = 0 := by simp [cntR]
/-- g holds at each pair of bits. -/
def allP (g : Bool → Bool → Bool) (n x : Nat) : Bool := (List.range n).all fun i => g (x.testBit (2 * i)) (x.testBit (2 * i + 1))
theorem allP_succ (g : Bool → Bool → Bool) (n x : Nat) : allP g (n + 1) x = (allP g n x && g (x.testBit (2 * n)) (x.testBit (2 * n + 1))) := by
  unfold allP; rw [List.range_succ, List.all_append]; simp
theorem allP_low (g : Bool → Bool → Bool) (n a x : Nat) : allP g n (2 ^ (2 * n) * a + x % 2 ^ (2 * n)) = allP g n (x % 2 ^ (2 * n)) := by
  have hx : x % 2 ^ (2 * n) < 2 ^ (2 * n) := Nat.mod_lt _ (Nat.two_pow_pos _)
  unfold allP
  rw [Bool.eq_iff_iff, List.all_eq_true, List.all_eq_true]
  refine forall_congr' fun i => ⟨fun h hi => ?_, fun h hi => ?_⟩
  all_goals
    have hin := List.mem_range.1 hi
    have := h hi
    rw [Nat.testBit_two_pow_mul_add _ hx, Nat.testBit_two_pow_mul_add _ hx, if_pos (by omega), if_pos (by omega)] at *
    exact this
theorem allP_at (g : Bool → Bool → Bool) (n a x : Nat) (hx : x < 2 ^ (2 * n)) : allP g (n + 1) (2 ^ (2 * n) * a + x) = (allP g n x && g (a.testBit 0) (a.testBit 1)) := by
  rw [allP_succ]
  have h1 := allP_low g n a x
  rw [Nat.mod_eq_of_lt hx] at h1
  rw [h1, Nat.testBit_two_pow_mul_add _ hx, Nat.testBit_two_pow_mul_add _ hx, if_neg (by omega), if_neg (by omega), Nat.sub_self, show 2 * n + 1 - 2 * n = 1 by omega]
def ways (g : Bool → Bool → Bool) : Nat := cntR (fun a => g (a.testBit 0) (a.testBit 1)) 4
theorem cntR_and (f : Nat → Bool) (b : Bool) (m : Nat) : cntR (fun x => f x && b) m = cntR f m * if b = true then 1 else 0 := by
  cases b with
  | true => simp
  | false => simp [cntR_none]
theorem cnt_allP (g : Bool → Bool → Bool) (n : Nat) : cntR (allP g n) (2 ^ (2 * n)) = ways g ^ n := by
  induction n with
  | zero => rfl
  | succ n ih =>
    have hm : 2 ^ (2 * (n + 1)) = 2 ^ (2 * n) + (2 ^ (2 * n) + (2 ^ (2 * n) + 2 ^ (2 * n))) := by
      rw [show 2 * (n + 1) = 2 * n + 2 by omega, Nat.pow_add]; omega
    have key : ∀ a, cntR (fun x => allP g (n + 1) (2 ^ (2 * n) * a + x)) (2 ^ (2 * n)) = ways g ^ n * if g (a.testBit 0) (a.testBit 1) = true then 1 else 0 := fun a => by
      rw [cntR_congr fun x hx => allP_at g n a x hx, cntR_and, ih]
    have k0 := key 0
    have k1 := key 1
    have k2 := key 2
    have k3 := key 3
    have e0 : ∀ x, 2 ^ (2 * n) * 0 + x = x := fun x => by omega
    have e1 : ∀ x, 2 ^ (2 * n) * 1 + x = 2 ^ (2 * n) + x := fun x => by omega
    have e2 : ∀ x, 2 ^ (2 * n) * 2 + x = 2 ^ (2 * n) + (2 ^ (2 * n) + x) := fun x => by omega
    have e3 : ∀ x, 2 ^ (2 * n) * 3 + x = 2 ^ (2 * n) + (2 ^ (2 * n) + (2 ^ (2 * n) + x)) := fun x => by omega
    simp only [e0] at k0
    simp only [e1] at k1
    simp only [e2] at k2
    simp only [e3] at k3
    rw [hm, cntR_add, cntR_add, cntR_add, k1, k2, k3]
    rw [show cntR (allP g (n + 1)) (2 ^ (2 * n)) = _ from k0]
    have hw : ways g = (if g (Nat.testBit 0 0) (Nat.testBit 0 1) = true then 1 else 0) + ((if g (Nat.testBit 1 0) (Nat.testBit 1 1) = true then 1 else 0) + ((if g (Nat.testBit 2 0) (Nat.testBit 2 1) = true then 1 else 0) + (if g (Nat.testBit 3 0) (Nat.testBit 3 1) = true then 1 else 0))) := by
      exact cntR_four _
    rw [Nat.pow_succ, ← Nat.mul_add, ← Nat.mul_add, ← Nat.mul_add, ← hw]
theorem pair_and (a b x : Nat) : ((bit a ||| bit b) &&& x != 0) = (x.testBit a || x.testBit b) := by
  rw [Bool.eq_iff_iff, bne_iff_ne, Bool.or_eq_true]
  constructor
  · intro h
    obtain ⟨i, h1, h2⟩ := hit_bit h
    unfold bit at h1
    rw [Nat.testBit_or, Nat.testBit_two_pow, Nat.testBit_two_pow, Bool.or_eq_true, decide_eq_true_eq, decide_eq_true_eq] at h1
    rcases h1 with rfl | rfl
    · exact .inl h2
    · exact .inr h2
  · intro h e
    rcases h with h | h
    · have : ((bit a ||| bit b) &&& x).testBit a = true := by unfold bit; simp [Nat.testBit_or, Nat.testBit_two_pow, h]
      rw [e, Nat.zero_testBit] at this; cases this
    · have : ((bit a ||| bit b) &&& x).testBit b = true := by unfold bit; simp [Nat.testBit_or, Nat.testBit_two_pow, h]
      rw [e, Nat.zero_testBit] at this; cases this
theorem pairs_hit (n x : Nat) : hit (pairsW n) x = allP (fun a b => a || b) n x := by
  unfold hit pairsW allP
  rw [List.all_map]
  refine congrArg (fun f => (List.range n).all f) (funext fun i => ?_)
  exact pair_and _ _ _
theorem pairs_irr (n x : Nat) : (hit (pairsW n) x && irr (pairsW n) (2 * n) x) = allP (fun a b => a != b) n x := by
  rw [Bool.eq_iff_iff, Bool.and_eq_true, pairs_hit]
  unfold irr
  have ha : ∀ i j, (andn x (bit i)).testBit j = (x.testBit j && !decide (i = j)) := fun i j => by
    rw [andn_test]; unfold bit; rw [Nat.testBit_two_pow]
  constructor
  · rintro ⟨h1, h2⟩
    unfold allP at h1 ⊢
    rw [List.all_eq_true] at h1 h2 ⊢
    intro i hi
    have hin := List.mem_range.1 hi
    have q1 := h1 i hi
    have q2 := h2 (2 * i) (List.mem_range.2 (by omega))
    cases ha0 : x.testBit (2 * i) with
    | false => rw [ha0] at q1; simpa using q1
    | true =>
      cases hb0 : x.testBit (2 * i + 1) with
      | false => rfl
      | true =>
        exfalso
        rw [ha0, Bool.true_and, Bool.not_eq_true', pairs_hit, Bool.eq_false_iff] at q2
        refine q2 (List.all_eq_true.2 fun j hj => ?_)
        rw [ha, ha]
        have q3 := h1 j hj
        by_cases hji : j = i
        · subst hji; simp [hb0]
        · rw [decide_eq_false (show ¬ 2 * i = 2 * j by omega), decide_eq_false (show ¬ 2 * i = 2 * j + 1 by omega)]
          simpa using q3
  · intro h
    unfold allP at h ⊢
    rw [List.all_eq_true] at h
    refine ⟨List.all_eq_true.2 fun i hi => ?_, List.all_eq_true.2 fun j hj => ?_⟩
    · have q := h i hi
      cases ha0 : x.testBit (2 * i) <;> cases hb0 : x.testBit (2 * i + 1) <;> simp_all
    · have hjn := List.mem_range.1 hj
      cases hb : x.testBit j with
      | false => rfl
      | true =>
        rw [Bool.true_and, Bool.not_eq_true', pairs_hit, Bool.eq_false_iff]
        intro hc
        have q1 := List.all_eq_true.1 hc (j / 2) (List.mem_range.2 (by omega))
        have q2 := h (j / 2) (List.mem_range.2 (by omega))
        rw [ha, ha] at q1
        rcases Nat.mod_two_eq_zero_or_one j with hm | hm
        · rw [show 2 * (j / 2) = j by omega] at q1 q2
          rw [hb] at q1 q2
          rw [decide_eq_true rfl, decide_eq_false (show ¬ j = j + 1 by omega)] at q1
          cases hx1 : x.testBit (j + 1) with
          | false => rw [hx1] at q1; simp at q1
          | true => rw [hx1] at q2; simp at q2
        · rw [show 2 * (j / 2) + 1 = j by omega] at q1 q2
          rw [hb] at q1 q2
          rw [decide_eq_true rfl, decide_eq_false (show ¬ j = 2 * (j / 2) by omega)] at q1
          cases hx1 : x.testBit (2 * (j / 2)) with
          | false => rw [hx1] at q1; simp at q1
          | true => rw [hx1] at q2; simp at q2
theorem pairs_count (n : Nat) : (allF (pairsW n) (2 * n)).2 = 3 ^ n := by
  rw [allF_count]
  have := cnt_allP (fun a b => a || b) n
  rw [show ways (fun a b => a || b) = 3 from rfl] at this
  rw [← this, ← cntR_congr fun x _ => pairs_hit n x]
  rfl
theorem pairs_lists (n : Nat) : (allF (pairsW n) (2 * n)).1.length = 2 ^ n := by
  rw [allF_len]
  have := cnt_allP (fun a b => a != b) n
  rw [show ways (fun a b => a != b) = 2 from rfl] at this
  rw [← this, ← cntR_congr fun x _ => pairs_irr n x]
  rfl
end Hit
end Go.Proofs.YthgjhfapnilfhaaDoor
