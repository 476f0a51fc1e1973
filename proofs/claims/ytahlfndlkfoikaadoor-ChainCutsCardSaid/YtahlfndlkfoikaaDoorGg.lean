/- Plain: the least set of couplers without which a contact is not reached is the least cut. -/
import Derived.Test.YtahlfndlkfoikaaDoorEl
namespace Go.Proofs.YtahlfndlkfoikaaDoor
namespace Cha
/-- Lists of so many members, in order. -/
def combI (on : List Nat) : Nat → Nat → List (List Nat)
  | 0, _ => [[]]
  | left + 1, i => (List.range (on.length + 1 - (i + (left + 1)))).flatMap fun j => (combI on left (i + j + 1)).map (on.getD (i + j) 0 :: ·)
theorem skF_find (R : Nat → Bool) (on : List Nat) : ∀ (left i wo : Nat), skF R on left i wo = (combI on left i).find? fun l => !R (orL l wo)
  | 0, _, wo => by
    rw [skF, combI]
    cases h : R wo <;> simp [orL, h]
  | left + 1, i, wo => by
    rw [skF, combI, List.find?_flatMap]
    congr 1
    funext j
    rw [skF_find R on left, List.find?_map]
    rfl
/-- All lists of members, the shorter ones first. -/
def combA (on : List Nat) : List (List Nat) := (List.range on.length).flatMap fun n => combI on (n + 1) 0
theorem cutL_find (R : Nat → Bool) (on : List Nat) : cutL R on = (combA on).find? fun l => !R (orL l 0) := by
  unfold cutL combA
  rw [List.find?_flatMap]
  congr 1
  funext n
  exact skF_find R on (n + 1) 0 0
/-- The number of bits. -/
def sizeF : Nat → Nat → Nat
  | 0, _ => 0
  | f + 1, n => if n = 0 then 0 else n % 2 + sizeF f (n / 2)
/-- Does a set come first among those of its size? -/
def firstF (a b : Nat) : Bool := (a &&& ((a ^^^ b) &&& ((18446744073709551616 - (a ^^^ b)) % 18446744073709551616))) != 0
def ltB (s t : Nat) : Bool := decide (sizeF 64 s < sizeF 64 t) || (sizeF 64 s == sizeF 64 t && firstF s t)
def stepB (R : Nat → Bool) (dr best s : Nat) : Nat := if Hit.andn s dr ≠ 0 ∨ R s = true then best else if ltB s best = true then s else best
def bestF (R : Nat → Bool) (dr n : Nat) : Nat := (List.range n).foldl (stepB R dr) dr
theorem ltB_trans : ∀ a < 16, ∀ b < 16, ∀ c < 16, ltB a b = true → ltB b c = true → ltB a c = true := by decide +kernel
theorem comb_sets0 : ∀ dr < 16, ∀ s < 16, (s == 0 || Hit.andn s dr != 0 || (combA (Hit.members dr)).contains (Hit.members s)) = true := by decide +kernel
theorem comb_sets (dr : Nat) (h : dr < 16) (s : Nat) (hs : s < 16) (h0 : s ≠ 0) (ha : Hit.andn s dr = 0) : Hit.members s ∈ combA (Hit.members dr) := by
  have := comb_sets0 dr h s hs
  simpa [h0, ha] using this
theorem comb_or : ∀ s < 16, orL (Hit.members s) 0 = s := by decide +kernel
theorem comb_in : ∀ dr < 16, ∀ l ∈ combA (Hit.members dr), orL l 0 < 16 ∧ Hit.andn (orL l 0) dr = 0 ∧ Hit.members (orL l 0) = l := by decide +kernel
theorem comb_sorted : ∀ dr < 16, (combA (Hit.members dr)).Pairwise fun l m => ltB (orL l 0) (orL m 0) = true := by decide +kernel
theorem sub_lt16 : ∀ n ≤ 4, ∀ dr < 2 ^ n, ∀ s < 16, Hit.andn s dr = 0 → s < 2 ^ n := by decide +kernel
theorem best_inv (R : Nat → Bool) (dr n : Nat) (hn : n ≤ 4) (hd : dr < 2 ^ n) (hR : R dr = false) : ∀ m, m ≤ 2 ^ n →
    (bestF R dr m < 2 ^ n ∧ Hit.andn (bestF R dr m) dr = 0 ∧ R (bestF R dr m) = false) ∧ ∀ s, s < m → Hit.andn s dr = 0 → R s = false → s = bestF R dr m ∨ ltB s (bestF R dr m) = false
  | 0, _ => ⟨⟨hd, by unfold bestF Hit.andn; simp, hR⟩, fun s h => absurd h (by omega)⟩
  | m + 1, hm => by
    have h16 : (2 : Nat) ^ n ≤ 16 := Nat.pow_le_pow_right (by decide) hn
    obtain ⟨⟨i1, i2, i3⟩, i4⟩ := best_inv R dr n hn hd hR m (by omega)
    have hs : bestF R dr (m + 1) = stepB R dr (bestF R dr m) m := by unfold bestF; rw [List.range_succ, List.foldl_append]; rfl
    rw [hs]
    generalize bestF R dr m = b at *
    unfold stepB
    by_cases h1 : Hit.andn m dr ≠ 0 ∨ R m = true
    · rw [if_pos h1]
      refine ⟨⟨i1, i2, i3⟩, fun s h q1 q2 => ?_⟩
      by_cases e : s = m
      · subst e
        rcases h1 with h1 | h1
        · exact absurd q1 h1
        · rw [q2] at h1; cases h1
      · exact i4 s (by omega) q1 q2
    · rw [if_neg h1]
      have hm1 : Hit.andn m dr = 0 := Classical.byContradiction fun h => h1 (.inl h)
      have hm2 : R m = false := by cases h : R m with | false => rfl | true => exact absurd (.inr h) h1
      by_cases h2 : ltB m b = true
      · rw [if_pos h2]
        refine ⟨⟨by omega, hm1, hm2⟩, fun s h q1 q2 => ?_⟩
        by_cases e : s = m
        · exact .inl e
        · refine .inr ?_
          cases h3 : ltB s m with
          | false => rfl
          | true =>
            have h4 := ltB_trans s (by omega) m (by omega) b (by omega) h3 h2
            rcases i4 s (by omega) q1 q2 with h | h
            · subst h
              have : ∀ a < 16, ltB a a = false := by decide +kernel
              rw [this s (by omega)] at h4; cases h4
            · rw [h] at h4; cases h4
      · rw [if_neg h2]
        refine ⟨⟨i1, i2, i3⟩, fun s h q1 q2 => ?_⟩
        by_cases e : s = m
        · subst e
          exact .inr (by cases h : ltB s b with | false => rfl | true => exact absurd h h2)
        · exact i4 s (by omega) q1 q2
/-- The least set is the least cut. -/
theorem cut_best (R : Nat → Bool) (dr n : Nat) (hn : n ≤ 4) (hd : dr < 2 ^ n) (hR : R dr = false) (h0 : R 0 = true) :
    cutL R (Hit.members dr) = some (Hit.members (bestF R dr (2 ^ n))) ∧ bestF R dr (2 ^ n) < 2 ^ n := by
  have h16 : (2 : Nat) ^ n ≤ 16 := Nat.pow_le_pow_right (by decide) hn
  obtain ⟨⟨i1, i2, i3⟩, i4⟩ := best_inv R dr n hn hd hR (2 ^ n) (Nat.le_refl _)
  generalize bestF R dr (2 ^ n) = b at *
  refine ⟨?_, i1⟩
  have hb0 : b ≠ 0 := fun e => by rw [e, h0] at i3; cases i3
  have hmem := comb_sets dr (by omega) b (by omega) hb0 i2
  have hor := comb_or b (by omega)
  rw [cutL_find]
  cases hf : (combA (Hit.members dr)).find? fun l => !R (orL l 0) with
  | none =>
    have := List.find?_eq_none.1 hf _ hmem
    rw [hor, i3] at this
    exact absurd rfl this
  | some l =>
    obtain ⟨hp, as_, bs, he, hn'⟩ := List.find?_eq_some_iff_append.1 hf
    have hl := comb_in dr (by omega) l (by rw [he]; simp)
    have hlR : R (orL l 0) = false := by simpa using hp
    have hll := sub_lt16 n hn dr hd _ hl.1 hl.2.1
    congr 1
    rw [he, List.mem_append, List.mem_cons] at hmem
    rcases hmem with h | h | h
    · have := hn' _ h
      rw [hor, i3] at this
      cases this
    · exact h.symm
    · have hs := comb_sorted dr (by omega)
      rw [he, List.pairwise_append] at hs
      have h5 := (List.pairwise_cons.1 hs.2.1).1 _ h
      rw [hor] at h5
      rcases i4 _ hll hl.2.1 hlR with h6 | h6
      · rw [← h6, hl.2.2]
      · rw [h6] at h5; cases h5
theorem size_len : ∀ s < 16, (Hit.members s).length = sizeF 64 s := by decide +kernel
theorem size_le : ∀ (f n : Nat), sizeF f n ≤ f
  | 0, _ => Nat.le_refl _
  | f + 1, n => by
    rw [sizeF]
    by_cases h : n = 0
    · rw [if_pos h]; omega
    · rw [if_neg h]
      have := size_le f (n / 2)
      omega
/-- Where a member stands. -/
theorem mem_at : ∀ b < 16, ∀ i < 4, (!b.testBit i || (Hit.members b)[((List.range i).filter fun j => b.testBit j).length]? == some i) = true := by decide +kernel
theorem mem_get {b i : Nat} (hb : b < 16) (hi : i < 4) (h : b.testBit i = true) : (Hit.members b)[((List.range i).filter fun j => b.testBit j).length]? = some i := by
  have := mem_at b hb i hi
  rw [h] at this
  simpa using this
theorem rng_succ (b i : Nat) : ((List.range (i + 1)).filter fun j => b.testBit j).length = ((List.range i).filter fun j => b.testBit j).length + (if b.testBit i = true then 1 else 0) := by
  rw [List.range_succ, List.filter_append, List.length_append]
  cases h : b.testBit i <;> simp [h]
end Cha
end Go.Proofs.YtahlfndlkfoikaaDoor
