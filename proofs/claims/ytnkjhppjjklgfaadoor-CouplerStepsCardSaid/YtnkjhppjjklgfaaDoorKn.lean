/- Walks over coupler's statements: example, known. -/
import Derived.Test.YtnkjhppjjklgfaaDoorKm
namespace Go.Proofs.YtnkjhppjjklgfaaDoor
open Go Go.RowKit Go.Shelf
namespace Cou
/-- The action of the example. -/
def exA (thr : Bool) : Ac := ⟨[(36, 60), (36, 60)], [⟨⟨#[97]⟩, 0, 1, 0, false⟩, ⟨⟨#[98]⟩, 1, 1, 12, thr⟩], 3⟩
theorem ex_right (thr : Bool) : rightF (exA thr) = 0 := by cases thr <;> decide
theorem ex_bit {i : Nat} (h : (exA true).drawn.testBit i = true) : i = 0 ∨ i = 1 := by
  rcases Nat.lt_or_ge i 2 with q | q
  · omega
  · rw [show (exA true).drawn = 3 from rfl, Nat.testBit_lt_two_pow (Nat.lt_of_lt_of_le (show 3 < 2 ^ 2 by decide) (Nat.pow_le_pow_right (by decide) q))] at h
    cases h
theorem ex_bit' (thr : Bool) {i : Nat} (h : (exA thr).drawn.testBit i = true) : i = 0 ∨ i = 1 := ex_bit h
/-- What the reach is, where it holds the first steps and is closed. -/
theorem reach_eq {a : Ac} {c : Ct} {l L : List Ct} (hs : Srt l) (hm : ∀ t, t ∈ l ↔ Hop a [c] t) (hL : Srt L) (h0 : ∀ t ∈ L, Hop a [c] t) (h1 : ∀ i t, a.drawn.testBit i = true → stepF a i c = some t → t ∈ L) (h2 : ∀ x ∈ L, ∀ i t, a.drawn.testBit i = true → thruF a i = true → stepF a i x = some t → t ∈ L) : l = L :=
  hs.eq hL fun t => ⟨fun h => Hop.sub (fun p hp i t q1 q2 => by simp only [List.mem_singleton] at hp; subst hp; exact h1 i t q1 q2) h2 ((hm t).1 h), fun h => (hm t).2 (h0 t h)⟩
theorem ex_hop1 (thr : Bool) : Hop (exA thr) [(0, 40)] (1, 40) := .first (p := (0, 40)) (i := 0) (by simp) (by cases thr <;> rfl) (by cases thr <;> rfl)
theorem ex_reach1 {l : List Ct} (hs : Srt l) (hm : ∀ t, t ∈ l ↔ Hop (exA true) [(0, 40)] t) : l = [(1, 40), (1, 52)] := by
  refine reach_eq hs hm (by unfold Srt lt; simp) (fun t ht => ?_) (fun i t h1 h2 => ?_) (fun x hx i t h1 h2 h3 => ?_)
  · simp only [List.mem_cons, List.not_mem_nil, or_false] at ht
    rcases ht with rfl | rfl
    · exact ex_hop1 true
    · exact .more (i := 1) (ex_hop1 true) rfl rfl rfl
  · rcases ex_bit h1 with rfl | rfl
    · have e : stepF (exA true) 0 (0, 40) = some (1, 40) := rfl
      rw [e] at h2; injection h2 with h2; subst h2; simp
    · have e : stepF (exA true) 1 (0, 40) = none := rfl
      rw [e] at h2; cases h2
  · simp only [List.mem_cons, List.not_mem_nil, or_false] at hx
    rcases ex_bit h1 with rfl | rfl
    · rcases hx with rfl | rfl
      · have e : stepF (exA true) 0 (1, 40) = none := rfl
        rw [e] at h3; cases h3
      · have e : stepF (exA true) 0 (1, 52) = none := rfl
        rw [e] at h3; cases h3
    · rcases hx with rfl | rfl
      · have e : stepF (exA true) 1 (1, 40) = some (1, 52) := rfl
        rw [e] at h3; injection h3 with h3; subst h3; simp
      · have e : stepF (exA true) 1 (1, 52) = none := rfl
        rw [e] at h3; cases h3
theorem ex_reach2 {l : List Ct} (hs : Srt l) (hm : ∀ t, t ∈ l ↔ Hop (exA true) [(1, 50)] t) : l = [] := by
  refine reach_eq hs hm (by unfold Srt lt; simp) (fun t ht => by simp at ht) (fun i t h1 h2 => ?_) (fun x hx => by simp at hx)
  rcases ex_bit h1 with rfl | rfl
  · have e : stepF (exA true) 0 (1, 50) = none := rfl
    rw [e] at h2; cases h2
  · have e : stepF (exA true) 1 (1, 50) = none := rfl
    rw [e] at h2; cases h2
theorem ex_reach3 {l : List Ct} (hs : Srt l) (hm : ∀ t, t ∈ l ↔ Hop (exA false) [(0, 40)] t) : l = [(1, 40)] := by
  refine reach_eq hs hm (by unfold Srt lt; simp) (fun t ht => ?_) (fun i t h1 h2 => ?_) (fun x hx i t h1 h2 h3 => ?_)
  · simp only [List.mem_cons, List.not_mem_nil, or_false] at ht
    subst ht
    exact ex_hop1 false
  · rcases ex_bit' false h1 with rfl | rfl
    · have e : stepF (exA false) 0 (0, 40) = some (1, 40) := rfl
      rw [e] at h2; injection h2 with h2; subst h2; simp
    · have e : stepF (exA false) 1 (0, 40) = none := rfl
      rw [e] at h2; cases h2
  · rcases ex_bit' false h1 with rfl | rfl
    · cases h2
    · cases h2
theorem ex_to {pl : List Ct} {t : Ct} (h : Hop (exA true) pl t) : t.1 = 1 := by
  have hst : ∀ i c, (exA true).drawn.testBit i = true → stepF (exA true) i c = some t → t.1 = 1 := fun i c h1 h2 => by
    rcases ex_bit h1 with rfl | rfl
    all_goals
      unfold stepF exA at h2
      simp only [List.getElem?_cons_zero, List.getElem?_cons_succ] at h2
      split at h2
      · injection h2 with h2; subst h2; rfl
      · cases h2
  cases h with
  | first _ h2 h3 => exact hst _ _ h2 h3
  | more _ h2 _ h4 => exact hst _ _ h2 h4
end Cou
theorem ex_mat {M : List (List Bool)} (h : MatOk (Cou.exA true) M) : ∃ r0 r1 : List Bool, M = [r0, r1] ∧ r0 = [false, true] ∧ r1.length = 2 := by
  obtain ⟨h1, h2, h3⟩ := h
  have e2 : (Cou.exA true).divs.length = 2 := rfl
  rw [e2] at h1 h2
  obtain ⟨r0, r1, rfl⟩ : ∃ r0 r1, M = [r0, r1] := by
    match M, h1 with
    | [r0, r1], _ => exact ⟨r0, r1, rfl⟩
  have l0 := h2 r0 (by simp)
  have l1 := h2 r1 (by simp)
  refine ⟨r0, r1, rfl, ?_, l1⟩
  have g0 := h3 0 0
  have g1 := h3 0 1
  obtain ⟨x, y, rfl⟩ : ∃ x y, r0 = [x, y] := by
    match r0, l0 with
    | [x, y], _ => exact ⟨x, y, rfl⟩
  have hx : x = false := by
    cases hx : x with
    | false => rfl
    | true =>
      obtain ⟨c, _, _, t, ht, e⟩ := g0.1 (by unfold Cou.getM; simp [hx])
      have := Cou.ex_to ht
      rw [this] at e
      cases e
  have hy : y = true := by
    have := g1.2 ⟨(0, 40), by unfold Cou.InA; decide, rfl, (1, 40), Cou.ex_hop1 true, rfl⟩
    simpa [Cou.getM] using this
  rw [hx, hy]
end Go.Proofs.YtnkjhppjjklgfaaDoor
