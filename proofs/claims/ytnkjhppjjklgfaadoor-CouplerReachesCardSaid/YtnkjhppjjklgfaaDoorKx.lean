/- Plain: the reference's reach, loop by loop. -/
import Derived.Test.YtnkjhppjjklgfaaDoorKq
namespace Go.Proofs.YtnkjhppjjklgfaaDoor
open Go Go.RowKit
namespace Cou
theorem stepF_none {a : Ac} {i : Nat} (h : a.cps.length ≤ i) (c : Ct) : stepF a i c = none := by
  unfold stepF; rw [List.getElem?_eq_none h]
/-- Whether a contact is new to a list. -/
def newF (l : List Ct) (c : Ct) : Bool := decide (l[posF l c]? ≠ some c)
theorem newF_false {l : List Ct} {c : Ct} (h : newF l c = false) : c ∈ l ∧ addF l c = l := by
  unfold newF at h
  have h1 : l[posF l c]? = some c := by
    have := of_decide_eq_false h
    exact Classical.not_not.1 this
  exact ⟨List.mem_of_getElem? h1, by unfold addF; rw [if_pos h1]⟩
theorem newF_true {l : List Ct} {c : Ct} (h : newF l c = true) : (addF l c).length = l.length + 1 := by
  have h1 := of_decide_eq_true h
  unfold addF
  rw [if_neg h1]
  have := posF_le l c
  simp only [List.length_append, List.length_take, List.length_drop, List.length_cons, List.length_nil]
  omega
/-- The reference's list behind i couplers. -/
structure R1 (a : Ac) (c : Ct) (i : Nat) (l : List Ct) : Prop where
  srt : Srt l
  hop : ∀ t ∈ l, Hop a [c] t
  has : ∀ j t, j < i → a.drawn.testBit j = true → stepF a j c = some t → t ∈ l
theorem R1.start (a : Ac) (c : Ct) : R1 a c 0 [] := ⟨List.Pairwise.nil, by simp, fun j t h => absurd h (by omega)⟩
theorem R1.skip {a : Ac} {c : Ct} {i : Nat} {l : List Ct} (h : R1 a c i l) (hn : ∀ t, a.drawn.testBit i = true → stepF a i c ≠ some t) : R1 a c (i + 1) l := ⟨h.srt, h.hop, fun j t hj hb hs => by
  by_cases e : j = i
  · subst e; exact absurd hs (hn t hb)
  · exact h.has j t (by omega) hb hs⟩
theorem R1.add {a : Ac} {c t : Ct} {i : Nat} {l : List Ct} (h : R1 a c i l) (hb : a.drawn.testBit i = true) (hs : stepF a i c = some t) : R1 a c (i + 1) (addF l t) := ⟨addF_srt h.srt, fun x hx => by
  rcases addF_mem.1 hx with e | rfl
  · exact h.hop x e
  · exact .first (by simp) hb hs, fun j x hj hbx hsx => by
  by_cases e : j = i
  · subst e
    rw [hs] at hsx
    injection hsx with hsx
    exact addF_mem.2 (.inr hsx.symm)
  · exact addF_mem.2 (.inl (h.has j x (by omega) hbx hsx))⟩
/-- The list of a round of the outer loop. -/
abbrev R2 (a : Ac) (c : Ct) (l : List Ct) : Prop := R1 a c a.cps.length l
theorem R2.all {a : Ac} {c : Ct} {l : List Ct} (h : R2 a c l) : ∀ j t, a.drawn.testBit j = true → stepF a j c = some t → t ∈ l := fun j t hb hs => by
  by_cases e : j < a.cps.length
  · exact h.has j t e hb hs
  · rw [stepF_none (by omega)] at hs; cases hs
theorem R2.len {a : Ac} {c : Ct} {l : List Ct} (hok : Ok a) (h : R2 a c l) : l.length ≤ 1024 := cts_short hok h.srt.nodup fun x hx => (h.hop x hx).in_ hok
theorem R1.len {a : Ac} {c : Ct} {i : Nat} {l : List Ct} (hok : Ok a) (h : R1 a c i l) : l.length ≤ 1024 := cts_short hok h.srt.nodup fun x hx => (h.hop x hx).in_ hok
/-- The first k contacts are closed, and contact k under i couplers. -/
structure R3 (a : Ac) (c : Ct) (k i : Nat) (l : List Ct) : Prop where
  two : R2 a c l
  closed : ∀ m, m < k → ∀ x, l[m]? = some x → ∀ j t, a.drawn.testBit j = true → thruF a j = true → stepF a j x = some t → t ∈ l
  here : ∀ x, l[k]? = some x → ∀ j t, j < i → a.drawn.testBit j = true → thruF a j = true → stepF a j x = some t → t ∈ l
theorem R3.start {a : Ac} {c : Ct} {l : List Ct} (h : R2 a c l) : R3 a c 0 0 l := ⟨h, fun m hm => absurd hm (by omega), fun x _ j t hj => absurd hj (by omega)⟩
theorem R3.skip {a : Ac} {c x : Ct} {k i : Nat} {l : List Ct} (h : R3 a c k i l) (hx : l[k]? = some x) (hn : ∀ t, a.drawn.testBit i = true → thruF a i = true → stepF a i x = some t → t ∈ l) : R3 a c k (i + 1) l := ⟨h.two, h.closed, fun y hy j t hj hb ht hs => by
  by_cases e : j = i
  · subst e
    rw [hx] at hy
    injection hy with hy
    subst hy
    exact hn t hb ht hs
  · exact h.here y hy j t (by omega) hb ht hs⟩
theorem R3.next {a : Ac} {c : Ct} {k : Nat} {l : List Ct} (h : R3 a c k a.cps.length l) : R3 a c (k + 1) 0 l := ⟨h.two, fun m hm x hx j t hb ht hs => by
  by_cases e : m = k
  · subst e
    by_cases hj : j < a.cps.length
    · exact h.here x hx j t hj hb ht hs
    · rw [stepF_none (by omega)] at hs; cases hs
  · exact h.closed m (by omega) x hx j t hb ht hs, fun x _ j t hj => absurd hj (by omega)⟩
theorem R3.grow {a : Ac} {c x t : Ct} {k i : Nat} {l : List Ct} (h : R3 a c k i l) (hx : l[k]? = some x) (hb : a.drawn.testBit i = true) (ht : thruF a i = true) (hs : stepF a i x = some t) : R2 a c (addF l t) := ⟨addF_srt h.two.srt, fun y hy => by
  rcases addF_mem.1 hy with e | rfl
  · exact h.two.hop y e
  · exact .more (h.two.hop x (List.mem_of_getElem? hx)) hb ht hs, fun j y hj hbx hsx => addF_mem.2 (.inl (h.two.has j y hj hbx hsx))⟩
theorem R3.done {a : Ac} {c : Ct} {l : List Ct} (h : R3 a c l.length 0 l) (t : Ct) : t ∈ l ↔ Hop a [c] t :=
  ⟨h.two.hop t, fun ht => Hop.sub (fun p hp i t hb hs => by
    simp only [List.mem_singleton] at hp
    subst hp
    exact R2.all h.two i t hb hs) (fun x hx i t hb hth hs => by
    obtain ⟨m, hm, rfl⟩ := List.getElem_of_mem hx
    exact h.closed m hm _ (List.getElem?_eq_getElem hm) i t hb hth hs) ht⟩
end Cou
end Go.Proofs.YtnkjhppjjklgfaaDoor
