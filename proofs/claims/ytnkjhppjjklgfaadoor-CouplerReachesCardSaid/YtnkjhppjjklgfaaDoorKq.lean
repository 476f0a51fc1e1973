/- Plain: a contact is put into a list in order. -/
import Derived.Test.YtnkjhppjjklgfaaDoorKp
namespace Go.Proofs.YtnkjhppjjklgfaaDoor
open Go Go.RowKit
namespace Cou
instance (a b : Ct) : Decidable (lt a b) := by unfold lt; infer_instance
/-- How many contacts come before c. -/
def posF : List Ct → Ct → Nat
  | [], _ => 0
  | x :: l, c => if lt x c then posF l c + 1 else 0
theorem posF_le : ∀ (l : List Ct) (c : Ct), posF l c ≤ l.length
  | [], _ => Nat.le_refl _
  | x :: l, c => by
    unfold posF
    split
    · have := posF_le l c; simp; omega
    · exact Nat.zero_le _
theorem posF_step : ∀ (l : List Ct) (c : Ct) (k : Nat) (h : k < l.length), k < posF l c → lt l[k] c
  | [], _, _, h, _ => absurd h (by simp)
  | x :: l, c, 0, h, hk => by
    unfold posF at hk
    split at hk
    · assumption
    · omega
  | x :: l, c, k + 1, h, hk => by
    unfold posF at hk
    split at hk
    · exact posF_step l c k (by simpa using h) (by omega)
    · omega
theorem posF_end : ∀ (l : List Ct) (c : Ct) (h : posF l c < l.length), ¬ lt (l[posF l c]'h) c
  | [], _, h => absurd h (by simp [posF])
  | x :: l, c, h => by
    by_cases hx : lt x c
    · have e : posF (x :: l) c = posF l c + 1 := by rw [posF, if_pos hx]
      simp only [e, List.getElem_cons_succ]
      exact posF_end l c (by rw [e] at h; simpa using h)
    · have e : posF (x :: l) c = 0 := by rw [posF, if_neg hx]
      simp only [e, List.getElem_cons_zero]
      exact hx
/-- The list with c at its place. -/
def addF (l : List Ct) (c : Ct) : List Ct := if l[posF l c]? = some c then l else l.take (posF l c) ++ [c] ++ l.drop (posF l c)
theorem posF_mem {l : List Ct} {c : Ct} (h : Srt l) (hc : c ∈ l) : l[posF l c]? = some c := by
  induction l with
  | nil => simp at hc
  | cons x l ih =>
    have h' := List.pairwise_cons.1 h
    by_cases hx : lt x c
    · have e : posF (x :: l) c = posF l c + 1 := by rw [posF, if_pos hx]
      rw [e, List.getElem?_cons_succ]
      refine ih h'.2 ?_
      rcases List.mem_cons.1 hc with e2 | e2
      · subst e2; exact absurd hx (lt_irrefl c)
      · exact e2
    · have e : posF (x :: l) c = 0 := by rw [posF, if_neg hx]
      rw [e]
      rcases List.mem_cons.1 hc with e2 | e2
      · subst e2; rfl
      · exact absurd (h'.1 c e2) hx
theorem addF_iff {l : List Ct} {c : Ct} (h : Srt l) : l[posF l c]? = some c ↔ c ∈ l := ⟨fun e => List.mem_of_getElem? e, posF_mem h⟩
theorem addF_mem {l : List Ct} {c x : Ct} : x ∈ addF l c ↔ x ∈ l ∨ x = c := by
  unfold addF
  split
  · rename_i e
    constructor
    · intro h; exact .inl h
    · rintro (h | rfl)
      · exact h
      · exact List.mem_of_getElem? e
  · rw [List.mem_append, List.mem_append, List.mem_singleton]
    constructor
    · rintro ((h | h) | h)
      · exact .inl (List.mem_of_mem_take h)
      · exact .inr h
      · exact .inl (List.mem_of_mem_drop h)
    · rintro (h | h)
      · rw [← List.take_append_drop (posF l c) l, List.mem_append] at h
        rcases h with h | h
        · exact .inl (.inl h)
        · exact .inr h
      · exact .inl (.inr h)
theorem take_lt : ∀ (l : List Ct) (c x : Ct), x ∈ l.take (posF l c) → lt x c
  | [], _, _, h => by simp at h
  | y :: l, c, x, h => by
    by_cases hy : lt y c
    · rw [posF, if_pos hy, List.take_succ_cons] at h
      rcases List.mem_cons.1 h with e | e
      · subst e; exact hy
      · exact take_lt l c x e
    · rw [posF, if_neg hy] at h; simp at h
theorem drop_gt : ∀ (l : List Ct) (c : Ct), Srt l → c ∉ l → ∀ x ∈ l.drop (posF l c), lt c x
  | [], _, _, _, x, h => by simp at h
  | y :: l, c, hs, hn, x, h => by
    have hs' := List.pairwise_cons.1 hs
    by_cases hy : lt y c
    · rw [posF, if_pos hy, List.drop_succ_cons] at h
      exact drop_gt l c hs'.2 (fun e => hn (by simp [e])) x h
    · rw [posF, if_neg hy, List.drop_zero] at h
      have hcy : lt c y := by
        rcases lt_tri y c with e | e | e
        · exact absurd e hy
        · subst e; exact absurd (by simp) hn
        · exact e
      rcases List.mem_cons.1 h with e | e
      · subst e; exact hcy
      · exact lt_trans hcy (hs'.1 x e)
theorem addF_srt {l : List Ct} {c : Ct} (h : Srt l) : Srt (addF l c) := by
  unfold addF
  split
  · exact h
  · rename_i e
    have hn : c ∉ l := fun hc => e (posF_mem h hc)
    have h1 : Srt (l.take (posF l c)) := List.Pairwise.sublist (List.take_sublist _ _) h
    have h2 : Srt (l.drop (posF l c)) := List.Pairwise.sublist (List.drop_sublist _ _) h
    unfold Srt
    rw [List.append_assoc, List.pairwise_append]
    refine ⟨h1, List.pairwise_cons.2 ⟨fun x hx => drop_gt l c h hn x hx, h2⟩, fun a ha b hb => ?_⟩
    have hac := take_lt l c a ha
    rcases List.mem_append.1 hb with hb | hb
    · simp only [List.mem_singleton] at hb; subst hb; exact hac
    · exact lt_trans hac (drop_gt l c h hn b hb)
end Cou
end Go.Proofs.YtnkjhppjjklgfaaDoor
