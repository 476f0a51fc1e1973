/- Walks over checker: Cover.covered. Plain: what checker asks of a problem and what covering asks are the same. -/
import Derived.Test.YtnpdoejjebgcpaaQd
import Derived.Test.YtnpdoejjebgcpaaCa
import Derived.Test.YtnpdoejjebgcpaaPx
import Derived.Test.YtnpdoejjebgcpaaPy
import Derived.Test.YtnpdoejjebgcpaaNetPlain
namespace Go.Proofs.Ytnpdoejjebgcpaa
open Go Go.RowKit
theorem union_take (ws : List Nat) (sel k : Nat) (hk : k < ws.length) : Hit.unionW (ws.take (k + 1)) sel = if sel.testBit k then Hit.unionW (ws.take k) sel ||| ws[k] else Hit.unionW (ws.take k) sel := Nat.eq_of_testBit_eq fun b => by
  have hg : ∀ i, i < k → (ws.take (k + 1)).getD i 0 = (ws.take k).getD i 0 := fun i hi => by
    rw [List.getD_eq_getElem?_getD, List.getD_eq_getElem?_getD, List.getElem?_take_of_lt (by omega), List.getElem?_take_of_lt hi]
  have hl : (ws.take (k + 1)).length = k + 1 := by simp; omega
  have hl2 : (ws.take k).length = k := by simp; omega
  have hk1 : (ws.take (k + 1)).getD k 0 = ws[k] := by rw [List.getD_eq_getElem?_getD, List.getElem?_take_of_lt (by omega), List.getElem?_eq_getElem hk]; rfl
  have e : (Hit.unionW (ws.take (k + 1)) sel).testBit b = ((Hit.unionW (ws.take k) sel).testBit b || (sel.testBit k && ws[k].testBit b)) := by
    rw [Hit.unionW_test, Hit.unionW_test, hl, hl2, List.range_succ, List.any_append]
    simp only [List.any_cons, List.any_nil, Bool.or_false, hk1]
    congr 1
    rw [Bool.eq_iff_iff, List.any_eq_true, List.any_eq_true]
    constructor
    · rintro ⟨i, hi, h⟩; exact ⟨i, hi, by rwa [hg i (List.mem_range.1 hi)] at h⟩
    · rintro ⟨i, hi, h⟩; exact ⟨i, hi, by rwa [hg i (List.mem_range.1 hi)]⟩
  rw [e]
  cases h : sel.testBit k
  · simp
  · simp [Nat.testBit_or]
end Go.Proofs.Ytnpdoejjebgcpaa
namespace Go.Proofs.Ytnpdoejjebgcpaa
open Go Go.RowKit
/-- A right problem, as checker asks for it. -/
def probC (n : Int) (L : List (List Int)) (cs : List Int) : Bool := decide (0 ≤ n ∧ n ≤ 40) && (decide (L.length ≤ 40) && (decide (cs.length = L.length) && (withinB 1 1000000 cs && !(L.any fun l => !decide (Hit.listF n l = 0)))))
theorem setsV_zero (n : Int) : ∀ ls, setsV n ls = 0 ↔ ∀ s ∈ ls, Hit.listF n s.1 = 0 ∧ 1 ≤ s.2 ∧ s.2 ≤ 1000000
  | [] => by simp [setsV]
  | s :: r => by
    rw [setsV_cons, List.forall_mem_cons, ← setsV_zero n r]
    by_cases h1 : riseF n s.1 = 0
    · rw [if_neg (by simpa using h1)]
      have h1' := (rise_zero _ _).1 h1
      by_cases h2 : s.2 < 1 ∨ s.2 > 1000000
      · rw [if_pos h2]
        constructor
        · intro h; cases h
        · rintro ⟨⟨_, h3, h4⟩, _⟩; omega
      · rw [if_neg h2]
        constructor
        · intro h; exact ⟨⟨h1', by omega, by omega⟩, h⟩
        · rintro ⟨_, h⟩; exact h
    · rw [if_pos h1]
      constructor
      · intro h; exact absurd h h1
      · rintro ⟨⟨h3, _⟩, _⟩; exact absurd ((rise_zero _ _).2 h3) h1
theorem probC_same (n : Int) (ls : List (List Int × Int)) : probC n (ls.map (·.1)) (ls.map (·.2)) = decide (checkV n ls = 0) := by
  rw [Bool.eq_iff_iff]
  unfold probC checkV withinB
  simp only [Bool.and_eq_true, decide_eq_true_eq, List.length_map, List.all_map, Bool.not_eq_true', List.any_map]
  by_cases h1 : n < 0
  · rw [if_pos h1]
    constructor
    · rintro ⟨h, _⟩; omega
    · intro h; cases h
  · rw [if_neg h1]
    by_cases h2 : n > 40 ∨ ls.length > 40
    · rw [if_pos h2]
      constructor
      · rintro ⟨h, h', _⟩; omega
      · intro h; cases h
    · rw [if_neg h2, setsV_zero]
      constructor
      · rintro ⟨_, _, _, h3, h4⟩ s hs
        have q1 := List.all_eq_true.1 h3 s hs
        have q2 : (!decide (Hit.listF n s.1 = 0)) = false := by
          rw [Bool.eq_false_iff]; intro h
          rw [Bool.eq_false_iff] at h4
          exact h4 (List.any_eq_true.2 ⟨s, hs, h⟩)
        simp at q1 q2
        exact ⟨q2, q1.1, q1.2⟩
      · intro h
        refine ⟨by omega, by omega, trivial, List.all_eq_true.2 fun s hs => ?_, ?_⟩
        · have := h s hs; simp; omega
        · rw [Bool.eq_false_iff]; intro h'
          obtain ⟨s, hs, hx⟩ := List.any_eq_true.1 h'
          have := (h s hs).1
          simp [this] at hx
theorem probC_more (n : Int) (L : List (List Int)) (cs : List Int) (x : Int) (h : cs.length = L.length) : probC n L (cs ++ [x]) = false := by
  unfold probC
  rw [decide_eq_false (show ¬ (cs ++ [x]).length = L.length by simp; omega)]
  simp
theorem covL_fst {ws : List Nat} {cs : List Int} (h : cs.length = ws.length) : (covL ws cs).map (·.1) = setsOf ws := by
  apply List.ext_getElem
  · rw [List.length_map, covL_length h, setsOf_length]
  · intro i h1 h2
    have hi : i < (covL ws cs).length := by simpa using h1
    have hi2 : i < ws.length := by rwa [covL_length h] at hi
    rw [List.getElem_map, covL_get h i hi, setsOf_get, getD_at ws i hi2]
theorem covL_snd {ws : List Nat} {cs : List Int} (h : cs.length = ws.length) : (covL ws cs).map (·.2) = cs := by
  apply List.ext_getElem
  · rw [List.length_map, covL_length h, h]
  · intro i h1 h2
    have hi : i < (covL ws cs).length := by simpa using h1
    rw [List.getElem_map, covL_get h i hi]
    show cs.getD i 0 = cs[i]
    rw [List.getD_eq_getElem?_getD, List.getElem?_eq_getElem h2]; rfl
/-- A list that increases is one of small numbers. -/
theorem list_nat {n : Nat} {l : List Int} (h : Hit.listF n l = 0) : ∃ ns : List Nat, l = Hit.ints ns ∧ Hit.Inc ns ∧ ∀ x ∈ ns, x < n := by
  obtain ⟨ns, h1, h2, h3⟩ := Hit.listF_ok h
  exact ⟨ns, h1, h2, fun x hx => by have := h3 x hx; omega⟩
end Go.Proofs.Ytnpdoejjebgcpaa
