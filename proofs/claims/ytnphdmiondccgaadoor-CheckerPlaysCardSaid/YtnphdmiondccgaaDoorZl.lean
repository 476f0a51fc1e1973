/- Plain: the notes of a set in order; a sorted row's width; feet, read from a sorted row; hands. -/
import Derived.Test.YtnphdmiondccgaaDoorZk
namespace Go.Proofs.YtnphdmiondccgaaDoor
open Go Go.RowKit
open Pop
theorem mem_eq (x : Nat) : Nt.mem x = (List.range 128).filter fun i => x.testBit i := by
  unfold Nt.mem Hit.members
  rw [show (128 : Nat) = 64 + 64 from rfl, List.range_add, List.filter_append, List.filter_map]
  congr 1
  · refine List.filter_congr fun i hi => ?_
    rw [Nt.lo_test]
    simp [List.mem_range.1 hi]
theorem mem_memI {x : Nat} {n : Int} : n ∈ memI x ↔ ∃ i : Nat, i < 128 ∧ x.testBit i = true ∧ (i : Int) = n := by
  unfold memI
  rw [mem_eq]
  simp only [List.mem_map, List.mem_filter, List.mem_range]
  exact ⟨fun ⟨i, ⟨h1, h2⟩, h3⟩ => ⟨i, h1, h2, h3⟩, fun ⟨i, h1, h2, h3⟩ => ⟨i, ⟨h1, h2⟩, h3⟩⟩
theorem memI_inc (x : Nat) : (memI x).Pairwise (· ≤ ·) := by
  unfold memI
  rw [mem_eq, List.pairwise_map]
  refine (List.Pairwise.filter _ List.pairwise_lt_range).imp fun {a b} h => ?_
  omega
theorem getD_eq {l : List Int} {i : Nat} (h : i < l.length) : l.getD i 0 = l[i] := by
  rw [List.getD_eq_getElem?_getD, List.getElem?_eq_getElem h]; rfl
theorem first_le {l : List Int} (h : l.Pairwise (· ≤ ·)) {x : Int} (hx : x ∈ l) : l.getD 0 0 ≤ x := by
  obtain ⟨i, hi, rfl⟩ := List.getElem_of_mem hx
  rw [getD_eq (by omega)]
  by_cases e : i = 0
  · subst e
    exact Int.le_refl _
  · exact List.pairwise_iff_getElem.1 h 0 i (by omega) hi (by omega)
theorem le_last {l : List Int} (h : l.Pairwise (· ≤ ·)) {x : Int} (hx : x ∈ l) : x ≤ l.getD (l.length - 1) 0 := by
  obtain ⟨i, hi, rfl⟩ := List.getElem_of_mem hx
  rw [getD_eq (by omega)]
  by_cases e : i = l.length - 1
  · subst e
    exact Int.le_refl _
  · exact List.pairwise_iff_getElem.1 h i (l.length - 1) hi (by omega) (by omega)
theorem ends_mem {l : List Int} (h : l ≠ []) (i : Nat) (hi : i < l.length ∨ i = 0 ∨ i = l.length - 1) : l.getD i 0 ∈ l := by
  have hp : 0 < l.length := List.length_pos_iff.2 h
  rw [getD_eq (by omega)]
  exact List.getElem_mem _
/-- Rows in order with the same members are equally wide. -/
theorem wid_eq {a b : List Int} (ha : a.Pairwise (· ≤ ·)) (hb : b.Pairwise (· ≤ ·)) (h : ∀ x, x ∈ a ↔ x ∈ b) : widF a = widF b := by
  by_cases e : a = []
  · subst e
    have : b = [] := List.eq_nil_iff_forall_not_mem.2 fun x hx => by simpa using (h x).2 hx
    rw [this]
  · have e' : b ≠ [] := fun q => by
      subst q
      exact e (List.eq_nil_iff_forall_not_mem.2 fun x hx => by simpa using (h x).1 hx)
    have a0 := ends_mem e 0 (.inr (.inl rfl))
    have a1 := ends_mem e (a.length - 1) (.inr (.inr rfl))
    have b0 := ends_mem e' 0 (.inr (.inl rfl))
    have b1 := ends_mem e' (b.length - 1) (.inr (.inr rfl))
    have h1 := first_le ha ((h _).2 b0)
    have h2 := first_le hb ((h _).1 a0)
    have h3 := le_last ha ((h _).2 b1)
    have h4 := le_last hb ((h _).1 a1)
    unfold widF
    omega
theorem foldl_lor_test (i : Nat) : ∀ (l : List Nat) (a : Nat), (l.foldl Nat.lor a).testBit i = (a.testBit i || l.any fun x => x.testBit i)
  | [], a => by simp
  | x :: r, a => by
    rw [List.foldl_cons, foldl_lor_test i r, List.any_cons]
    show (Nat.testBit (a ||| x) i || _) = _
    rw [Nat.testBit_or, Bool.or_assoc]
theorem mem_un {l : List Nat} {n : Int} : n ∈ memI (unF l) ↔ ∃ x ∈ l, n ∈ memI x := by
  unfold unF
  rw [mem_memI]
  simp only [foldl_lor_test, Nat.zero_testBit, Bool.false_or, List.any_eq_true]
  constructor
  · rintro ⟨i, h1, ⟨x, hx, h2⟩, h3⟩
    exact ⟨x, hx, mem_memI.2 ⟨i, h1, h2, h3⟩⟩
  · rintro ⟨x, hx, h⟩
    obtain ⟨i, h1, h2, h3⟩ := mem_memI.1 h
    exact ⟨i, h1, ⟨x, hx, h2⟩, h3⟩
/-- The notes of some sets, one behind the other. -/
def flatI (l : List Nat) : List Int := (l.map memI).flatten
theorem flatI_len : ∀ l : List Nat, (flatI l).length = cntF l
  | [] => rfl
  | x :: r => by
    have h := flatI_len r
    unfold flatI cntF at *
    rw [List.map_cons, List.flatten_cons, List.length_append, List.map_cons, List.sum_cons, h]
    unfold memI
    rw [List.length_map]
theorem mem_flatI {l : List Nat} {n : Int} : n ∈ flatI l ↔ ∃ x ∈ l, n ∈ memI x := by
  unfold flatI
  simp only [List.mem_flatten, List.mem_map]
  exact ⟨fun ⟨_, ⟨x, hx, e⟩, hn⟩ => ⟨x, hx, e ▸ hn⟩, fun ⟨x, hx, hn⟩ => ⟨_, ⟨x, hx, rfl⟩, hn⟩⟩
/-- Both feet: the notes one behind the other, sorted, are held as a hand's are. -/
theorem feet_sorted {fn fs : Int} {l : List Nat} {S : List Int} (hp : S.Perm (flatI l)) (hs : S.Pairwise (· ≤ ·)) : oneF fn fs S = feetF fn fs l := by
  unfold oneF feetF
  rw [hp.length_eq, flatI_len, wid_eq hs (memI_inc _) fun x => by rw [hp.mem_iff, mem_flatI, mem_un]]
end Go.Proofs.YtnphdmiondccgaaDoor
