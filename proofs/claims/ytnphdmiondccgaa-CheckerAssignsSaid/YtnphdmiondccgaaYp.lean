/- Plain laws of assignments: a right assignment with right potentials costs at least what the potentials say, so both checks answer alike. -/
import Derived.Test.YtnphdmiondccgaaBase
namespace Go.Proofs.Ytnphdmiondccgaa
open Go Go.RowKit
namespace Asg
abbrev Mc : Int := 1000000000
abbrev Mp : Int := 1000000000000
def gi (l : List Int) (k : Int) : Int := l.getD k.toNat 0
def wd (costs : List (List Int)) : Nat := match costs with | [] => 0 | r :: _ => r.length
/-- What a row of an assignment must be. -/
def RowOk (costs : List (List Int)) (cols rows pots : List Int) (i : Nat) : Prop :=
  (costs.getD i []).length = wd costs ∧ (∀ c ∈ costs.getD i [], -Mc ≤ c ∧ c ≤ Mc) ∧ (0 ≤ cols.getD i 0 ∧ cols.getD i 0 < wd costs) ∧ cols.getD i 0 ∉ cols.take i ∧ ∀ k, k < wd costs → rows.getD i 0 + pots.getD k 0 ≤ (costs.getD i []).getD k 0
def sumTo (f : Nat → Int) : Nat → Int | 0 => 0 | n + 1 => sumTo f n + f n
def ctot (costs : List (List Int)) (cols : List Int) (n : Nat) : Int := sumTo (fun i => gi (costs.getD i []) (cols.getD i 0)) n
def rsum (rows : List Int) (n : Nat) : Int := sumTo (fun i => rows.getD i 0) n
def Sized (costs : List (List Int)) (cols rows pots : List Int) : Prop :=
  wd costs ≤ 120 ∧ costs.length ≤ wd costs ∧ cols.length = costs.length ∧ rows.length = costs.length ∧ pots.length = wd costs
def Ranged (rows pots : List Int) : Prop := (∀ x ∈ rows, -Mp ≤ x ∧ x ≤ Mp) ∧ ∀ x ∈ pots, -Mp ≤ x ∧ x ≤ 0
/-- What checker.Assigns asks, and what matching.Verify asks. -/
def AsgP (costs : List (List Int)) (cols : List Int) (total : Int) (rows pots : List Int) : Prop :=
  Sized costs cols rows pots ∧ Ranged rows pots ∧ (∀ i, i < costs.length → RowOk costs cols rows pots i) ∧ ctot costs cols costs.length = total ∧ rsum rows rows.length + rsum pots pots.length = total
def VerP (costs : List (List Int)) (cols : List Int) (total : Int) (rows pots : List Int) : Prop :=
  Sized costs cols rows pots ∧ Ranged rows pots ∧ (∀ i, i < costs.length → RowOk costs cols rows pots i) ∧ ctot costs cols costs.length = total ∧ total ≤ rsum rows rows.length + rsum pots pots.length
theorem sumTo_le {f g : Nat → Int} : ∀ n, (∀ i, i < n → f i ≤ g i) → sumTo f n ≤ sumTo g n
  | 0, _ => Int.le_refl _
  | n + 1, h => by
    have h1 := sumTo_le n fun i hi => h i (by omega)
    have h2 := h n (by omega)
    unfold sumTo; omega
theorem sumTo_add (f g : Nat → Int) : ∀ n, sumTo (fun i => f i + g i) n = sumTo f n + sumTo g n
  | 0 => rfl
  | n + 1 => by unfold sumTo; rw [sumTo_add f g n]; omega
theorem sumTo_congr {f g : Nat → Int} : ∀ n, (∀ i, i < n → f i = g i) → sumTo f n = sumTo g n
  | 0, _ => rfl
  | n + 1, h => by unfold sumTo; rw [sumTo_congr n fun i hi => h i (by omega), h n (by omega)]
/-- The sum with one place set to nought. -/
theorem sumTo_zero (f : Nat → Int) (k : Nat) : ∀ n, sumTo (fun i => if i = k then 0 else f i) n = sumTo f n - if k < n then f k else 0
  | 0 => rfl
  | n + 1 => by
    unfold sumTo; rw [sumTo_zero f k n]
    by_cases h : n = k
    · subst h; simp
    · rw [if_neg h]
      by_cases h1 : k < n
      · rw [if_pos h1, if_pos (by omega)]; omega
      · rw [if_neg h1, if_neg (by omega)]; omega
/-- Nonpositive numbers at different places sum to no less than all. -/
theorem sumTo_some (n : Nat) : ∀ (l : List Nat) (f : Nat → Int), l.Nodup → (∀ k, k < n → f k ≤ 0) → (∀ k ∈ l, k < n) → sumTo f n ≤ (l.map f).sum
  | [], f, _, h, _ => by
    have h1 := sumTo_le (f := f) (g := fun _ => 0) n h
    have h2 : ∀ m, sumTo (fun _ => (0 : Int)) m = 0 := by
      intro m
      induction m with
      | zero => rfl
      | succ m ih => unfold sumTo; rw [ih]; rfl
    rw [h2] at h1
    simpa using h1
  | k :: l, f, hn, h, hl => by
    rw [List.nodup_cons] at hn
    have hk : k < n := hl k (by simp)
    have h1 := sumTo_some n l (fun i => if i = k then 0 else f i) hn.2 (fun j hj => by by_cases e : j = k <;> simp [e]; exact h j hj) fun j hj => hl j (by simp [hj])
    have h2 : l.map (fun i => if i = k then 0 else f i) = l.map f := List.map_congr_left fun j hj => by rw [if_neg]; rintro rfl; exact hn.1 hj
    rw [h2, sumTo_zero, if_pos hk] at h1
    rw [List.map_cons, List.sum_cons]
    omega
theorem sum_map_range (f : Nat → Int) : ∀ n, ((List.range n).map f).sum = sumTo f n
  | 0 => rfl
  | n + 1 => by rw [List.range_succ, List.map_append, List.sum_append, sum_map_range f n]; simp [sumTo]
theorem weak {costs : List (List Int)} {cols rows pots : List Int} (hs : Sized costs cols rows pots) (hr : Ranged rows pots) (h : ∀ i, i < costs.length → RowOk costs cols rows pots i) :
    rsum rows rows.length + rsum pots pots.length ≤ ctot costs cols costs.length := by
  obtain ⟨-, -, h3, h4, h5⟩ := hs
  have hnd : ((List.range costs.length).map fun i => (cols.getD i 0).toNat).Nodup := by
    rw [List.Nodup, List.pairwise_map]
    refine (List.pairwise_lt_range (n := costs.length)).imp_of_mem ?_
    intro a b ha hb hab e
    rw [List.mem_range] at ha hb
    obtain ⟨-, -, ⟨pa, -⟩, -⟩ := h a ha
    obtain ⟨-, -, ⟨pb, -⟩, hx, -⟩ := h b hb
    refine hx (List.mem_iff_getElem?.2 ⟨a, ?_⟩)
    rw [List.getElem?_take_of_lt hab, List.getElem?_eq_getElem (by omega)]
    rw [List.getD_eq_getElem?_getD, List.getElem?_eq_getElem (by omega)] at e pa
    simp only [Option.getD_some] at e pa
    congr 1
    omega
  have hp := sumTo_some (wd costs) _ (fun k => pots.getD k 0) hnd (fun k hk => by
    rw [List.getD_eq_getElem?_getD, List.getElem?_eq_getElem (by omega)]
    exact (hr.2 _ (List.getElem_mem _)).2) fun k hk => by
      rw [List.mem_map] at hk
      obtain ⟨i, hi, rfl⟩ := hk
      rw [List.mem_range] at hi
      obtain ⟨-, -, ⟨p1, p2⟩, -⟩ := h i hi
      omega
  rw [List.map_map, sum_map_range] at hp
  have h1 : sumTo (fun i => rows.getD i 0 + pots.getD (cols.getD i 0).toNat 0) costs.length ≤ ctot costs cols costs.length := by
    refine sumTo_le _ fun i hi => ?_
    obtain ⟨-, -, ⟨p1, p2⟩, -, hf⟩ := h i hi
    exact hf _ (by omega)
  rw [sumTo_add] at h1
  unfold rsum
  rw [h4, h5]
  have h2 : sumTo ((fun k => pots.getD k 0) ∘ fun i => (cols.getD i 0).toNat) costs.length = sumTo (fun i => pots.getD (cols.getD i 0).toNat 0) costs.length := rfl
  rw [h2] at hp
  omega
theorem asg_iff (costs : List (List Int)) (cols : List Int) (total : Int) (rows pots : List Int) : AsgP costs cols total rows pots ↔ VerP costs cols total rows pots := by
  constructor
  · rintro ⟨h1, h2, h3, h4, h5⟩
    exact ⟨h1, h2, h3, h4, by omega⟩
  · rintro ⟨h1, h2, h3, h4, h5⟩
    have := weak h1 h2 h3
    exact ⟨h1, h2, h3, h4, by omega⟩
end Asg
end Go.Proofs.Ytnphdmiondccgaa
