/- Plain: plans of actions. -/
import Derived.Test.YtnkjhppjjklgfaaDoorKh
namespace Go.Proofs.YtnkjhppjjklgfaaDoor
open Go Go.RowKit
namespace Cou
structure Lk where
  from_ : Nat
  to_ : Nat
  shift : Int
  thru : Bool
/-- A plan. -/
structure Pl where
  dv : List (Nat × Nat)
  more : Nat
  links : List Lk
  drawn : Nat
def nm (i : Nat) : ByteArray := ⟨#[99, (48 + i).toUInt8]⟩
def cplF (n i : Nat) (x : Lk) : Cpl := ⟨nm i, (x.from_ % n : Nat), (x.to_ % n : Nat), if x.from_ % n = x.to_ % n ∧ x.shift.tmod 25 = 0 then 12 else x.shift.tmod 25, x.thru⟩
def cpsL (n : Nat) : Nat → List Lk → List Cpl
  | _, [] => []
  | i, x :: r => cplF n i x :: cpsL n (i + 1) r
def divOf (d : Nat × Nat) : Int × Int := ((36 + d.1 % 12 : Nat), (36 + d.1 % 12 + d.2 % 13 : Nat))
def makeN (p : Pl) : Nat := 1 + p.more % 3
def makeF (p : Pl) : Ac := ⟨(p.dv.take (makeN p)).map divOf, cpsL (makeN p) 0 (p.links.take 4), p.drawn &&& (2 ^ (p.links.take 4).length - 1)⟩
theorem cpsL_len {n : Nat} : ∀ {l : List Lk} {i : Nat}, (cpsL n i l).length = l.length
  | [], _ => rfl
  | _ :: r, i => by rw [cpsL, List.length_cons, cpsL_len, List.length_cons]
theorem cpsL_snoc {n : Nat} {x : Lk} : ∀ {l : List Lk} {i : Nat}, cpsL n i (l ++ [x]) = cpsL n i l ++ [cplF n (i + l.length) x]
  | [], i => by simp [cpsL]
  | y :: r, i => by
    rw [List.cons_append, cpsL, cpsL_snoc, cpsL, List.cons_append, List.length_cons, show i + 1 + r.length = i + (r.length + 1) by omega]
theorem cpsL_get {n : Nat} : ∀ {l : List Lk} {i j : Nat} (h : j < l.length), (cpsL n i l)[j]? = some (cplF n (i + j) l[j])
  | [], _, _, h => absurd h (by simp)
  | x :: r, i, 0, _ => by simp [cpsL]
  | x :: r, i, j + 1, h => by
    rw [cpsL, List.getElem?_cons_succ, cpsL_get (by simpa using h)]
    simp only [List.getElem_cons_succ]
    rw [show i + 1 + j = i + (j + 1) by omega]
theorem goF_zero {nd : Nat} {cps : List Cpl} (h : ∀ i (hi : i < cps.length), oneF nd cps i cps[i] = 0) : ∀ d, d ≤ cps.length → goF nd cps d = 0
  | 0, _ => rfl
  | d + 1, hd => by
    have hlt : cps.length - (d + 1) < cps.length := by omega
    rw [goF, List.getElem?_eq_getElem hlt]
    simp only
    rw [if_pos (h _ hlt)]
    exact goF_zero h d (by omega)
theorem divF_zero {l : List (Int × Int)} (h : ∀ c ∈ l, compF c = 0) : divF l = 0 := by
  induction l with
  | nil => rfl
  | cons x l ih => rw [divF, if_pos (h x (by simp))]; exact ih fun c hc => h c (List.mem_cons_of_mem _ hc)
theorem nm_ok : ∀ i, i < 4 → nameF (nm i) = true := by
  intro i hi
  have : i = 0 ∨ i = 1 ∨ i = 2 ∨ i = 3 := by omega
  rcases this with rfl | rfl | rfl | rfl <;> decide
theorem nm_ne : ∀ i j, i < 4 → j < i → nm j ≠ nm i := by
  intro i j hi hj
  have hc : (i = 1 ∧ j = 0) ∨ (i = 2 ∧ j = 0) ∨ (i = 2 ∧ j = 1) ∨ (i = 3 ∧ j = 0) ∨ (i = 3 ∧ j = 1) ∨ (i = 3 ∧ j = 2) := by omega
  rcases hc with ⟨rfl, rfl⟩ | ⟨rfl, rfl⟩ | ⟨rfl, rfl⟩ | ⟨rfl, rfl⟩ | ⟨rfl, rfl⟩ | ⟨rfl, rfl⟩ <;> decide
end Cou
end Go.Proofs.YtnkjhppjjklgfaaDoor
