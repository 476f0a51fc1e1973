/- Plain: plans of actions. Plain: whatever a plan makes is right. -/
import Derived.Test.YtahlfndlkfoikaaDoorKh
import Derived.Test.YtahlfndlkfoikaaDoorKi
namespace Go.Proofs.YtahlfndlkfoikaaDoor
open Go Go.RowKit
namespace Cou
structure Lk where
  from_ : Nat
  to_ : Nat
  shift : Int
  thru : Bool
/-- A plan. -/
structure Pl where
  dv : List (Nat × Nat)
  more : Nat
  links : List Lk
  drawn : Nat
def nm (i : Nat) : ByteArray := ⟨#[99, (48 + i).toUInt8]⟩
def cplF (n i : Nat) (x : Lk) : Cpl := ⟨nm i, (x.from_ % n : Nat), (x.to_ % n : Nat), if x.from_ % n = x.to_ % n ∧ x.shift.tmod 25 = 0 then 12 else x.shift.tmod 25, x.thru⟩
def cpsL (n : Nat) : Nat → List Lk → List Cpl
  | _, [] => []
  | i, x :: r => cplF n i x :: cpsL n (i + 1) r
def divOf (d : Nat × Nat) : Int × Int := ((36 + d.1 % 12 : Nat), (36 + d.1 % 12 + d.2 % 13 : Nat))
def makeN (p : Pl) : Nat := 1 + p.more % 3
def makeF (p : Pl) : Ac := ⟨(p.dv.take (makeN p)).map divOf, cpsL (makeN p) 0 (p.links.take 4), p.drawn &&& (2 ^ (p.links.take 4).length - 1)⟩
theorem cpsL_len {n : Nat} : ∀ {l : List Lk} {i : Nat}, (cpsL n i l).length = l.length
  | [], _ => rfl
  | _ :: r, i => by rw [cpsL, List.length_cons, cpsL_len, List.length_cons]
theorem cpsL_snoc {n : Nat} {x : Lk} : ∀ {l : List Lk} {i : Nat}, cpsL n i (l ++ [x]) = cpsL n i l ++ [cplF n (i + l.length) x]
  | [], i => by simp [cpsL]
  | y :: r, i => by
    rw [List.cons_append, cpsL, cpsL_snoc, cpsL, List.cons_append, List.length_cons, show i + 1 + r.length = i + (r.length + 1) by omega]
theorem cpsL_get {n : Nat} : ∀ {l : List Lk} {i j : Nat} (h : j < l.length), (cpsL n i l)[j]? = some (cplF n (i + j) l[j])
  | [], _, _, h => absurd h (by simp)
  | x :: r, i, 0, _ => by simp [cpsL]
  | x :: r, i, j + 1, h => by
    rw [cpsL, List.getElem?_cons_succ, cpsL_get (by simpa using h)]
    simp only [List.getElem_cons_succ]
    rw [show i + 1 + j = i + (j + 1) by omega]
theorem goF_zero {nd : Nat} {cps : List Cpl} (h : ∀ i (hi : i < cps.length), oneF nd cps i cps[i] = 0) : ∀ d, d ≤ cps.length → goF nd cps d = 0
  | 0, _ => rfl
  | d + 1, hd => by
    have hlt : cps.length - (d + 1) < cps.length := by omega
    rw [goF, List.getElem?_eq_getElem hlt]
    simp only
    rw [if_pos (h _ hlt)]
    exact goF_zero h d (by omega)
theorem divF_zero {l : List (Int × Int)} (h : ∀ c ∈ l, compF c = 0) : divF l = 0 := by
  induction l with
  | nil => rfl
  | cons x l ih => rw [divF, if_pos (h x (by simp))]; exact ih fun c hc => h c (List.mem_cons_of_mem _ hc)
theorem nm_ok : ∀ i, i < 4 → nameF (nm i) = true := by
  intro i hi
  have : i = 0 ∨ i = 1 ∨ i = 2 ∨ i = 3 := by omega
  rcases this with rfl | rfl | rfl | rfl <;> decide
theorem nm_ne : ∀ i j, i < 4 → j < i → nm j ≠ nm i := by
  intro i j hi hj
  have hc : (i = 1 ∧ j = 0) ∨ (i = 2 ∧ j = 0) ∨ (i = 2 ∧ j = 1) ∨ (i = 3 ∧ j = 0) ∨ (i = 3 ∧ j = 1) ∨ (i = 3 ∧ j = 2) := by omega
  rcases hc with ⟨rfl, rfl⟩ | ⟨rfl, rfl⟩ | ⟨rfl, rfl⟩ | ⟨rfl, rfl⟩ | ⟨rfl, rfl⟩ | ⟨rfl, rfl⟩ <;> decide
end Cou
end Go.Proofs.YtahlfndlkfoikaaDoor
namespace Go.Proofs.YtahlfndlkfoikaaDoor
open Go Go.RowKit
namespace Cou
/-- Whatever a plan makes is right. -/
theorem make_right {p : Pl} (h3 : p.dv.length = 3) : rightF (makeF p) = 0 := by
  have hn : 1 ≤ makeN p ∧ makeN p ≤ 3 := by unfold makeN; omega
  have hdl : (makeF p).divs.length = makeN p := by simp [makeF, h3]; omega
  have hcl : (makeF p).cps.length = (p.links.take 4).length := cpsL_len
  have hc4 : (p.links.take 4).length ≤ 4 := by rw [List.length_take]; omega
  have hck : checkF (makeF p).divs (makeF p).cps = 0 := by
    unfold checkF
    rw [if_neg (by omega), if_pos]
    · refine goF_zero (fun i hi => ?_) _ (Nat.le_refl _)
      have hil : i < (p.links.take 4).length := by omega
      have hget : (makeF p).cps[i] = cplF (makeN p) i (p.links.take 4)[i] := by
        have := cpsL_get (n := makeN p) (i := 0) hil
        rw [Nat.zero_add] at this
        have h2 : (makeF p).cps[i]? = some (makeF p).cps[i] := List.getElem?_eq_getElem hi
        have h4 : (makeF p).cps[i]? = some (cplF (makeN p) i (p.links.take 4)[i]) := this
        rw [h2] at h4
        exact Option.some.inj h4
      rw [hget]
      have hany : ((makeF p).cps.take i).any (fun y => decide (y.name = (cplF (makeN p) i (p.links.take 4)[i]).name)) = false := by
        rw [List.any_eq_false]
        intro y hy
        obtain ⟨j, hj, rfl⟩ := List.getElem_of_mem hy
        rw [List.length_take] at hj
        have hjl : j < (p.links.take 4).length := by omega
        have e : ((makeF p).cps.take i)[j]'(by rw [List.length_take]; exact hj) = cplF (makeN p) j (p.links.take 4)[j] := by
          have h4 := cpsL_get (n := makeN p) (i := 0) hjl
          rw [Nat.zero_add] at h4
          rw [List.getElem_take]
          have h2 : (makeF p).cps[j]? = some ((makeF p).cps[j]'(by omega)) := List.getElem?_eq_getElem (by omega)
          have h5 : (makeF p).cps[j]? = some (cplF (makeN p) j (p.links.take 4)[j]) := h4
          rw [h2] at h5
          exact Option.some.inj h5
        rw [e]
        have := nm_ne i j (by omega) (by omega)
        simpa [cplF] using this
      generalize (p.links.take 4)[i] = x at *
      have hf : x.from_ % makeN p < makeN p := Nat.mod_lt _ (by omega)
      have ht : x.to_ % makeN p < makeN p := Nat.mod_lt _ (by omega)
      have hs : -24 ≤ x.shift.tmod 25 ∧ x.shift.tmod 25 ≤ 24 := by
        have h1 := Int.tmod_lt_of_pos x.shift (show (0 : Int) < 25 by decide)
        have h2 := Int.lt_tmod_of_pos x.shift (show (0 : Int) < 25 by decide)
        omega
      unfold oneF
      rw [if_neg (by rw [show (cplF (makeN p) i x).name = nm i from rfl, nm_ok i (by omega)]; decide), if_neg (by rw [hany]; decide)]
      rw [if_neg (by rw [hdl]; show ¬ (((x.from_ % makeN p : Nat) : Int) < 0 ∨ (makeN p : Int) ≤ ((x.from_ % makeN p : Nat) : Int) ∨ ((x.to_ % makeN p : Nat) : Int) < 0 ∨ (makeN p : Int) ≤ ((x.to_ % makeN p : Nat) : Int)); omega)]
      by_cases hq : x.from_ % makeN p = x.to_ % makeN p ∧ x.shift.tmod 25 = 0
      · have e : (cplF (makeN p) i x).shift = 12 := by unfold cplF; simp only; rw [if_pos hq]
        rw [e, if_neg (by omega), if_neg (by omega)]
      · have e : (cplF (makeN p) i x).shift = x.shift.tmod 25 := by unfold cplF; simp only; rw [if_neg hq]
        rw [e, if_neg (by omega), if_neg]
        rintro ⟨q1, q2⟩
        exact hq ⟨by have : ((x.from_ % makeN p : Nat) : Int) = ((x.to_ % makeN p : Nat) : Int) := q1; omega, q2⟩
    · refine divF_zero fun c hc => ?_
      obtain ⟨d, _, rfl⟩ := List.mem_map.1 hc
      unfold compF divOf
      rw [if_neg (by simp only; omega), if_neg (by simp only; omega)]
  unfold rightF
  rw [if_pos hck, if_pos]
  rw [hcl, Nat.shiftRight_eq_div_pow, Nat.div_eq_zero_iff]
  refine .inr ?_
  show p.drawn &&& (2 ^ (p.links.take 4).length - 1) < _
  rw [Nat.and_two_pow_sub_one_eq_mod]
  exact Nat.mod_lt _ (Nat.two_pow_pos _)
end Cou
end Go.Proofs.YtahlfndlkfoikaaDoor
