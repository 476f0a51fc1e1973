/- Plain: whatever a plan makes is right. -/
import Derived.Test.YtnkjhppjjklgfaaDoorKi
import Derived.Test.YtnkjhppjjklgfaaDoorKva
namespace Go.Proofs.YtnkjhppjjklgfaaDoor
open Go Go.RowKit
namespace Cou
/-- Whatever a plan makes is right. -/
theorem make_right {p : Pl} (h3 : p.dv.length = 3) : rightF (makeF p) = 0 := by
  have hn : 1 ≤ makeN p ∧ makeN p ≤ 3 := by unfold makeN; omega
  have hdl : (makeF p).divs.length = makeN p := by simp [makeF, h3]; omega
  have hcl : (makeF p).cps.length = (p.links.take 4).length := cpsL_len
  have hc4 : (p.links.take 4).length ≤ 4 := by rw [List.length_take]; omega
  have hck : checkF (makeF p).divs (makeF p).cps = 0 := by
    unfold checkF
    rw [if_neg (by omega), if_pos]
    · refine goF_zero (fun i hi => ?_) _ (Nat.le_refl _)
      have hil : i < (p.links.take 4).length := by omega
      have hget : (makeF p).cps[i] = cplF (makeN p) i (p.links.take 4)[i] := by
        have := cpsL_get (n := makeN p) (i := 0) hil
        rw [Nat.zero_add] at this
        have h2 : (makeF p).cps[i]? = some (makeF p).cps[i] := List.getElem?_eq_getElem hi
        have h4 : (makeF p).cps[i]? = some (cplF (makeN p) i (p.links.take 4)[i]) := this
        rw [h2] at h4
        exact Option.some.inj h4
      rw [hget]
      have hany : ((makeF p).cps.take i).any (fun y => decide (y.name = (cplF (makeN p) i (p.links.take 4)[i]).name)) = false := by
        rw [List.any_eq_false]
        intro y hy
        obtain ⟨j, hj, rfl⟩ := List.getElem_of_mem hy
        rw [List.length_take] at hj
        have hjl : j < (p.links.take 4).length := by omega
        have e : ((makeF p).cps.take i)[j]'(by rw [List.length_take]; exact hj) = cplF (makeN p) j (p.links.take 4)[j] := by
          have h4 := cpsL_get (n := makeN p) (i := 0) hjl
          rw [Nat.zero_add] at h4
          rw [List.getElem_take]
          have h2 : (makeF p).cps[j]? = some ((makeF p).cps[j]'(by omega)) := List.getElem?_eq_getElem (by omega)
          have h5 : (makeF p).cps[j]? = some (cplF (makeN p) j (p.links.take 4)[j]) := h4
          rw [h2] at h5
          exact Option.some.inj h5
        rw [e]
        have := nm_ne i j (by omega) (by omega)
        simpa [cplF] using this
      generalize (p.links.take 4)[i] = x at *
      have hf : x.from_ % makeN p < makeN p := Nat.mod_lt _ (by omega)
      have ht : x.to_ % makeN p < makeN p := Nat.mod_lt _ (by omega)
      have hs : -24 ≤ x.shift.tmod 25 ∧ x.shift.tmod 25 ≤ 24 := by
        have h1 := Int.tmod_lt_of_pos x.shift (show (0 : Int) < 25 by decide)
        have h2 := Int.lt_tmod_of_pos x.shift (show (0 : Int) < 25 by decide)
        omega
      unfold oneF
      rw [if_neg (by rw [show (cplF (makeN p) i x).name = nm i from rfl, nm_ok i (by omega)]; decide), if_neg (by rw [hany]; decide)]
      rw [if_neg (by rw [hdl]; show ¬ (((x.from_ % makeN p : Nat) : Int) < 0 ∨ (makeN p : Int) ≤ ((x.from_ % makeN p : Nat) : Int) ∨ ((x.to_ % makeN p : Nat) : Int) < 0 ∨ (makeN p : Int) ≤ ((x.to_ % makeN p : Nat) : Int)); omega)]
      by_cases hq : x.from_ % makeN p = x.to_ % makeN p ∧ x.shift.tmod 25 = 0
      · have e : (cplF (makeN p) i x).shift = 12 := by unfold cplF; simp only; rw [if_pos hq]
        rw [e, if_neg (by omega), if_neg (by omega)]
      · have e : (cplF (makeN p) i x).shift = x.shift.tmod 25 := by unfold cplF; simp only; rw [if_neg hq]
        rw [e, if_neg (by omega), if_neg]
        rintro ⟨q1, q2⟩
        exact hq ⟨by have : ((x.from_ % makeN p : Nat) : Int) = ((x.to_ % makeN p : Nat) : Int) := q1; omega, q2⟩
    · refine divF_zero fun c hc => ?_
      obtain ⟨d, _, rfl⟩ := List.mem_map.1 hc
      unfold compF divOf
      rw [if_neg (by simp only; omega), if_neg (by simp only; omega)]
  unfold rightF
  rw [if_pos hck, if_pos]
  rw [hcl, Nat.shiftRight_eq_div_pow, Nat.div_eq_zero_iff]
  refine .inr ?_
  show p.drawn &&& (2 ^ (p.links.take 4).length - 1) < _
  rw [Nat.and_two_pow_sub_one_eq_mod]
  exact Nat.mod_lt _ (Nat.two_pow_pos _)
end Cou
end Go.Proofs.YtnkjhppjjklgfaaDoor
