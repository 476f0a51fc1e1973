/- Walks over coupler's statements: drawn, same. -/
import Derived.Test.YtahlfndlkfoikaaDoorKa
import Derived.Test.YtahlfndlkfoikaaDoorKp
import Derived.Laws.StructEq
namespace Go.Proofs.YtahlfndlkfoikaaDoor
open Go Go.RowKit Go.Shelf
theorem bit_of (v p : Nat) : ((((v >>> p) &&& 1 : Nat) : Int) == 1) = v.testBit p := by
  rw [Nat.testBit_eq_decide_div_mod_eq, Nat.and_one_is_mod, Nat.shiftRight_eq_div_pow]
  by_cases h : v / 2 ^ p % 2 = 1
  · rw [h]; rfl
  · have : v / 2 ^ p % 2 = 0 := by omega
    rw [this]; rfl
theorem shr_of (v p : Nat) (h : p ≤ 64) : ((v : Nat) : Int) / 2 ^ p = ((v >>> p : Nat) : Int) := by
  have := Hit.shr_nat v p 64 h
  rw [Nat.min_eq_left h, Int.fdiv_eq_ediv_of_nonneg _ (Int.pow_nonneg (by decide))] at this
  exact this
theorem SlCt.open {F : Nat → Prop} {w : World} {v : Value} {l : List Cou.Ct} (h : SlCt F w v l) : ∃ A c, v = .slice A l.length c ∧ l.length ≤ c ∧ l.length ≤ 140737488355328 ∧
    ∀ i (hi : i < l.length), ∃ ad, A = some ad ∧ F ad.block ∧ Flds w (ad.add (i * 2)) [.int .i64 l[i].1, .int .i64 l[i].2] := by
  obtain ⟨A, c, hv, hc, hl, hi⟩ := h
  refine ⟨A, c, hv, hc, hl, fun i hil => ?_⟩
  obtain ⟨ad, cs, hA, hF, hk, hr, hcell⟩ := hi i hil
  unfold CtC at hr
  subst hr
  exact ⟨ad, hA, hF, hcell⟩
theorem SlCt.keep {F : Nat → Prop} {w w' : World} {v : Value} {l : List Cou.Ct} (h : SlCt F w v l) (ha : Agree F w w') : SlCt F w' v l := Sl.keep h ha fun _ _ hr => hr
/-- Lists that agree up to k. -/
def Upto (l m : List Cou.Ct) (k : Nat) : Prop := ∀ i, i < k → l[i]? = m[i]?
theorem Upto.all {l m : List Cou.Ct} (h : Upto l m l.length) (hl : l.length = m.length) : l = m := by
  refine List.ext_getElem? fun i => ?_
  by_cases hi : i < l.length
  · exact h i hi
  · rw [List.getElem?_eq_none (by omega), List.getElem?_eq_none (by omega)]
end Go.Proofs.YtahlfndlkfoikaaDoor
