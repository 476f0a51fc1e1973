/- Words of divisions in memory; plain: what can be played. -/
import Derived.Test.YtnphdmiondccgaaDoorZp
namespace Go.Proofs.YtnphdmiondccgaaDoor
open Go Go.RowKit Go.Shelf
open Pop
/-- Of a division: is it of pedals; its compass. -/
structure Dv where
  ped : Bool
  lo : Int
  hi : Int
/-- The cells of a division. -/
def DvC (_ : World) (cs : List Value) (d : Dv) : Prop := ∃ s A n c, cs = [.string s, .bool d.ped, .int .i64 d.lo, .int .i64 d.hi, .slice A n c]
abbrev SlDv (F : Nat → Prop) (w : World) (v : Value) (l : List Dv) : Prop := Sl F 5 DvC w v l
theorem SlDv.open {F : Nat → Prop} {w : World} {v : Value} {l : List Dv} (h : SlDv F w v l) : ∃ A c, v = .slice A l.length c ∧ l.length ≤ c ∧ l.length ≤ 140737488355328 ∧
    ∀ i (hi : i < l.length), ∃ ad s B n c, A = some ad ∧ F ad.block ∧ Flds w (ad.add (i * 5)) [.string s, .bool l[i].ped, .int .i64 l[i].lo, .int .i64 l[i].hi, .slice B n c] := by
  obtain ⟨A, c, hv, hc, hl, hi⟩ := h
  refine ⟨A, c, hv, hc, hl, fun i hil => ?_⟩
  obtain ⟨ad, cs, hA, hF, hk, hr, hcell⟩ := hi i hil
  obtain ⟨s, B, n, c', rfl⟩ := hr
  exact ⟨ad, s, B, n, c', hA, hF, hcell⟩
theorem SlDv.keep {F : Nat → Prop} {w w' : World} {v : Value} {l : List Dv} (h : SlDv F w v l) (ha : Agree F w w') : SlDv F w' v l := Sl.keep h ha fun _ _ hr => hr
/-- The pedals' sets; the manuals' notes, where there are any. -/
def pedF (l : List (Dv × Nat)) : List Nat := (l.filter fun p => p.1.ped).map fun p => p.2
def manF (l : List (Dv × Nat)) : List (List Int) := (l.filter fun p => !p.1.ped && decide (0 < (memI p.2).length)).map fun p => memI p.2
/-- What hands can hold. -/
def handF (hn hs : Int) : List (List Int) → Bool
  | [] => true
  | [a] => twoF hn hs a
  | [a, b] => oneF hn hs a && oneF hn hs b
  | _ => false
def allD (l : List (Dv × Nat)) : Bool := l.all fun p => compB p.1.lo p.1.hi p.2
/-- What can be played. -/
def posF (hn hs fn fs : Int) (l : List (Dv × Nat)) : Bool := allD l && (feetF fn fs (pedF l) && handF hn hs (manF l))
theorem pedF_snoc (l : List (Dv × Nat)) (p : Dv × Nat) : pedF (l ++ [p]) = pedF l ++ (if p.1.ped = true then [p.2] else []) := by
  unfold pedF
  rw [List.filter_append, List.map_append]
  cases h : p.1.ped <;> simp [h]
theorem manF_snoc (l : List (Dv × Nat)) (p : Dv × Nat) : manF (l ++ [p]) = manF l ++ (if p.1.ped = false ∧ 0 < (memI p.2).length then [memI p.2] else []) := by
  unfold manF
  rw [List.filter_append, List.map_append]
  cases h : p.1.ped <;> by_cases h2 : 0 < (memI p.2).length <;> simp [h, h2]
theorem allD_snoc (l : List (Dv × Nat)) (p : Dv × Nat) : allD (l ++ [p]) = (allD l && compB p.1.lo p.1.hi p.2) := by
  unfold allD
  simp [List.all_append]
theorem allD_bad {l : List (Dv × Nat)} {k : Nat} (hk : k < l.length) (h : compB l[k].1.lo l[k].1.hi l[k].2 = false) : allD l = false := by
  unfold allD
  rw [List.all_eq_false]
  exact ⟨_, List.getElem_mem hk, by simp [h]⟩
theorem flatI_snoc (l : List Nat) (x : Nat) : flatI (l ++ [x]) = flatI l ++ memI x := by
  unfold flatI
  rw [List.map_append, List.flatten_append]
  simp
theorem pedF_len (l : List (Dv × Nat)) : (pedF l).length ≤ l.length := by
  unfold pedF
  rw [List.length_map]
  exact List.length_filter_le _ _
theorem manF_len (l : List (Dv × Nat)) : (manF l).length ≤ l.length := by
  unfold manF
  rw [List.length_map]
  exact List.length_filter_le _ _
theorem manF_sm (l : List (Dv × Nat)) : ∀ a ∈ manF l, Sm a := fun a ha => by
  unfold manF at ha
  obtain ⟨p, -, rfl⟩ := List.mem_map.1 ha
  exact mem_le _
theorem memI_len (x : Nat) : (memI x).length ≤ 128 := by
  unfold memI
  rw [List.length_map]
  exact Nt.mem_len x
theorem zip_next {l : List Dv} {m : List Nat} {k : Nat} (h1 : k < l.length) (h2 : k < m.length) : (l.zip m).take (k + 1) = (l.zip m).take k ++ [(l[k], m[k])] := by
  rw [List.take_add_one, List.getElem?_eq_getElem (by rw [List.length_zip]; omega), List.getElem_zip]
  rfl
/-- Within a range of notes: read off the set of the range. -/
theorem within_dec {x y : Nat} {lo hi : Int} (hx : x < 2 ^ 128) (h : ∀ i : Nat, y.testBit i = true ↔ lo ≤ (i : Int) ∧ (i : Int) ≤ hi) : decide (Hit.andn x y = 0) = withinB lo hi (memI x) := by
  unfold withinB
  by_cases e : Hit.andn x y = 0
  · rw [decide_eq_true e]
    symm
    rw [List.all_eq_true]
    intro n hn
    obtain ⟨i, -, h2, rfl⟩ := mem_memI.1 hn
    have ht := congrArg (fun z => Nat.testBit z i) e
    simp only [Hit.andn_test, Nat.zero_testBit, h2, Bool.true_and, Bool.not_eq_false'] at ht
    have := (h i).1 ht
    simp [this.1, this.2]
  · rw [decide_eq_false e]
    symm
    rw [List.all_eq_false]
    obtain ⟨i, hi'⟩ : ∃ i, (Hit.andn x y).testBit i = true := by
      apply Classical.byContradiction
      intro hh
      exact e (Nat.eq_of_testBit_eq fun i => by
        rw [Nat.zero_testBit]
        cases q : (Hit.andn x y).testBit i with
        | false => rfl
        | true => exact absurd ⟨i, q⟩ hh)
    rw [Hit.andn_test] at hi'
    simp only [Bool.and_eq_true, Bool.not_eq_true'] at hi'
    have hlt : i < 128 := by
      apply Classical.byContradiction
      intro hge
      have := Nat.testBit_lt_two_pow (Nat.lt_of_lt_of_le hx (Nat.pow_le_pow_right (n := 2) (by decide) (show 128 ≤ i by omega)))
      rw [this] at hi'
      exact absurd hi'.1 (by simp)
    refine ⟨(i : Int), mem_memI.2 ⟨i, hlt, hi'.1, rfl⟩, fun q => ?_⟩
    have : y.testBit i = true := (h i).2 (by simpa using q)
    rw [hi'.2] at this
    cases this
/-- The two ways of asking whether notes lie within a compass. -/
theorem compB_ok {lo hi : Int} (h : CmpOk lo hi) (x : Nat) : compB lo hi x = withinB lo hi (memI x) := by
  unfold compB
  simp [h.1, h.2.1, h.2.2]
theorem compB_bad {lo hi : Int} (h : ¬ CmpOk lo hi) (x : Nat) : compB lo hi x = false := by
  unfold compB
  cases e : decide (0 ≤ lo) && decide (hi ≤ 127) && decide (lo ≤ hi) with
  | false => rfl
  | true =>
    simp only [Bool.and_eq_true, decide_eq_true_eq] at e
    exact absurd ⟨e.1.1, e.1.2, e.2⟩ h
end Go.Proofs.YtnphdmiondccgaaDoor
