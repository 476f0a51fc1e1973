/- Plain: unions of keys, further drawn couplers. -/
import Derived.Test.YtnkjhppjjklgfaaDoorSe
namespace Go.Proofs.YtnkjhppjjklgfaaDoor
open Go Go.RowKit Go.Shelf
namespace Cou
/-- The union of keys. -/
def uniL (x y : List Nat) : List Nat := List.zipWith (fun a b => a ||| b) x y
theorem uniL_len {x y : List Nat} (h : x.length = y.length) : (uniL x y).length = x.length := by unfold uniL; rw [List.length_zipWith]; omega
theorem uniL_get {x y : List Nat} (h : x.length = y.length) {d : Nat} (hd : d < x.length) : (uniL x y).getD d 0 = x.getD d 0 ||| y.getD d 0 := by
  unfold uniL
  rw [List.getD_eq_getElem?_getD, List.getD_eq_getElem?_getD, List.getD_eq_getElem?_getD, List.getElem?_zipWith, List.getElem?_eq_getElem hd, List.getElem?_eq_getElem (by omega : d < y.length)]
  rfl
theorem uniL_lt {x y : List Nat} (hx : ∀ a ∈ x, a < 2 ^ 128) (hy : ∀ a ∈ y, a < 2 ^ 128) : ∀ a ∈ uniL x y, a < 2 ^ 128 := by
  induction x generalizing y with
  | nil => intro a h; simp [uniL] at h
  | cons c x ih =>
    cases y with
    | nil => intro a h; simp [uniL] at h
    | cons e y =>
      intro a h
      have h' : a = c ||| e ∨ a ∈ uniL x y := by simpa [uniL] using h
      rcases h' with rfl | h'
      · exact Nat.or_lt_two_pow (hx c (by simp)) (hy e (by simp))
      · exact ih (fun a h => hx a (by simp [h])) (fun a h => hy a (by simp [h])) a h'
theorem uniL_take {x y : List Nat} (h : x.length = y.length) {k : Nat} (hk : k < x.length) : (uniL x y).take (k + 1) = (uniL x y).take k ++ [x[k] ||| y[k]'(by omega)] := by
  rw [List.take_add_one]
  congr 1
  unfold uniL
  rw [List.getElem?_zipWith, List.getElem?_eq_getElem hk, List.getElem?_eq_getElem (by omega : k < y.length)]
  rfl
theorem mem_uni {x y : List Nat} (h : x.length = y.length) (hx : ∀ a ∈ x, a < 2 ^ 128) (hy : ∀ a ∈ y, a < 2 ^ 128) (c : Ct) : c ∈ allL 0 (uniL x y) ↔ c ∈ allL 0 x ∨ c ∈ allL 0 y := by
  have hg : ∀ {l : List Nat} (_ : ∀ a ∈ l, a < 2 ^ 128) (i : Nat), l.getD i 0 < 2 ^ 128 := fun {l} hl i => by
    rw [List.getD_eq_getElem?_getD]
    cases hc : l[i]? with
    | none => simp
    | some a => exact hl a (List.mem_of_getElem? hc)
  rw [mem_allL, mem_allL, mem_allL, uniL_len h]
  constructor
  · rintro ⟨i, hi, k, hk, rfl⟩
    rw [Nt.mem_iff (hg (uniL_lt hx hy) i), uniL_get h hi, Nat.testBit_or, Bool.or_eq_true] at hk
    rcases hk with hk | hk
    · exact .inl ⟨i, hi, k, (Nt.mem_iff (hg hx i)).2 hk, rfl⟩
    · exact .inr ⟨i, by omega, k, (Nt.mem_iff (hg hy i)).2 hk, rfl⟩
  · rintro (⟨i, hi, k, hk, rfl⟩ | ⟨i, hi, k, hk, rfl⟩)
    · refine ⟨i, hi, k, ?_, rfl⟩
      rw [Nt.mem_iff (hg (uniL_lt hx hy) i), uniL_get h hi, Nat.testBit_or, (Nt.mem_iff (hg hx i)).1 hk, Bool.true_or]
    · refine ⟨i, by omega, k, ?_, rfl⟩
      rw [Nt.mem_iff (hg (uniL_lt hx hy) i), uniL_get h (by omega), Nat.testBit_or, (Nt.mem_iff (hg hy i)).1 hk, Bool.or_true]
theorem hop_uni {a : Ac} {x y : List Nat} (h : x.length = y.length) (hx : ∀ a ∈ x, a < 2 ^ 128) (hy : ∀ a ∈ y, a < 2 ^ 128) (t : Ct) : Hop a (allL 0 (uniL x y)) t ↔ Hop a (allL 0 x) t ∨ Hop a (allL 0 y) t := by
  rw [Hop.one]
  constructor
  · rintro ⟨p, hp, hh⟩
    rcases (mem_uni h hx hy p).1 hp with q | q
    · exact .inl (Hop.one.2 ⟨p, q, hh⟩)
    · exact .inr (Hop.one.2 ⟨p, q, hh⟩)
  · rintro (q | q)
    · obtain ⟨p, hp, hh⟩ := Hop.one.1 q
      exact ⟨p, (mem_uni h hx hy p).2 (.inl hp), hh⟩
    · obtain ⟨p, hp, hh⟩ := Hop.one.1 q
      exact ⟨p, (mem_uni h hx hy p).2 (.inr hp), hh⟩
theorem uni_ok {a : Ac} {x y : List Nat} (hxl : ∀ a ∈ x, a < 2 ^ 128) (hyl : ∀ a ∈ y, a < 2 ^ 128) (hx : allErr a x = 0) (hy : allErr a y = 0) : allErr a (uniL x y) = 0 := by
  obtain ⟨h1, h2, h3⟩ := allErr_ok hx
  obtain ⟨_, k2, k3⟩ := allErr_ok hy
  have hl : x.length = y.length := by omega
  have hg : ∀ {l : List Nat} (_ : ∀ a ∈ l, a < 2 ^ 128) (i : Nat), l.getD i 0 < 2 ^ 128 := fun {l} hl i => by
    rw [List.getD_eq_getElem?_getD]
    cases hc : l[i]? with
    | none => simp
    | some a => exact hl a (List.mem_of_getElem? hc)
  refine allErr_zero h1 (by rw [uniL_len hl]; exact h2) fun i hi => ?_
  rw [uniL_len hl] at hi
  unfold okOne
  rw [List.all_eq_true]
  intro k hk
  rw [Nt.mem_iff (hg (uniL_lt hxl hyl) i), uniL_get hl hi, Nat.testBit_or, Bool.or_eq_true] at hk
  rcases hk with hk | hk
  · have := List.all_eq_true.1 h3 i (List.mem_range.2 hi)
    exact List.all_eq_true.1 this k ((Nt.mem_iff (hg hxl i)).2 hk)
  · have := List.all_eq_true.1 k3 i (List.mem_range.2 (by omega))
    exact List.all_eq_true.1 this k ((Nt.mem_iff (hg hyl i)).2 hk)
theorem snd_uni {a : Ac} {x y : List Nat} (h : x.length = y.length) (hx : ∀ a ∈ x, a < 2 ^ 128) (hy : ∀ a ∈ y, a < 2 ^ 128) {off d i : Nat} (hd : d < x.length) (hs : Snd a x off d i) : Snd a (uniL x y) off d i := by
  rcases hs with q | ⟨q1, q2⟩
  · exact .inl ((hop_uni h hx hy _).2 (.inl q))
  · exact .inr ⟨q1, by rw [uniL_get h hd, Nat.testBit_or, q2, Bool.true_or]⟩
/-- The action with all couplers drawn, with none. -/
def drawA (a : Ac) (d : Nat) : Ac := { a with drawn := d }
theorem drawA_right {a : Ac} (h : rightF a = 0) {d : Nat} (hd : d < 2 ^ a.cps.length) : rightF (drawA a d) = 0 := by
  have hc : checkF a.divs a.cps = 0 := by
    unfold rightF at h
    by_cases q : checkF a.divs a.cps = 0
    · exact q
    · rw [if_neg q] at h; exact absurd h q
  unfold rightF
  show (if checkF a.divs a.cps = 0 then (if d >>> a.cps.length = 0 then 0 else 3) else checkF a.divs a.cps) = 0
  rw [if_pos hc, if_pos]
  rw [Nat.shiftRight_eq_div_pow]
  exact Nat.div_eq_of_lt hd
theorem drawA_all {a : Ac} {pl : List Ct} {t : Ct} (ht : Hop a pl t) : Hop (drawA a (2 ^ a.cps.length - 1)) pl t := by
  have hb : ∀ i c u, stepF a i c = some u → (2 ^ a.cps.length - 1).testBit i = true := fun i c u hs => by
    rw [Nat.testBit_two_pow_sub_one]
    refine decide_eq_true ?_
    rcases Nat.lt_or_ge i a.cps.length with q | q
    · exact q
    · unfold stepF at hs
      rw [List.getElem?_eq_none q] at hs
      cases hs
  induction ht with
  | first q1 q2 q3 => exact .first q1 (hb _ _ _ q3) q3
  | more _ q2 q3 q4 ih => exact .more ih (hb _ _ _ q4) q3 q4
theorem drawA_none {a : Ac} {pl : List Ct} {t : Ct} : ¬ Hop (drawA a 0) pl t := by
  intro h
  induction h with
  | first _ q2 _ => simp [drawA] at q2
  | more _ _ _ _ ih => exact ih
theorem drawA_allErr {a : Ac} {ks : List Nat} (h : allErr a ks = 0) {d : Nat} (hd : d < 2 ^ a.cps.length) : allErr (drawA a d) ks = 0 := by
  obtain ⟨h1, h2, h3⟩ := allErr_ok h
  exact allErr_zero (drawA_right h1 hd) h2 fun i hi => List.all_eq_true.1 h3 i (List.mem_range.2 hi)
theorem andn_sub {x y : Nat} (h : ∀ i, x.testBit i = true → y.testBit i = true) : Hit.andn x y = 0 := Nat.eq_of_testBit_eq fun k => by
  rw [Hit.andn_test, Nat.zero_testBit]
  cases hb : x.testBit k with
  | false => rfl
  | true => rw [h k hb]; rfl
end Cou
end Go.Proofs.YtnkjhppjjklgfaaDoor
