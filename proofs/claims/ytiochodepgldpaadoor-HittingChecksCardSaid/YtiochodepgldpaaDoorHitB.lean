/- Plain: the search returns the first list that hits all sets, and the first shortest one. -/
import Derived.Test.YtiochodepgldpaaDoorHit
namespace Go.Proofs.YtiochodepgldpaaDoor
namespace Hit
/-- In lexicographic order, a part before the whole. -/
def LexLe : List Nat → List Nat → Prop
  | [], _ => True
  | _ :: _, [] => False
  | x :: a, y :: b => x < y ∨ (x = y ∧ LexLe a b)
theorem LexLe.refl : ∀ a, LexLe a a
  | [] => trivial
  | _ :: a => .inr ⟨rfl, LexLe.refl a⟩
/-- Further numbers that hit all sets. -/
structure Ok (ws : List Nat) (taken n size : Nat) (most : Int) (X : List Nat) : Prop where
  inc : Inc X
  lo : ∀ x ∈ X, n ≤ x ∧ x < size
  len : (X.length : Int) ≤ most
  hits : hit ws (taken ||| word X) = true
theorem hit_bit {s w : Nat} (h : s &&& w ≠ 0) : ∃ i, s.testBit i = true ∧ w.testBit i = true := by
  by_cases hh : ∃ i, s.testBit i = true ∧ w.testBit i = true
  · exact hh
  · exfalso
    refine h ((and_zero_iff s w).2 fun i hi => ?_)
    cases hw : w.testBit i with
    | false => rfl
    | true => exact absurd ⟨i, hi, hw⟩ hh
theorem andn_zero (s : Nat) : andn s 0 = s := by simp [andn]
theorem filter_drop (l : List Nat) (p q : Nat → Bool) (x : Nat) (hx : x ∈ l) (hp : p x = true) (hq : q x = false) (h : ∀ y, q y = true → p y = true) : (l.filter q).length + 1 ≤ (l.filter p).length := by
  induction l with
  | nil => simp at hx
  | cons y l ih =>
    have hle : (l.filter q).length ≤ (l.filter p).length := by
      clear ih hx
      induction l with
      | nil => simp
      | cons z l ih =>
        rw [List.filter_cons, List.filter_cons]
        cases hz : q z with
        | true => simp [h z hz]; exact ih
        | false => cases p z <;> simp <;> omega
    rw [List.filter_cons, List.filter_cons]
    by_cases e : x = y
    · subst e
      simp [hp, hq]
      exact hle
    · have hxl : x ∈ l := by simp only [List.mem_cons] at hx; rcases hx with h | h; exact absurd h e; exact h
      have := ih hxl
      cases hz : q y with
      | true => simp [h y hz]; exact this
      | false => cases p y <;> simp <;> omega
theorem apartGo_le (ws : List Nat) (i taken used : Nat) (X : List Nat) (h : ∀ s ∈ ws, s &&& (taken ||| word X) ≠ 0) :
    (apartGo ws i taken 0 used).length ≤ (X.filter fun x => !used.testBit x).length := by
  induction ws generalizing i used with
  | nil => simp [apartGo]
  | cons s r ih =>
    unfold apartGo
    split
    · rename_i hs
      rw [andn_zero] at hs ⊢
      obtain ⟨k, h1, h2⟩ := hit_bit (h s (by simp))
      rw [Nat.testBit_or] at h2
      have h3 := (and_zero_iff s taken).1 hs.1 k h1
      rw [h3, Bool.false_or, word_test] at h2
      have h4 := (and_zero_iff s used).1 hs.2 k h1
      have := ih (i + 1) (used ||| s) fun t ht => h t (by simp [ht])
      have hd := filter_drop X (fun x => !used.testBit x) (fun x => !(used ||| s).testBit x) k (by simpa using h2) (by simp [h4]) (by simp [h1]) (fun y hy => by simp at hy ⊢; exact hy.1)
      simp only [List.length_cons]
      omega
    · exact ih _ _ fun t ht => h t (by simp [ht])
theorem apart_le {ws : List Nat} {taken : Nat} {X : List Nat} (h : hit ws (taken ||| word X) = true) : (apart ws taken 0).length ≤ X.length := by
  have := apartGo_le ws 0 taken 0 X ((hit_iff _ _).1 h)
  have e : (X.filter fun x => !Nat.testBit 0 x) = X := List.filter_eq_self.2 fun x _ => by simp
  rw [e] at this
  exact this
theorem word_nil : word [] = 0 := rfl
theorem word_cons (x : Nat) (l : List Nat) : word (x :: l) = bit x ||| word l := ext fun i => by
  rw [word_test, Nat.testBit_or, bit_test, word_test, List.contains_cons]
  by_cases h : x = i
  · subst h; simp
  · have : (i == x) = false := by simp; exact fun e => h e.symm
    simp [h, this]
/-- What a search owes. -/
def Spec (ws : List Nat) (size : Nat) (r : Option Nat) (taken n : Nat) (most : Int) : Prop :=
  match r with
  | some w => ∃ X, Ok ws taken n size most X ∧ w = taken ||| word X ∧ ∀ Y, Ok ws taken n size most Y → LexLe X Y
  | none => ∀ X, ¬ Ok ws taken n size most X
theorem missed_at {ws : List Nat} {taken : Nat} (h : miss ws taken ≠ ws.length) : miss ws taken < ws.length ∧ ws.getD (miss ws taken) 0 ∈ ws ∧ ws.getD (miss ws taken) 0 &&& taken = 0 := by
  have hl : miss ws taken < ws.length := by have := miss_le ws taken; omega
  refine ⟨hl, ?_, ?_⟩
  · rw [List.getD_eq_getElem?_getD, List.getElem?_eq_getElem hl]
    exact List.getElem_mem _
  · rw [List.getD_eq_getElem?_getD, List.getElem?_eq_getElem hl]
    have := List.findIdx_getElem (xs := ws) (p := fun s => s &&& taken == 0) (w := hl)
    exact beq_iff_eq.1 this
theorem Ok.cons {ws : List Nat} {taken n size : Nat} {most : Int} {X : List Nat} (h : Ok ws (taken ||| bit n) (n + 1) size (most - 1) X) (hn : n < size) : Ok ws taken n size most (n :: X) :=
  ⟨⟨fun y hy => by have := (h.lo y hy).1; omega, h.inc⟩, fun x hx => by
    simp only [List.mem_cons] at hx
    rcases hx with rfl | hx
    · omega
    · have := h.lo x hx; omega,
   by have := h.len; simp only [List.length_cons]; omega, by rw [word_cons, ← Nat.or_assoc]; exact h.hits⟩
theorem Ok.tail {ws : List Nat} {taken n size : Nat} {most : Int} {X : List Nat} (h : Ok ws taken n size most (n :: X)) : Ok ws (taken ||| bit n) (n + 1) size (most - 1) X :=
  ⟨h.inc.2, fun x hx => by have := h.inc.1 x hx; have := h.lo x (by simp [hx]); omega, by have := h.len; simp only [List.length_cons] at this; omega, by have := h.hits; rw [word_cons, ← Nat.or_assoc] at this; exact this⟩
theorem shr_zero {s n : Nat} (h : s >>> n = 0) {i : Nat} (hi : n ≤ i) : s.testBit i = false := by
  have := Nat.testBit_shiftRight s (i := n) (j := i - n)
  rw [h] at this
  simp at this
  rw [show n + (i - n) = i from by omega] at this
  exact this
theorem apart_pos {ws : List Nat} {taken : Nat} (h : miss ws taken ≠ ws.length) : 0 < (apart ws taken 0).length := by
  obtain ⟨hl, hm, hz⟩ := missed_at h
  generalize ws.getD (miss ws taken) 0 = s at hm hz
  unfold apart
  clear h hl
  have : ∀ i, 0 < (apartGo ws i taken 0 0).length := by
    induction ws with
    | nil => simp at hm
    | cons t r ih =>
      intro i
      unfold apartGo
      split
      · simp
      · rename_i hn
        simp only [List.mem_cons] at hm
        rcases hm with rfl | hm
        · exact absurd ⟨hz, by simp⟩ hn
        · exact ih hm _
  exact this 0
theorem srchW_spec {ws : List Nat} {size : Nat} {rec : Nat → Nat → Nat → Int → Option Nat} {taken n : Nat} {most : Int}
    (hrec : miss ws taken ≠ ws.length → 0 < most → Spec ws size (rec (miss ws taken) taken n most) taken n most) (hm : 0 ≤ most) : Spec ws size (srchW ws rec taken n most) taken n most := by
  unfold srchW
  by_cases h0 : miss ws taken = ws.length
  · rw [if_pos h0]
    exact ⟨[], ⟨trivial, by simp, by simpa using hm, by rw [word_nil, Nat.or_zero]; exact (miss_hit _ _).1 h0⟩, by rw [word_nil, Nat.or_zero], fun Y _ => trivial⟩
  · rw [if_neg h0]
    by_cases h1 : ((apart ws taken 0).length : Int) > most
    · rw [if_pos h1]
      intro X hX
      have := apart_le hX.hits
      have := hX.len
      omega
    · rw [if_neg h1]
      exact hrec h0 (by have := apart_pos h0; omega)
theorem Ok.up {ws : List Nat} {taken n size : Nat} {most : Int} {X : List Nat} (h : Ok ws taken (n + 1) size most X) : Ok ws taken n size most X :=
  ⟨h.inc, fun x hx => by have := h.lo x hx; omega, h.len, h.hits⟩
theorem Ok.not_nil {ws : List Nat} {taken n size : Nat} {most : Int} {X : List Nat} (h0 : miss ws taken ≠ ws.length) (h : Ok ws taken n size most X) : ∃ x Y, X = x :: Y ∧ (x = n ∨ Ok ws taken (n + 1) size most X) := by
  cases X with
  | nil =>
    have := h.hits
    rw [word_nil, Nat.or_zero] at this
    exact absurd ((miss_hit _ _).2 this) h0
  | cons x X =>
    refine ⟨x, X, rfl, ?_⟩
    by_cases e : x = n
    · exact .inl e
    · right
      have hx := (h.lo x (by simp)).1
      refine ⟨h.inc, fun y hy => ⟨?_, (h.lo y hy).2⟩, h.len, h.hits⟩
      simp only [List.mem_cons] at hy
      rcases hy with rfl | hy
      · omega
      · have := h.inc.1 y hy; omega
theorem loop_spec (ws : List Nat) (size : Nat) : ∀ (d taken n : Nat) (most : Int), d = size - n → 0 < most → miss ws taken ≠ ws.length → Spec ws size (loopF ws d (miss ws taken) taken n most) taken n most := by
  intro d
  induction d with
  | zero =>
    intro taken n most hd hm h0 X hX
    obtain ⟨x, Y, rfl, _⟩ := hX.not_nil h0
    have := hX.lo x (by simp)
    omega
  | succ d ih =>
    intro taken n most hd hm h0
    have hsp : Spec ws size (srchW ws (loopF ws d) (taken ||| bit n) (n + 1) (most - 1)) (taken ||| bit n) (n + 1) (most - 1) :=
      srchW_spec (fun h1 hpos => ih _ _ _ (by omega) hpos h1) (by omega)
    unfold loopF
    cases hr : srchW ws (loopF ws d) (taken ||| bit n) (n + 1) (most - 1) with
    | some w =>
      rw [hr] at hsp
      obtain ⟨X, hX, hw, hmin⟩ := hsp
      refine ⟨n :: X, hX.cons (by omega), by rw [word_cons, ← Nat.or_assoc]; exact hw, fun Y hY => ?_⟩
      obtain ⟨y, Z, rfl, hy⟩ := hY.not_nil h0
      by_cases e : y = n
      · subst e; exact .inr ⟨rfl, hmin _ hY.tail⟩
      · have := (hY.lo y (by simp)).1; exact .inl (by omega)
    | none =>
      rw [hr] at hsp
      have hno : ∀ Y, ¬ Ok ws taken n size most (n :: Y) := fun Y hY => hsp _ hY.tail
      by_cases hs : ws.getD (miss ws taken) 0 >>> (n + 1) = 0
      · simp only [hs, if_true]
        intro X hX
        obtain ⟨x, Y, rfl, hx⟩ := hX.not_nil h0
        rcases hx with rfl | hx
        · exact hno _ hX
        · obtain ⟨_, hm1, hm2⟩ := missed_at h0
          obtain ⟨k, k1, k2⟩ := hit_bit ((hit_iff _ _).1 hx.hits _ hm1)
          rw [Nat.testBit_or, (and_zero_iff _ _).1 hm2 k k1, Bool.false_or, word_test] at k2
          have := hx.lo k (by simpa using k2)
          rw [shr_zero hs this.1] at k1
          cases k1
      · simp only [hs, if_false]
        have := ih taken (n + 1) most (by omega) hm h0
        cases hl : loopF ws d (miss ws taken) taken (n + 1) most with
        | some w =>
          rw [hl] at this
          obtain ⟨X, hX, hw, hmin⟩ := this
          refine ⟨X, hX.up, hw, fun Y hY => ?_⟩
          obtain ⟨y, Z, rfl, hy⟩ := hY.not_nil h0
          rcases hy with rfl | hy
          · exact absurd hY (hno _)
          · exact hmin _ hy
        | none =>
          rw [hl] at this
          intro X hX
          obtain ⟨y, Z, rfl, hy⟩ := hX.not_nil h0
          rcases hy with rfl | hy
          · exact hno _ hX
          · exact this _ hy
theorem srch_spec (ws : List Nat) (size taken n : Nat) (most : Int) (hm : 0 ≤ most) : Spec ws size (srch ws (size - n) taken n most) taken n most :=
  srchW_spec (fun h1 hpos => loop_spec ws size _ _ _ _ rfl hpos h1) hm
/-- The first shortest list, as bits. -/
def leastGo (ws : List Nat) (size : Nat) : Nat → Nat → Nat
  | 0, k => (srch ws size 0 0 (k : Int)).getD 0
  | f + 1, k => match srch ws size 0 0 (k : Int) with
    | some w => w
    | none => leastGo ws size f (k + 1)
def least (ws : List Nat) (size : Nat) : Nat := leastGo ws size size 0
/-- Sets that are not empty, of numbers less than size. -/
def Good (ws : List Nat) (size : Nat) : Prop := ∀ s ∈ ws, s ≠ 0 ∧ s < 2 ^ size
theorem inc_range (n : Nat) : Inc (List.range n) := by rw [List.range_eq_range']; exact inc_range' 0 n
theorem all_ok {ws : List Nat} {size : Nat} (h : Good ws size) : Ok ws 0 0 size size (List.range size) :=
  ⟨inc_range _, fun x hx => by simpa using hx, by simp, by
    rw [hit_iff]
    intro s hs e
    obtain ⟨h1, h2⟩ := h s hs
    refine h1 ((zero_iff s).2 fun i => ?_)
    cases hi : s.testBit i with
    | false => rfl
    | true =>
      have := (and_zero_iff _ _).1 e i hi
      rw [Nat.zero_or, word_test] at this
      rcases Nat.lt_or_ge i size with hl | hl
      · simp at this; omega
      · rw [test_of_lt h2 hl] at hi; cases hi⟩
/-- What Least owes: a list X of numbers that hits all sets, the first one of the shortest. -/
structure IsLeast (ws : List Nat) (size w : Nat) (X : List Nat) : Prop where
  ok : Ok ws 0 0 size X.length X
  word : w = word X
  short : ∀ Y, Ok ws 0 0 size Y.length Y → X.length ≤ Y.length
  first : ∀ Y, Ok ws 0 0 size X.length Y → LexLe X Y
theorem leastGo_spec {ws : List Nat} {size : Nat} (h : Good ws size) : ∀ (f k : Nat), f + k = size → (∀ j < k, ∀ X, ¬ Ok ws 0 0 size (j : Int) X) → ∃ X, IsLeast ws size (leastGo ws size f k) X ∧ k ≤ X.length := by
  have fin : ∀ (k w : Nat), srch ws size 0 0 (k : Int) = some w → (∀ j < k, ∀ X, ¬ Ok ws 0 0 size (j : Int) X) → ∃ X, IsLeast ws size w X ∧ k ≤ X.length := by
    intro k w hs hj
    have := srch_spec ws size 0 0 k (by omega)
    rw [Nat.sub_zero, hs] at this
    obtain ⟨X, hX, hw, hmin⟩ := this
    rw [Nat.zero_or] at hw
    have hlk : X.length = k := by
      have h1 := hX.len
      rcases Nat.lt_or_ge X.length k with hlt | hge
      · exact absurd ⟨hX.inc, hX.lo, by simp, hX.hits⟩ (hj _ hlt X)
      · omega
    refine ⟨X, ⟨by rw [hlk]; exact hX, hw, fun Y hY => ?_, by rw [hlk]; exact hmin⟩, by omega⟩
    rcases Nat.lt_or_ge Y.length k with hlt | hge
    · exact absurd hY (hj _ hlt Y)
    · omega
  intro f
  induction f with
  | zero =>
    intro k hk hj
    unfold leastGo
    have := srch_spec ws size 0 0 k (by omega)
    rw [Nat.sub_zero] at this
    cases hs : srch ws size 0 0 (k : Int) with
    | some w => exact fin k w hs hj
    | none =>
      rw [hs] at this
      have e : k = size := by omega
      subst e
      exact absurd (all_ok h) (this _)
  | succ f ih =>
    intro k hk hj
    unfold leastGo
    have := srch_spec ws size 0 0 k (by omega)
    rw [Nat.sub_zero] at this
    cases hs : srch ws size 0 0 (k : Int) with
    | some w => exact fin k w hs hj
    | none =>
      rw [hs] at this
      obtain ⟨X, h1, h2⟩ := ih (k + 1) (by omega) fun j hjk => by
        rcases Nat.lt_or_ge j k with hlt | hge
        · exact hj j hlt
        · have : j = k := by omega
          subst this
          assumption
      exact ⟨X, h1, by omega⟩
theorem least_spec {ws : List Nat} {size : Nat} (h : Good ws size) : ∃ X, IsLeast ws size (least ws size) X := by
  obtain ⟨X, h1, _⟩ := leastGo_spec h size 0 (by omega) fun j hj => absurd hj (by omega)
  exact ⟨X, h1⟩
end Hit
end Go.Proofs.YtiochodepgldpaaDoor
