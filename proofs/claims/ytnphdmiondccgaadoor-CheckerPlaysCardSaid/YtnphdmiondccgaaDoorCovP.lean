/- Plain: the hitting sets: search, proof trees, lists in order, disjoint lists, words of problems, covers. Plain: the number of bits, byte by byte; the lowest bit. -/
import Derived.Test.YtnphdmiondccgaaDoorHit
import Derived.Lib.BitFns
import Derived.Lib.Tables
import Derived.Lib.TrailingZeros
/- Plain: the search returns the first list that hits all sets, and the first shortest one. -/
namespace Go.Proofs.YtnphdmiondccgaaDoor
namespace Hit
/-- In lexicographic order, a part before the whole. -/
def LexLe : List Nat → List Nat → Prop
  | [], _ => True
  | _ :: _, [] => False
  | x :: a, y :: b => x < y ∨ (x = y ∧ LexLe a b)
theorem LexLe.refl : ∀ a, LexLe a a
  | [] => trivial
  | _ :: a => .inr ⟨rfl, LexLe.refl a⟩
/-- Further numbers that hit all sets. -/
structure Ok (ws : List Nat) (taken n size : Nat) (most : Int) (X : List Nat) : Prop where
  inc : Inc X
  lo : ∀ x ∈ X, n ≤ x ∧ x < size
  len : (X.length : Int) ≤ most
  hits : hit ws (taken ||| word X) = true
theorem hit_bit {s w : Nat} (h : s &&& w ≠ 0) : ∃ i, s.testBit i = true ∧ w.testBit i = true := by
  by_cases hh : ∃ i, s.testBit i = true ∧ w.testBit i = true
  · exact hh
  · exfalso
    refine h ((and_zero_iff s w).2 fun i hi => ?_)
    cases hw : w.testBit i with
    | false => rfl
    | true => exact absurd ⟨i, hi, hw⟩ hh
theorem andn_zero (s : Nat) : andn s 0 = s := by simp [andn]
theorem filter_drop (l : List Nat) (p q : Nat → Bool) (x : Nat) (hx : x ∈ l) (hp : p x = true) (hq : q x = false) (h : ∀ y, q y = true → p y = true) : (l.filter q).length + 1 ≤ (l.filter p).length := by
  induction l with
  | nil => simp at hx
  | cons y l ih =>
    have hle : (l.filter q).length ≤ (l.filter p).length := by
      clear ih hx
      induction l with
      | nil => simp
      | cons z l ih =>
        rw [List.filter_cons, List.filter_cons]
        cases hz : q z with
        | true => simp [h z hz]; exact ih
        | false => cases p z <;> simp <;> omega
    rw [List.filter_cons, List.filter_cons]
    by_cases e : x = y
    · subst e
      simp [hp, hq]
      exact hle
    · have hxl : x ∈ l := by simp only [List.mem_cons] at hx; rcases hx with h | h; exact absurd h e; exact h
      have := ih hxl
      cases hz : q y with
      | true => simp [h y hz]; exact this
      | false => cases p y <;> simp <;> omega
theorem apartGo_le (ws : List Nat) (i taken used : Nat) (X : List Nat) (h : ∀ s ∈ ws, s &&& (taken ||| word X) ≠ 0) :
    (apartGo ws i taken 0 used).length ≤ (X.filter fun x => !used.testBit x).length := by
  induction ws generalizing i used with
  | nil => simp [apartGo]
  | cons s r ih =>
    unfold apartGo
    split
    · rename_i hs
      rw [andn_zero] at hs ⊢
      obtain ⟨k, h1, h2⟩ := hit_bit (h s (by simp))
      rw [Nat.testBit_or] at h2
      have h3 := (and_zero_iff s taken).1 hs.1 k h1
      rw [h3, Bool.false_or, word_test] at h2
      have h4 := (and_zero_iff s used).1 hs.2 k h1
      have := ih (i + 1) (used ||| s) fun t ht => h t (by simp [ht])
      have hd := filter_drop X (fun x => !used.testBit x) (fun x => !(used ||| s).testBit x) k (by simpa using h2) (by simp [h4]) (by simp [h1]) (fun y hy => by simp at hy ⊢; exact hy.1)
      simp only [List.length_cons]
      omega
    · exact ih _ _ fun t ht => h t (by simp [ht])
theorem apart_le {ws : List Nat} {taken : Nat} {X : List Nat} (h : hit ws (taken ||| word X) = true) : (apart ws taken 0).length ≤ X.length := by
  have := apartGo_le ws 0 taken 0 X ((hit_iff _ _).1 h)
  have e : (X.filter fun x => !Nat.testBit 0 x) = X := List.filter_eq_self.2 fun x _ => by simp
  rw [e] at this
  exact this
theorem word_nil : word [] = 0 := rfl
theorem word_cons (x : Nat) (l : List Nat) : word (x :: l) = bit x ||| word l := ext fun i => by
  rw [word_test, Nat.testBit_or, bit_test, word_test, List.contains_cons]
  by_cases h : x = i
  · subst h; simp
  · have : (i == x) = false := by simp; exact fun e => h e.symm
    simp [h, this]
/-- What a search owes. -/
def Spec (ws : List Nat) (size : Nat) (r : Option Nat) (taken n : Nat) (most : Int) : Prop :=
  match r with
  | some w => ∃ X, Ok ws taken n size most X ∧ w = taken ||| word X ∧ ∀ Y, Ok ws taken n size most Y → LexLe X Y
  | none => ∀ X, ¬ Ok ws taken n size most X
theorem missed_at {ws : List Nat} {taken : Nat} (h : miss ws taken ≠ ws.length) : miss ws taken < ws.length ∧ ws.getD (miss ws taken) 0 ∈ ws ∧ ws.getD (miss ws taken) 0 &&& taken = 0 := by
  have hl : miss ws taken < ws.length := by have := miss_le ws taken; omega
  refine ⟨hl, ?_, ?_⟩
  · rw [List.getD_eq_getElem?_getD, List.getElem?_eq_getElem hl]
    exact List.getElem_mem _
  · rw [List.getD_eq_getElem?_getD, List.getElem?_eq_getElem hl]
    have := List.findIdx_getElem (xs := ws) (p := fun s => s &&& taken == 0) (w := hl)
    exact beq_iff_eq.1 this
theorem Ok.cons {ws : List Nat} {taken n size : Nat} {most : Int} {X : List Nat} (h : Ok ws (taken ||| bit n) (n + 1) size (most - 1) X) (hn : n < size) : Ok ws taken n size most (n :: X) :=
  ⟨⟨fun y hy => by have := (h.lo y hy).1; omega, h.inc⟩, fun x hx => by
    simp only [List.mem_cons] at hx
    rcases hx with rfl | hx
    · omega
    · have := h.lo x hx; omega,
   by have := h.len; simp only [List.length_cons]; omega, by rw [word_cons, ← Nat.or_assoc]; exact h.hits⟩
theorem Ok.tail {ws : List Nat} {taken n size : Nat} {most : Int} {X : List Nat} (h : Ok ws taken n size most (n :: X)) : Ok ws (taken ||| bit n) (n + 1) size (most - 1) X :=
  ⟨h.inc.2, fun x hx => by have := h.inc.1 x hx; have := h.lo x (by simp [hx]); omega, by have := h.len; simp only [List.length_cons] at this; omega, by have := h.hits; rw [word_cons, ← Nat.or_assoc] at this; exact this⟩
theorem shr_zero {s n : Nat} (h : s >>> n = 0) {i : Nat} (hi : n ≤ i) : s.testBit i = false := by
  have := Nat.testBit_shiftRight s (i := n) (j := i - n)
  rw [h] at this
  simp at this
  rw [show n + (i - n) = i from by omega] at this
  exact this
theorem apart_pos {ws : List Nat} {taken : Nat} (h : miss ws taken ≠ ws.length) : 0 < (apart ws taken 0).length := by
  obtain ⟨hl, hm, hz⟩ := missed_at h
  generalize ws.getD (miss ws taken) 0 = s at hm hz
  unfold apart
  clear h hl
  have : ∀ i, 0 < (apartGo ws i taken 0 0).length := by
    induction ws with
    | nil => simp at hm
    | cons t r ih =>
      intro i
      unfold apartGo
      split
      · simp
      · rename_i hn
        simp only [List.mem_cons] at hm
        rcases hm with rfl | hm
        · exact absurd ⟨hz, by simp⟩ hn
        · exact ih hm _
  exact this 0
theorem srchW_spec {ws : List Nat} {size : Nat} {rec : Nat → Nat → Nat → Int → Option Nat} {taken n : Nat} {most : Int}
    (hrec : miss ws taken ≠ ws.length → 0 < most → Spec ws size (rec (miss ws taken) taken n most) taken n most) (hm : 0 ≤ most) : Spec ws size (srchW ws rec taken n most) taken n most := by
  unfold srchW
  by_cases h0 : miss ws taken = ws.length
  · rw [if_pos h0]
    exact ⟨[], ⟨trivial, by simp, by simpa using hm, by rw [word_nil, Nat.or_zero]; exact (miss_hit _ _).1 h0⟩, by rw [word_nil, Nat.or_zero], fun Y _ => trivial⟩
  · rw [if_neg h0]
    by_cases h1 : ((apart ws taken 0).length : Int) > most
    · rw [if_pos h1]
      intro X hX
      have := apart_le hX.hits
      have := hX.len
      omega
    · rw [if_neg h1]
      exact hrec h0 (by have := apart_pos h0; omega)
theorem Ok.up {ws : List Nat} {taken n size : Nat} {most : Int} {X : List Nat} (h : Ok ws taken (n + 1) size most X) : Ok ws taken n size most X :=
  ⟨h.inc, fun x hx => by have := h.lo x hx; omega, h.len, h.hits⟩
theorem Ok.not_nil {ws : List Nat} {taken n size : Nat} {most : Int} {X : List Nat} (h0 : miss ws taken ≠ ws.length) (h : Ok ws taken n size most X) : ∃ x Y, X = x :: Y ∧ (x = n ∨ Ok ws taken (n + 1) size most X) := by
  cases X with
  | nil =>
    have := h.hits
    rw [word_nil, Nat.or_zero] at this
    exact absurd ((miss_hit _ _).2 this) h0
  | cons x X =>
    refine ⟨x, X, rfl, ?_⟩
    by_cases e : x = n
    · exact .inl e
    · right
      have hx := (h.lo x (by simp)).1
      refine ⟨h.inc, fun y hy => ⟨?_, (h.lo y hy).2⟩, h.len, h.hits⟩
      simp only [List.mem_cons] at hy
      rcases hy with rfl | hy
      · omega
      · have := h.inc.1 y hy; omega
theorem loop_spec (ws : List Nat) (size : Nat) : ∀ (d taken n : Nat) (most : Int), d = size - n → 0 < most → miss ws taken ≠ ws.length → Spec ws size (loopF ws d (miss ws taken) taken n most) taken n most := by
  intro d
  induction d with
  | zero =>
    intro taken n most hd hm h0 X hX
    obtain ⟨x, Y, rfl, _⟩ := hX.not_nil h0
    have := hX.lo x (by simp)
    omega
  | succ d ih =>
    intro taken n most hd hm h0
    have hsp : Spec ws size (srchW ws (loopF ws d) (taken ||| bit n) (n + 1) (most - 1)) (taken ||| bit n) (n + 1) (most - 1) :=
      srchW_spec (fun h1 hpos => ih _ _ _ (by omega) hpos h1) (by omega)
    unfold loopF
    cases hr : srchW ws (loopF ws d) (taken ||| bit n) (n + 1) (most - 1) with
    | some w =>
      rw [hr] at hsp
      obtain ⟨X, hX, hw, hmin⟩ := hsp
      refine ⟨n :: X, hX.cons (by omega), by rw [word_cons, ← Nat.or_assoc]; exact hw, fun Y hY => ?_⟩
      obtain ⟨y, Z, rfl, hy⟩ := hY.not_nil h0
      by_cases e : y = n
      · subst e; exact .inr ⟨rfl, hmin _ hY.tail⟩
      · have := (hY.lo y (by simp)).1; exact .inl (by omega)
    | none =>
      rw [hr] at hsp
      have hno : ∀ Y, ¬ Ok ws taken n size most (n :: Y) := fun Y hY => hsp _ hY.tail
      by_cases hs : ws.getD (miss ws taken) 0 >>> (n + 1) = 0
      · simp only [hs, if_true]
        intro X hX
        obtain ⟨x, Y, rfl, hx⟩ := hX.not_nil h0
        rcases hx with rfl | hx
        · exact hno _ hX
        · obtain ⟨_, hm1, hm2⟩ := missed_at h0
          obtain ⟨k, k1, k2⟩ := hit_bit ((hit_iff _ _).1 hx.hits _ hm1)
          rw [Nat.testBit_or, (and_zero_iff _ _).1 hm2 k k1, Bool.false_or, word_test] at k2
          have := hx.lo k (by simpa using k2)
          rw [shr_zero hs this.1] at k1
          cases k1
      · simp only [hs, if_false]
        have := ih taken (n + 1) most (by omega) hm h0
        cases hl : loopF ws d (miss ws taken) taken (n + 1) most with
        | some w =>
          rw [hl] at this
          obtain ⟨X, hX, hw, hmin⟩ := this
          refine ⟨X, hX.up, hw, fun Y hY => ?_⟩
          obtain ⟨y, Z, rfl, hy⟩ := hY.not_nil h0
          rcases hy with rfl | hy
          · exact absurd hY (hno _)
          · exact hmin _ hy
        | none =>
          rw [hl] at this
          intro X hX
          obtain ⟨y, Z, rfl, hy⟩ := hX.not_nil h0
          rcases hy with rfl | hy
          · exact hno _ hX
          · exact this _ hy
theorem srch_spec (ws : List Nat) (size taken n : Nat) (most : Int) (hm : 0 ≤ most) : Spec ws size (srch ws (size - n) taken n most) taken n most :=
  srchW_spec (fun h1 hpos => loop_spec ws size _ _ _ _ rfl hpos h1) hm
/-- The first shortest list, as bits. -/
def leastGo (ws : List Nat) (size : Nat) : Nat → Nat → Nat
  | 0, k => (srch ws size 0 0 (k : Int)).getD 0
  | f + 1, k => match srch ws size 0 0 (k : Int) with
    | some w => w
    | none => leastGo ws size f (k + 1)
def least (ws : List Nat) (size : Nat) : Nat := leastGo ws size size 0
/-- Sets that are not empty, of numbers less than size. -/
def Good (ws : List Nat) (size : Nat) : Prop := ∀ s ∈ ws, s ≠ 0 ∧ s < 2 ^ size
theorem inc_range (n : Nat) : Inc (List.range n) := by rw [List.range_eq_range']; exact inc_range' 0 n
theorem all_ok {ws : List Nat} {size : Nat} (h : Good ws size) : Ok ws 0 0 size size (List.range size) :=
  ⟨inc_range _, fun x hx => by simpa using hx, by simp, by
    rw [hit_iff]
    intro s hs e
    obtain ⟨h1, h2⟩ := h s hs
    refine h1 ((zero_iff s).2 fun i => ?_)
    cases hi : s.testBit i with
    | false => rfl
    | true =>
      have := (and_zero_iff _ _).1 e i hi
      rw [Nat.zero_or, word_test] at this
      rcases Nat.lt_or_ge i size with hl | hl
      · simp at this; omega
      · rw [test_of_lt h2 hl] at hi; cases hi⟩
/-- What Least owes: a list X of numbers that hits all sets, the first one of the shortest. -/
structure IsLeast (ws : List Nat) (size w : Nat) (X : List Nat) : Prop where
  ok : Ok ws 0 0 size X.length X
  word : w = word X
  short : ∀ Y, Ok ws 0 0 size Y.length Y → X.length ≤ Y.length
  first : ∀ Y, Ok ws 0 0 size X.length Y → LexLe X Y
theorem leastGo_spec {ws : List Nat} {size : Nat} (h : Good ws size) : ∀ (f k : Nat), f + k = size → (∀ j < k, ∀ X, ¬ Ok ws 0 0 size (j : Int) X) → ∃ X, IsLeast ws size (leastGo ws size f k) X ∧ k ≤ X.length := by
  have fin : ∀ (k w : Nat), srch ws size 0 0 (k : Int) = some w → (∀ j < k, ∀ X, ¬ Ok ws 0 0 size (j : Int) X) → ∃ X, IsLeast ws size w X ∧ k ≤ X.length := by
    intro k w hs hj
    have := srch_spec ws size 0 0 k (by omega)
    rw [Nat.sub_zero, hs] at this
    obtain ⟨X, hX, hw, hmin⟩ := this
    rw [Nat.zero_or] at hw
    have hlk : X.length = k := by
      have h1 := hX.len
      rcases Nat.lt_or_ge X.length k with hlt | hge
      · exact absurd ⟨hX.inc, hX.lo, by simp, hX.hits⟩ (hj _ hlt X)
      · omega
    refine ⟨X, ⟨by rw [hlk]; exact hX, hw, fun Y hY => ?_, by rw [hlk]; exact hmin⟩, by omega⟩
    rcases Nat.lt_or_ge Y.length k with hlt | hge
    · exact absurd hY (hj _ hlt Y)
    · omega
  intro f
  induction f with
  | zero =>
    intro k hk hj
    unfold leastGo
    have := srch_spec ws size 0 0 k (by omega)
    rw [Nat.sub_zero] at this
    cases hs : srch ws size 0 0 (k : Int) with
    | some w => exact fin k w hs hj
    | none =>
      rw [hs] at this
      have e : k = size := by omega
      subst e
      exact absurd (all_ok h) (this _)
  | succ f ih =>
    intro k hk hj
    unfold leastGo
    have := srch_spec ws size 0 0 k (by omega)
    rw [Nat.sub_zero] at this
    cases hs : srch ws size 0 0 (k : Int) with
    | some w => exact fin k w hs hj
    | none =>
      rw [hs] at this
      obtain ⟨X, h1, h2⟩ := ih (k + 1) (by omega) fun j hjk => by
        rcases Nat.lt_or_ge j k with hlt | hge
        · exact hj j hlt
        · have : j = k := by omega
          subst this
          assumption
      exact ⟨X, h1, by omega⟩
theorem least_spec {ws : List Nat} {size : Nat} (h : Good ws size) : ∃ X, IsLeast ws size (least ws size) X := by
  obtain ⟨X, h1, _⟩ := leastGo_spec h size 0 (by omega) fun j hj => absurd hj (by omega)
  exact ⟨X, h1⟩
end Hit
end Go.Proofs.YtnphdmiondccgaaDoor
/- Plain: proof trees: how they are made, and how the reference reads them. -/
namespace Go.Proofs.YtnphdmiondccgaaDoor
namespace Hit
structure TNode where
  pick : Int
  yes : Int
  no : Int
  bound : Int
  weights : List Int
deriving DecidableEq
def pop (w : Nat) : Nat := (members w).length
/-- The lowest bit's place. -/
def tz (w : Nat) : Nat := (members w).headD 0
/-- The first set that is not hit and has no number left, or the first least rest of the others; 0 if there is none. -/
def bestGo : List Nat → Nat → Nat → Nat → Nat → Sum Nat Nat
  | [], _, _, _, best => .inr best
  | s :: r, i, taken, out, best =>
    if s &&& taken ≠ 0 then bestGo r (i + 1) taken out best
    else if andn s out = 0 then .inl i
    else bestGo r (i + 1) taken out (if best = 0 ∨ pop (andn s out) < pop best then andn s out else best)
def leafN (l : List Nat) : TNode := ⟨0, 0, 0, 0, l.map fun x : Nat => (x : Int)⟩
def nodeF (ws : List Nat) (size : Int) : Nat → Nat → Nat → Nat → List TNode
  | 0, _, _, _ => []
  | d + 1, at_, taken, out => match bestGo ws 0 taken out 0 with
    | .inl i => [leafN [i]]
    | .inr best =>
      if ((apart ws taken out).length : Int) + pop taken ≥ size ∨ best = 0 then [leafN (apart ws taken out)]
      else
        let ys := nodeF ws size d (at_ + 1) (taken ||| bit (tz best)) out
        let ns := nodeF ws size d (at_ + 1 + ys.length) taken (out ||| bit (tz best))
        ⟨tz best, (at_ + 1 : Nat), (at_ + 1 + ys.length : Nat), 0, []⟩ :: (ys ++ ns)
/-- The reference's test of a leaf, and of a list of nodes. -/
def apartR (ws : List Nat) (l : List Int) (out : Nat) : Bool :=
  (List.range l.length).all fun i => (List.range i).all fun k => l.getD i 0 != l.getD k 0 && andn (ws.getD (l.getD i 0).toNat 0 &&& ws.getD (l.getD k 0).toNat 0) out == 0
def leafR (ws : List Nat) (size : Int) (l : List Int) (taken out : Nat) : Bool :=
  (l.all fun i => decide (0 ≤ i) && decide (i < ws.length) && (ws.getD i.toNat 0 &&& taken == 0)) &&
    ((l.length == 1 && andn (ws.getD (l.headD 0).toNat 0) out == 0) || (apartR ws l out && decide ((pop taken : Int) + l.length ≥ size)))
def treeGo (ws : List Nat) (n : Nat) (size : Int) (len : Nat) : List TNode → Nat → List Nat → List Nat → List Bool → Bool
  | [], _, _, _, _ => true
  | x :: r, i, tk, ot, re =>
    if re.getD i false = false then treeGo ws n size len r (i + 1) tk ot re
    else if x.yes = 0 ∧ x.no = 0 then leafR ws size x.weights (tk.getD i 0) (ot.getD i 0) && treeGo ws n size len r (i + 1) tk ot re
    else if x.yes ≤ i ∨ x.no ≤ i ∨ x.yes ≥ len ∨ x.no ≥ len ∨ x.yes = x.no ∨ re.getD x.yes.toNat false = true ∨ re.getD x.no.toNat false = true then false
    else if x.pick < 0 ∨ x.pick ≥ n ∨ (tk.getD i 0 ||| ot.getD i 0).testBit x.pick.toNat = true then false
    else treeGo ws n size len r (i + 1)
      ((tk.set x.yes.toNat (tk.getD i 0 ||| bit x.pick.toNat)).set x.no.toNat (tk.getD i 0))
      ((ot.set x.yes.toNat (ot.getD i 0)).set x.no.toNat (ot.getD i 0 ||| bit x.pick.toNat))
      ((re.set x.yes.toNat true).set x.no.toNat true)
def treeF (ws : List Nat) (n : Nat) (size : Int) (t : List TNode) : Bool :=
  treeGo ws n size t.length t 0 (List.replicate t.length 0) (List.replicate t.length 0) ((List.replicate t.length false).set 0 true)
/-- The numbers less than n that are not in w. -/
def free (n w : Nat) : Nat := ((List.range n).filter fun i => !w.testBit i).length
def exWs : List Nat := [3, 6, 5]
theorem ex_least : members (least exWs 3) = [0, 1] := by decide +kernel
theorem ex_reduce : members (reduce exWs 7 [0, 1, 2]) = [1, 2] := by decide +kernel
theorem ex_count : ((List.range 8).filter fun w => hit exWs w).length = 4 := by decide +kernel
theorem ex_tree : treeF exWs 3 2 (nodeF exWs 2 4 0 0 0) = true := by decide +kernel
theorem ex_len : (nodeF exWs 2 4 0 0 0).length ≠ 0 := by decide +kernel
end Hit
end Go.Proofs.YtnphdmiondccgaaDoor
/- Plain: the tree that is made is a proof tree to the reference. -/
namespace Go.Proofs.YtnphdmiondccgaaDoor
namespace Hit
theorem apartGo_mem (ws : List Nat) : ∀ (i taken out used : Nat), ∀ x ∈ apartGo ws i taken out used, i ≤ x ∧ x < i + ws.length ∧ ws.getD (x - i) 0 &&& taken = 0 ∧ andn (ws.getD (x - i) 0) out &&& used = 0 := by
  induction ws with
  | nil => intro i taken out used x hx; simp [apartGo] at hx
  | cons s r ih =>
    intro i taken out used x hx
    unfold apartGo at hx
    have go : ∀ u, (∀ j, used.testBit j = true → u.testBit j = true) → x ∈ apartGo r (i + 1) taken out u → i ≤ x ∧ x < i + (s :: r).length ∧ (s :: r).getD (x - i) 0 &&& taken = 0 ∧ andn ((s :: r).getD (x - i) 0) out &&& used = 0 := by
      intro u hu h
      obtain ⟨h1, h2, h3, h4⟩ := ih _ _ _ _ x h
      refine ⟨by omega, by simp only [List.length_cons]; omega, ?_⟩
      rw [show x - i = (x - (i + 1)) + 1 from by omega, List.getD_cons_succ]
      refine ⟨h3, (and_zero_iff _ _).2 fun j hj => ?_⟩
      have := (and_zero_iff _ _).1 h4 j hj
      cases hb : used.testBit j with
      | false => rfl
      | true => rw [hu j hb] at this; cases this
    split at hx
    · rename_i hs
      simp only [List.mem_cons] at hx
      rcases hx with rfl | hx
      · simp; exact hs
      · exact go _ (fun j hj => by rw [Nat.testBit_or, hj]; rfl) hx
    · exact go _ (fun j hj => hj) hx
/-- Pairs of what is found have no number in common. -/
theorem apartGo_pairs (ws : List Nat) : ∀ (i taken out used : Nat), ∀ a b, b < a → a < (apartGo ws i taken out used).length →
    (apartGo ws i taken out used).getD b 0 < (apartGo ws i taken out used).getD a 0 ∧
      andn (ws.getD ((apartGo ws i taken out used).getD a 0 - i) 0 &&& ws.getD ((apartGo ws i taken out used).getD b 0 - i) 0) out = 0 := by
  induction ws with
  | nil => intro i taken out used a b _ ha; simp [apartGo] at ha
  | cons s r ih =>
    intro i taken out used a b hba ha
    unfold apartGo at ha ⊢
    have sh : ∀ (l : List Nat) (k : Nat), (∀ x ∈ l, i + 1 ≤ x) → k < l.length → (s :: r).getD (l.getD k 0 - i) 0 = r.getD (l.getD k 0 - (i + 1)) 0 ∧ i < l.getD k 0 := by
      intro l k hl hk
      have hm : l.getD k 0 ∈ l := by rw [List.getD_eq_getElem?_getD, List.getElem?_eq_getElem hk]; exact List.getElem_mem _
      have := hl _ hm
      refine ⟨?_, by omega⟩
      rw [show l.getD k 0 - i = (l.getD k 0 - (i + 1)) + 1 from by omega, List.getD_cons_succ]
    split
    · rename_i hs
      rw [if_pos hs] at ha
      have hmem := apartGo_mem r (i + 1) taken out (used ||| andn s out)
      have hl : ∀ x ∈ apartGo r (i + 1) taken out (used ||| andn s out), i + 1 ≤ x := fun x hx => (hmem x hx).1
      cases a with
      | zero => omega
      | succ a =>
        simp only [List.length_cons] at ha
        rw [List.getD_cons_succ]
        obtain ⟨e1, l1⟩ := sh _ a hl (by omega)
        cases b with
        | zero =>
          rw [List.getD_cons_zero, e1]
          refine ⟨l1, ?_⟩
          have hm : (apartGo r (i + 1) taken out (used ||| andn s out)).getD a 0 ∈ apartGo r (i + 1) taken out (used ||| andn s out) := by
            rw [List.getD_eq_getElem?_getD, List.getElem?_eq_getElem (by omega)]; exact List.getElem_mem _
          have h4 := (hmem _ hm).2.2.2
          rw [Nat.sub_self, List.getD_cons_zero]
          refine (zero_iff _).2 fun j => ?_
          rw [andn_test, Nat.testBit_and]
          cases h1 : (r.getD ((apartGo r (i + 1) taken out (used ||| andn s out)).getD a 0 - (i + 1)) 0).testBit j with
          | false => rfl
          | true =>
            cases h2 : s.testBit j with
            | false => rfl
            | true =>
              cases h3 : out.testBit j with
              | true => rfl
              | false =>
                have := (and_zero_iff _ _).1 h4 j (by rw [andn_test, h1, h3]; rfl)
                rw [Nat.testBit_or, andn_test, h2, h3] at this
                simp at this
        | succ b =>
          rw [List.getD_cons_succ]
          obtain ⟨e2, _⟩ := sh _ b hl (by omega)
          rw [e1, e2]
          exact ih _ _ _ _ a b (by omega) (by omega)
    · rename_i hs
      rw [if_neg hs] at ha
      have hl : ∀ x ∈ apartGo r (i + 1) taken out used, i + 1 ≤ x := fun x hx => (apartGo_mem r (i + 1) taken out used x hx).1
      obtain ⟨e1, _⟩ := sh _ a hl ha
      obtain ⟨e2, _⟩ := sh _ b hl (by omega)
      rw [e1, e2]
      exact ih _ _ _ _ a b hba ha
theorem bestGo_inl (ws : List Nat) : ∀ (i taken out best k : Nat), bestGo ws i taken out best = .inl k → i ≤ k ∧ k < i + ws.length ∧ ws.getD (k - i) 0 &&& taken = 0 ∧ andn (ws.getD (k - i) 0) out = 0 := by
  induction ws with
  | nil => intro i taken out best k h; cases h
  | cons s r ih =>
    intro i taken out best k h
    unfold bestGo at h
    have go : ∀ b, bestGo r (i + 1) taken out b = .inl k → i ≤ k ∧ k < i + (s :: r).length ∧ (s :: r).getD (k - i) 0 &&& taken = 0 ∧ andn ((s :: r).getD (k - i) 0) out = 0 := by
      intro b hb
      obtain ⟨h1, h2, h3, h4⟩ := ih _ _ _ _ _ hb
      refine ⟨by omega, by simp only [List.length_cons]; omega, ?_⟩
      rw [show k - i = (k - (i + 1)) + 1 from by omega, List.getD_cons_succ]
      exact ⟨h3, h4⟩
    split at h
    · exact go _ h
    · rename_i h1
      split at h
      · rename_i h2
        injection h with h
        subst h
        simp
        exact ⟨by simpa using h1, h2⟩
      · exact go _ h
theorem bestGo_inr (ws : List Nat) : ∀ (i taken out best b : Nat), bestGo ws i taken out best = .inr b →
    (b = best ∨ ∃ s ∈ ws, s &&& taken = 0 ∧ b = andn s out ∧ b ≠ 0) ∧ (b = 0 → best = 0 ∧ ∀ s ∈ ws, s &&& taken ≠ 0) := by
  induction ws with
  | nil => intro i taken out best b h; injection h with h; subst h; exact ⟨.inl rfl, fun h => ⟨h, by simp⟩⟩
  | cons s r ih =>
    intro i taken out best b h
    unfold bestGo at h
    split at h
    · rename_i h1
      obtain ⟨q1, q2⟩ := ih _ _ _ _ _ h
      refine ⟨?_, fun hb => ⟨(q2 hb).1, fun t ht => ?_⟩⟩
      · rcases q1 with q | ⟨t, ht, q⟩
        · exact .inl q
        · exact .inr ⟨t, by simp [ht], q⟩
      · simp only [List.mem_cons] at ht
        rcases ht with rfl | ht
        · exact h1
        · exact (q2 hb).2 t ht
    · rename_i h1
      split at h
      · cases h
      · rename_i h2
        obtain ⟨q1, q2⟩ := ih _ _ _ _ _ h
        refine ⟨?_, fun hb => ?_⟩
        · rcases q1 with q | ⟨t, ht, q⟩
          · split at q
            · exact .inr ⟨s, by simp, by simpa using h1, q, by rw [q]; exact h2⟩
            · exact .inl q
          · exact .inr ⟨t, by simp [ht], q⟩
        · have := (q2 hb).1
          split at this
          · exact absurd this h2
          · rename_i h3
            exact absurd (.inl this) h3
theorem tz_test {w : Nat} (h0 : w ≠ 0) (h : w < 2 ^ 64) : w.testBit (tz w) = true := by
  have hne : members w ≠ [] := by
    intro e
    refine h0 ((zero_iff w).2 fun i => ?_)
    rw [← members_contains h, e]; rfl
  unfold tz
  cases hm : members w with
  | nil => exact absurd hm hne
  | cons x l =>
    have : x ∈ members w := by rw [hm]; simp
    exact (mem_members.1 this).2
theorem free_lt {n w p : Nat} (hp : p < n) (h : w.testBit p = false) : free n (w ||| bit p) + 1 ≤ free n w :=
  filter_drop _ _ _ p (by simpa using hp) (by simp [h]) (by simp [bit_test]) fun y hy => by simp at hy ⊢; exact hy.1
theorem leaf_one {ws : List Nat} {size : Int} {taken out i : Nat} (h1 : i < ws.length) (h2 : ws.getD i 0 &&& taken = 0) (h3 : andn (ws.getD i 0) out = 0) : leafR ws size ([i].map fun x : Nat => (x : Int)) taken out = true := by
  rw [List.getD_eq_getElem?_getD] at h2 h3
  simp [leafR, h2, h3]
  omega
theorem getD_map_int (l : List Nat) (i : Nat) : (l.map fun x : Nat => (x : Int)).getD i 0 = (l.getD i 0 : Int) := by
  induction l generalizing i with
  | nil => simp
  | cons x l ih =>
    cases i with
    | zero => rfl
    | succ i => rw [List.map_cons, List.getD_cons_succ, List.getD_cons_succ]; exact ih i
theorem leaf_apart {ws : List Nat} {size : Int} {taken out : Nat} (h : ((apart ws taken out).length : Int) + pop taken ≥ size) : leafR ws size ((apart ws taken out).map fun x : Nat => (x : Int)) taken out = true := by
  have hm := apartGo_mem ws 0 taken out 0
  have hp := apartGo_pairs ws 0 taken out 0
  unfold leafR
  rw [Bool.and_eq_true]
  constructor
  · rw [List.all_map, List.all_eq_true]
    intro x hx
    obtain ⟨_, h2, h3, _⟩ := hm x hx
    simp only [Nat.sub_zero] at h3
    rw [List.getD_eq_getElem?_getD] at h3
    simp [h3]
    omega
  · rw [Bool.or_eq_true]
    right
    rw [Bool.and_eq_true]
    constructor
    · unfold apartR
      simp only [List.all_eq_true, List.mem_range, List.length_map, getD_map_int, Int.toNat_natCast, Bool.and_eq_true, bne_iff_ne, beq_iff_eq]
      intro a ha b hb
      obtain ⟨q1, q2⟩ := hp a b hb ha
      simp only [Nat.sub_zero] at q2
      exact ⟨by unfold apart; omega, q2⟩
    · simp only [List.length_map, decide_eq_true_eq]
      omega
theorem getD_set_ne {α : Type} (l : List α) (i j : Nat) (x d : α) (h : i ≠ j) : (l.set i x).getD j d = l.getD j d := by
  rw [List.getD_eq_getElem?_getD, List.getD_eq_getElem?_getD, List.getElem?_set_ne h]
theorem getD_set_eq {α : Type} (l : List α) (i : Nat) (x d : α) (h : i < l.length) : (l.set i x).getD i d = x := by
  rw [List.getD_eq_getElem?_getD, List.getElem?_set_self h]; rfl
/-- Arrays that are the same but for places from a to less than b. -/
def Same (a b : Nat) (tk ot : List Nat) (re : List Bool) (tk' ot' : List Nat) (re' : List Bool) : Prop :=
  (tk'.length = tk.length ∧ ot'.length = ot.length ∧ re'.length = re.length) ∧ ∀ j, j < a ∨ b ≤ j → tk'.getD j 0 = tk.getD j 0 ∧ ot'.getD j 0 = ot.getD j 0 ∧ re'.getD j false = re.getD j false
theorem nodeF_pos (ws : List Nat) (size : Int) (d at_ taken out : Nat) : 0 < (nodeF ws size (d + 1) at_ taken out).length := by
  unfold nodeF
  split
  · simp
  · split <;> simp
theorem node_tree {ws : List Nat} {n : Nat} {size : Int} (hg : Good ws n) (hn : n ≤ 64) (hsz : ∀ Y, Ok ws 0 0 n Y.length Y → size ≤ Y.length) (len : Nat) :
    ∀ (d at_ taken out : Nat) (post : List TNode) (tk ot : List Nat) (re : List Bool), free n (taken ||| out) < d → taken < 2 ^ n → out < 2 ^ n → at_ + (nodeF ws size d at_ taken out).length ≤ len →
      tk.length = len → ot.length = len → re.length = len → tk.getD at_ 0 = taken → ot.getD at_ 0 = out → re.getD at_ false = true → (∀ j, at_ < j → j < at_ + (nodeF ws size d at_ taken out).length → re.getD j false = false) →
      ∃ tk' ot' re', Same (at_ + 1) (at_ + (nodeF ws size d at_ taken out).length) tk ot re tk' ot' re' ∧
        treeGo ws n size len (nodeF ws size d at_ taken out ++ post) at_ tk ot re = treeGo ws n size len post (at_ + (nodeF ws size d at_ taken out).length) tk' ot' re' := by
  intro d
  induction d with
  | zero => intro at_ taken out post tk ot re h; omega
  | succ d ih =>
    intro at_ taken out post tk ot re hfr ht ho hlen l1 l2 l3 e1 e2 e3 hre
    have one : ∀ l : List Nat, nodeF ws size (d + 1) at_ taken out = [leafN l] → leafR ws size (l.map fun x : Nat => (x : Int)) taken out = true → ∃ tk' ot' re', Same (at_ + 1) (at_ + (nodeF ws size (d + 1) at_ taken out).length) tk ot re tk' ot' re' ∧
        treeGo ws n size len (nodeF ws size (d + 1) at_ taken out ++ post) at_ tk ot re = treeGo ws n size len post (at_ + (nodeF ws size (d + 1) at_ taken out).length) tk' ot' re' := by
      intro l hl hleaf
      refine ⟨tk, ot, re, ⟨⟨rfl, rfl, rfl⟩, fun j _ => ⟨rfl, rfl, rfl⟩⟩, ?_⟩
      rw [hl]
      simp only [List.cons_append, List.nil_append, List.length_cons, List.length_nil]
      rw [treeGo, if_neg (by rw [e3]; simp), if_pos ⟨rfl, rfl⟩, e1, e2]
      simp only [leafN, hleaf, Bool.true_and, Nat.zero_add]
    cases hb : bestGo ws 0 taken out 0 with
    | inl i =>
      obtain ⟨_, q2, q3, q4⟩ := bestGo_inl ws 0 taken out 0 i hb
      simp only [Nat.sub_zero] at q3 q4
      exact one [i] (by unfold nodeF; rw [hb]) (leaf_one (by omega) q3 q4)
    | inr best =>
      obtain ⟨hb1, hb2⟩ := bestGo_inr ws 0 taken out 0 best hb
      by_cases hc : ((apart ws taken out).length : Int) + pop taken ≥ size ∨ best = 0
      · refine one (apart ws taken out) (by unfold nodeF; rw [hb]; simp only [hc, if_true]) (leaf_apart ?_)
        rcases hc with hc | hc
        · exact hc
        · have hall := (hb2 hc).2
          have h64 : taken < 2 ^ 64 := Nat.lt_of_lt_of_le ht (Nat.pow_le_pow_right (by decide) hn)
          have hok : Ok ws 0 0 n (members taken).length (members taken) := by
            refine ⟨inc_members _, fun x hx => ?_, by omega, by rw [Nat.zero_or, word_members h64, hit_iff]; exact hall⟩
            have hx2 := (mem_members.1 hx).2
            rcases Nat.lt_or_ge x n with hl | hl
            · omega
            · rw [test_of_lt ht hl] at hx2; cases hx2
          have := hsz _ hok
          unfold pop
          omega
      · have hbest : best ≠ 0 := fun e => hc (.inr e)
        obtain ⟨s, hs, hst, hse, _⟩ : ∃ s ∈ ws, s &&& taken = 0 ∧ best = andn s out ∧ best ≠ 0 := by
          rcases hb1 with h | h
          · exact absurd h hbest
          · exact h
        have hsn := (hg s hs).2
        have hbn : best < 2 ^ n := by rw [hse]; exact andn_lt hsn
        have hp := tz_test hbest (Nat.lt_of_lt_of_le hbn (Nat.pow_le_pow_right (by decide) hn))
        have hpn : tz best < n := by
          rcases Nat.lt_or_ge (tz best) n with hl | hl
          · exact hl
          · rw [test_of_lt hbn hl] at hp; cases hp
        rw [hse, andn_test] at hp
        simp only [Bool.and_eq_true, Bool.not_eq_true'] at hp
        rw [← hse] at hp
        have hpt := (and_zero_iff _ _).1 hst _ hp.1
        have hpo := hp.2
        have hfree : (taken ||| out).testBit (tz best) = false := by rw [Nat.testBit_or, hpt, hpo]; rfl
        have hf2 := free_lt hpn hfree
        have eN : nodeF ws size (d + 1) at_ taken out = ⟨tz best, (at_ + 1 : Nat), (at_ + 1 + (nodeF ws size d (at_ + 1) (taken ||| bit (tz best)) out).length : Nat), 0, []⟩ :: (nodeF ws size d (at_ + 1) (taken ||| bit (tz best)) out ++ nodeF ws size d (at_ + 1 + (nodeF ws size d (at_ + 1) (taken ||| bit (tz best)) out).length) taken (out ||| bit (tz best))) := by
          conv => lhs; unfold nodeF
          rw [hb]
          simp only [hc, if_false]
        generalize hpk : tz best = p at *
        have f1 : free n (taken ||| bit p ||| out) < d := by
          rw [Nat.or_assoc, Nat.or_comm (bit p), ← Nat.or_assoc]; omega
        have f2 : free n (taken ||| (out ||| bit p)) < d := by
          rw [← Nat.or_assoc]; omega
        have hd : 0 < d := by omega
        have hy0 : 0 < (nodeF ws size d (at_ + 1) (taken ||| bit p) out).length := by obtain ⟨d', rfl⟩ := Nat.exists_eq_add_of_lt hd; simp only [Nat.zero_add]; exact nodeF_pos _ _ _ _ _ _
        rw [eN] at hlen hre ⊢
        have ihY := ih (at_ + 1) (taken ||| bit p) out
        generalize nodeF ws size d (at_ + 1) (taken ||| bit p) out = ys at *
        have ihN := ih (at_ + 1 + ys.length) taken (out ||| bit p)
        have hn0 : 0 < (nodeF ws size d (at_ + 1 + ys.length) taken (out ||| bit p)).length := by obtain ⟨d', rfl⟩ := Nat.exists_eq_add_of_lt hd; simp only [Nat.zero_add]; exact nodeF_pos _ _ _ _ _ _
        generalize nodeF ws size d (at_ + 1 + ys.length) taken (out ||| bit p) = ns at *
        simp only [List.length_cons, List.length_append] at hlen hre ⊢
        have hbit : bit p < 2 ^ n := bit_lt hpn
        have t1 : ∀ l : List Nat, l.length = len → ∀ x y : Nat, ((l.set (at_ + 1) x).set (at_ + 1 + ys.length) y).getD (at_ + 1) 0 = x := fun l hl x y => by
          rw [getD_set_ne _ _ _ _ _ (by omega), getD_set_eq _ _ _ _ (by omega)]
        have t2 : ∀ l : List Nat, l.length = len → ∀ x y : Nat, ((l.set (at_ + 1) x).set (at_ + 1 + ys.length) y).getD (at_ + 1 + ys.length) 0 = y := fun l hl x y => by
          rw [getD_set_eq _ _ _ _ (by simp; omega)]
        have t3 : ∀ l : List Nat, ∀ x y : Nat, ∀ j, j ≠ at_ + 1 → j ≠ at_ + 1 + ys.length → ((l.set (at_ + 1) x).set (at_ + 1 + ys.length) y).getD j 0 = l.getD j 0 := fun l x y j h1 h2 => by
          rw [getD_set_ne _ _ _ _ _ (by omega), getD_set_ne _ _ _ _ _ (by omega)]
        have t4 : ∀ j, j ≠ at_ + 1 → j ≠ at_ + 1 + ys.length → ((re.set (at_ + 1) true).set (at_ + 1 + ys.length) true).getD j false = re.getD j false := fun j h1 h2 => by
          rw [getD_set_ne _ _ _ _ _ (by omega), getD_set_ne _ _ _ _ _ (by omega)]
        obtain ⟨tk1, ot1, re1, S1, g1⟩ := ihY (ns ++ post) ((tk.set (at_ + 1) (taken ||| bit p)).set (at_ + 1 + ys.length) taken) ((ot.set (at_ + 1) out).set (at_ + 1 + ys.length) (out ||| bit p)) ((re.set (at_ + 1) true).set (at_ + 1 + ys.length) true)
          f1 (or_lt ht hbit) ho (by omega) (by simpa using l1) (by simpa using l2) (by simpa using l3) (t1 _ l1 _ _) (t1 _ l2 _ _) (by rw [getD_set_ne _ _ _ _ _ (by omega), getD_set_eq _ _ _ _ (by omega)])
          (fun j h1 h2 => by rw [t4 j (by omega) (by omega)]; exact hre j (by omega) (by omega))
        obtain ⟨⟨m1, m2, m3⟩, S1⟩ := S1
        simp only [List.length_set] at m1 m2 m3
        obtain ⟨tk2, ot2, re2, S2, g2⟩ := ihN post tk1 ot1 re1 f2 ht (or_lt ho hbit) (by omega) (by omega) (by omega) (by omega)
          (by rw [(S1 _ (.inr (Nat.le_refl _))).1, t2 _ l1]) (by rw [(S1 _ (.inr (Nat.le_refl _))).2.1, t2 _ l2]) (by rw [(S1 _ (.inr (Nat.le_refl _))).2.2, getD_set_eq _ _ _ _ (by simp; omega)])
          (fun j h1 h2 => by rw [(S1 j (.inr (by omega))).2.2, t4 j (by omega) (by omega)]; exact hre j (by omega) (by omega))
        obtain ⟨⟨k1, k2, k3⟩, S2⟩ := S2
        refine ⟨tk2, ot2, re2, ⟨⟨by omega, by omega, by omega⟩, fun j hj => ?_⟩, ?_⟩
        · obtain ⟨a1, a2, a3⟩ := S2 j (by omega)
          obtain ⟨b1, b2, b3⟩ := S1 j (by omega)
          rw [a1, a2, a3, b1, b2, b3]
          exact ⟨t3 _ _ _ j (by omega) (by omega), t3 _ _ _ j (by omega) (by omega), t4 j (by omega) (by omega)⟩
        · simp only [List.cons_append, List.append_assoc]
          rw [treeGo, if_neg (by rw [e3]; simp), if_neg (by simp only [not_and]; omega), if_neg, if_neg]
          · simp only [Int.toNat_natCast, e1, e2]
            rw [g1, g2]
            congr 1
            omega
          · simp only [Int.toNat_natCast, e1, e2, hfree]
            simp
            omega
          · simp only [Int.toNat_natCast]
            rw [hre (at_ + 1) (by omega) (by omega), hre (at_ + 1 + ys.length) (by omega) (by omega)]
            simp
            omega
theorem prove_tree {ws : List Nat} {n : Nat} {size : Int} (hg : Good ws n) (hn : n ≤ 64) (hsz : ∀ Y, Ok ws 0 0 n Y.length Y → size ≤ Y.length) (d : Nat) (hd : n < d) : treeF ws n size (nodeF ws size d 0 0 0) = true := by
  have hd0 : 0 < (nodeF ws size d 0 0 0).length := by obtain ⟨d', rfl⟩ := Nat.exists_eq_add_of_lt (Nat.lt_of_le_of_lt (Nat.zero_le n) hd); simp only [Nat.zero_add]; exact nodeF_pos _ _ _ _ _ _
  have hfr : free n (0 ||| 0) < d := Nat.lt_of_le_of_lt (by unfold free; exact Nat.le_trans (List.length_filter_le _ _) (by simp)) hd
  have h := node_tree hg hn hsz (nodeF ws size d 0 0 0).length d 0 0 0 [] (List.replicate (nodeF ws size d 0 0 0).length 0) (List.replicate (nodeF ws size d 0 0 0).length 0) ((List.replicate (nodeF ws size d 0 0 0).length false).set 0 true) hfr (Nat.two_pow_pos n) (Nat.two_pow_pos n) (by omega) (by simp) (by simp) (by simp)
    (by simp [List.getD_eq_getElem?_getD, hd0]) (by simp [List.getD_eq_getElem?_getD, hd0]) (by rw [getD_set_eq _ _ _ _ (by simpa using hd0)])
    (fun j h1 h2 => by rw [getD_set_ne _ _ _ _ _ (by omega)]; simp [List.getD_eq_getElem?_getD, List.getElem?_replicate]; split <;> rfl)
  obtain ⟨tk', ot', re', _, h⟩ := h
  unfold treeF
  rw [List.append_nil] at h
  rw [h]
  rfl
end Hit
end Go.Proofs.YtnphdmiondccgaaDoor
/- Plain: all irreducible lists in order; the first one is the least one. -/
namespace Go.Proofs.YtnphdmiondccgaaDoor
namespace Hit
def lexLt : List Nat → List Nat → Bool
  | x :: a, y :: b => if x ≠ y then decide (x < y) else lexLt a b
  | _, _ => false
/-- Shorter ones come first. -/
def before (a b : List Nat) : Bool := if a.length ≠ b.length then decide (a.length < b.length) else lexLt a b
def insertF (l : List (List Nat)) (x : List Nat) : List (List Nat) := l.takeWhile (fun y => before y x) ++ x :: l.dropWhile (fun y => before y x)
def irr (ws : List Nat) (n b : Nat) : Bool := (List.range n).all fun i => !(b.testBit i && hit ws (andn b (bit i)))
def allGo (ws : List Nat) (n : Nat) : List Nat → List (List Nat) × Nat → List (List Nat) × Nat
  | [], r => r
  | b :: l, r => allGo ws n l (if hit ws b then (if irr ws n b then insertF r.1 (members b) else r.1, r.2 + 1) else r)
def allF (ws : List Nat) (n : Nat) : List (List Nat) × Nat := allGo ws n (List.range (2 ^ n)) ([], 0)
theorem lexLt_asymm : ∀ a b, lexLt a b = true → lexLt b a = false
  | [], _, h => by simp [lexLt] at h
  | _ :: _, [], h => by simp [lexLt] at h
  | x :: a, y :: b, h => by
    unfold lexLt at h ⊢
    by_cases e : x = y
    · subst e
      simp at h ⊢
      exact lexLt_asymm a b h
    · simp [e] at h
      simp [Ne.symm e]
      omega
theorem lexLt_conn : ∀ a b, a.length = b.length → lexLt a b = false → lexLt b a = false → a = b
  | [], [], _, _, _ => rfl
  | [], _ :: _, h, _, _ => by simp at h
  | _ :: _, [], h, _, _ => by simp at h
  | x :: a, y :: b, h, h1, h2 => by
    unfold lexLt at h1 h2
    by_cases e : x = y
    · subst e
      simp at h1 h2
      rw [lexLt_conn a b (by simpa using h) h1 h2]
    · simp [e] at h1
      simp [Ne.symm e] at h2
      omega
theorem lexLt_trans : ∀ a b c, lexLt a b = true → lexLt b c = true → lexLt a c = true
  | [], _, _, h, _ => by simp [lexLt] at h
  | _ :: _, [], _, h, _ => by simp [lexLt] at h
  | _ :: _, _ :: _, [], _, h => by simp [lexLt] at h
  | x :: a, y :: b, z :: c, h1, h2 => by
    unfold lexLt at h1 h2 ⊢
    by_cases e : x = y
    · subst e
      by_cases e2 : x = z
      · subst e2
        simp at h1 h2 ⊢
        exact lexLt_trans a b c h1 h2
      · simp [e2] at h2 ⊢
        exact h2
    · simp [e] at h1
      by_cases e2 : y = z
      · subst e2
        simp [e]; exact h1
      · simp [e2] at h2
        have : x ≠ z := by omega
        simp [this]
        omega
theorem before_asymm (a b : List Nat) (h : before a b = true) : before b a = false := by
  unfold before at h ⊢
  by_cases e : a.length = b.length
  · simp [e] at h ⊢
    exact lexLt_asymm _ _ h
  · simp [e] at h
    simp [Ne.symm e]
    omega
theorem before_conn (a b : List Nat) (h1 : before a b = false) (h2 : before b a = false) : a = b := by
  unfold before at h1 h2
  by_cases e : a.length = b.length
  · simp [e] at h1 h2
    exact lexLt_conn a b e h1 h2
  · simp [e] at h1
    simp [Ne.symm e] at h2
    omega
theorem before_trans (a b c : List Nat) (h1 : before a b = true) (h2 : before b c = true) : before a c = true := by
  unfold before at h1 h2 ⊢
  by_cases e : a.length = b.length
  · simp [e] at h1
    by_cases e2 : b.length = c.length
    · simp [e2] at h2
      simp [e, e2]
      exact lexLt_trans _ _ _ h1 h2
    · simp [e2] at h2
      simp [e, e2]
      exact h2
  · simp [e] at h1
    by_cases e2 : b.length = c.length
    · have : a.length ≠ c.length := by omega
      simp [this]
      omega
    · simp [e2] at h2
      have : a.length ≠ c.length := by omega
      simp [this]
      omega
/-- a is not before b, and b not before c: then a is not before c. -/
theorem before_neg (a b c : List Nat) (h1 : before a b = false) (h2 : before b c = false) : before a c = false := by
  cases h : before a c with
  | false => rfl
  | true =>
    cases h3 : before c b with
    | true => rw [before_trans a c b h h3] at h1; cases h1
    | false =>
      have := before_conn b c h2 h3
      subst this
      rw [h] at h1; cases h1
/-- Sorted: what comes later is not before. -/
def Sorted : List (List Nat) → Prop
  | [] => True
  | x :: l => (∀ y ∈ l, before y x = false) ∧ Sorted l
theorem mem_insertF (l : List (List Nat)) (x y : List Nat) : y ∈ insertF l x ↔ y = x ∨ y ∈ l := by
  have : y ∈ l ↔ y ∈ l.takeWhile (fun y => before y x) ++ l.dropWhile (fun y => before y x) := by rw [List.takeWhile_append_dropWhile]
  rw [this]
  unfold insertF
  simp only [List.mem_append, List.mem_cons]
  constructor
  · rintro (h | h | h)
    · exact .inr (.inl h)
    · exact .inl h
    · exact .inr (.inr h)
  · rintro (h | h | h)
    · exact .inr (.inl h)
    · exact .inl h
    · exact .inr (.inr h)
theorem insertF_cons (z : List Nat) (l : List (List Nat)) (x : List Nat) : insertF (z :: l) x = if before z x then z :: insertF l x else x :: z :: l := by
  unfold insertF
  cases h : before z x <;> simp [h]
theorem sorted_insertF (l : List (List Nat)) (x : List Nat) (h : Sorted l) : Sorted (insertF l x) := by
  induction l with
  | nil => exact ⟨by simp, trivial⟩
  | cons z l ih =>
    rw [insertF_cons]
    cases hz : before z x with
    | true =>
      refine ⟨fun y hy => ?_, ih h.2⟩
      rcases (mem_insertF _ _ _).1 hy with rfl | hy
      · exact before_asymm _ _ hz
      · exact h.1 y hy
    | false =>
      refine ⟨fun y hy => ?_, h⟩
      simp only [List.mem_cons] at hy
      rcases hy with rfl | hy
      · exact hz
      · exact before_neg y z x (h.1 y hy) hz
theorem allGo_spec (ws : List Nat) (n : Nat) : ∀ (l : List Nat) (r : List (List Nat) × Nat), Sorted r.1 → Sorted (allGo ws n l r).1 ∧
    (∀ y, y ∈ (allGo ws n l r).1 ↔ y ∈ r.1 ∨ ∃ b ∈ l, hit ws b = true ∧ irr ws n b = true ∧ y = members b) ∧ (allGo ws n l r).2 = r.2 + (l.filter fun b => hit ws b).length := by
  intro l
  induction l with
  | nil => intro r h; exact ⟨h, fun y => by simp [allGo], by simp [allGo]⟩
  | cons b l ih =>
    intro r h
    unfold allGo
    cases hb : hit ws b with
    | false =>
      obtain ⟨q1, q2, q3⟩ := ih r h
      refine ⟨by simpa using q1, fun y => ?_, ?_⟩
      · simp only [Bool.false_eq_true, if_false]
        rw [q2]
        constructor
        · rintro (h | ⟨c, hc, h⟩)
          · exact .inl h
          · exact .inr ⟨c, by simp [hc], h⟩
        · rintro (h | ⟨c, hc, h⟩)
          · exact .inl h
          · simp only [List.mem_cons] at hc
            rcases hc with rfl | hc
            · rw [hb] at h; cases h.1
            · exact .inr ⟨c, hc, h⟩
      · simp only [Bool.false_eq_true, if_false]
        rw [q3, List.filter_cons, hb]; rfl
    | true =>
      cases hi : irr ws n b with
      | false =>
        obtain ⟨q1, q2, q3⟩ := ih (r.1, r.2 + 1) h
        refine ⟨by simpa using q1, fun y => ?_, ?_⟩
        · simp only [if_true, Bool.false_eq_true, if_false]
          rw [q2]
          constructor
          · rintro (h | ⟨c, hc, h⟩)
            · exact .inl h
            · exact .inr ⟨c, by simp [hc], h⟩
          · rintro (h | ⟨c, hc, h⟩)
            · exact .inl h
            · simp only [List.mem_cons] at hc
              rcases hc with rfl | hc
              · rw [hi] at h; cases h.2.1
              · exact .inr ⟨c, hc, h⟩
        · simp only [if_true, Bool.false_eq_true, if_false]
          rw [q3, List.filter_cons, hb]
          simp
          omega
      | true =>
        obtain ⟨q1, q2, q3⟩ := ih (insertF r.1 (members b), r.2 + 1) (sorted_insertF _ _ h)
        refine ⟨by simpa using q1, fun y => ?_, ?_⟩
        · simp only [if_true]
          rw [q2]
          simp only [mem_insertF]
          constructor
          · rintro ((h | h) | ⟨c, hc, h⟩)
            · exact .inr ⟨b, by simp, hb, hi, h⟩
            · exact .inl h
            · exact .inr ⟨c, by simp [hc], h⟩
          · rintro (h | ⟨c, hc, h⟩)
            · exact .inl (.inr h)
            · simp only [List.mem_cons] at hc
              rcases hc with rfl | hc
              · exact .inl (.inl h.2.2)
              · exact .inr ⟨c, hc, h⟩
        · simp only [if_true]
          rw [q3, List.filter_cons, hb]
          simp
          omega
theorem inc_not_mem {x : Nat} {l : List Nat} (h : Inc (x :: l)) : x ∉ l := fun hx => by have := h.1 x hx; omega
/-- Without one of its numbers a list is shorter. -/
theorem erase_word (X : List Nat) (i : Nat) (h : Inc X) (hi : i ∈ X) : ∃ Y, Inc Y ∧ (∀ y ∈ Y, y ∈ X) ∧ Y.length + 1 = X.length ∧ word Y = andn (word X) (bit i) := by
  refine ⟨X.filter fun y => y != i, inc_filter _ _ h, fun y hy => (List.mem_filter.1 hy).1, ?_, ext fun j => ?_⟩
  · induction X with
    | nil => simp at hi
    | cons x X ih =>
      rw [List.filter_cons]
      by_cases e : x = i
      · subst e
        have hn := inc_not_mem h
        have : X.filter (fun y => y != x) = X := List.filter_eq_self.2 fun y hy => by simp; rintro rfl; exact hn hy
        simp [this]
      · have hi' : i ∈ X := by simp only [List.mem_cons] at hi; rcases hi with h | h; exact absurd h.symm e; exact h
        have := ih h.2 hi'
        simp [e]
        omega
  · rw [word_test, andn_test, word_test, bit_test, Bool.eq_iff_iff]
    simp
    intro _
    exact ⟨fun h e => h e.symm, fun h e => h e.symm⟩
theorem lexLe_lt : ∀ a b, a.length = b.length → LexLe a b → lexLt b a = false
  | [], [], _, _ => rfl
  | [], _ :: _, h, _ => by simp at h
  | _ :: _, [], h, _ => by simp at h
  | x :: a, y :: b, h, hl => by
    unfold lexLt
    rcases hl with hl | ⟨rfl, hl⟩
    · have : y ≠ x := by omega
      simp [this]; omega
    · simp; exact lexLe_lt a b (by simpa using h) hl
theorem isLeast_irr {ws : List Nat} {n w : Nat} {X : List Nat} (h : IsLeast ws n w X) : hit ws (word X) = true ∧ irr ws n (word X) = true := by
  have h1 := h.ok.hits
  rw [Nat.zero_or] at h1
  refine ⟨h1, ?_⟩
  unfold irr
  rw [List.all_eq_true]
  intro i _
  rw [Bool.not_eq_true', Bool.and_eq_false_iff]
  cases hb : (word X).testBit i with
  | false => exact .inl rfl
  | true =>
    right
    rw [word_test] at hb
    have hi : i ∈ X := by simpa using hb
    obtain ⟨Y, y1, y2, y3, y4⟩ := erase_word X i h.ok.inc hi
    cases hh : hit ws (andn (word X) (bit i)) with
    | false => rfl
    | true =>
      have := h.short Y ⟨y1, fun y hy => h.ok.lo y (y2 y hy), by omega, by rw [Nat.zero_or, y4]; exact hh⟩
      omega
/-- The first list of all is the first shortest one. -/
theorem all_head {ws : List Nat} {n w : Nat} {X : List Nat} (hn : n ≤ 64) (h : IsLeast ws n w X) : ∃ l, (allF ws n).1 = X :: l := by
  obtain ⟨q1, q2, _⟩ := allGo_spec ws n (List.range (2 ^ n)) ([], 0) trivial
  have hlt : ∀ {Y : List Nat}, (∀ y ∈ Y, 0 ≤ y ∧ y < n) → word Y < 2 ^ n := fun hY => word_lt fun y hy => (hY y hy).2
  have hX : X ∈ (allF ws n).1 := (q2 X).2 (.inr ⟨word X, by simpa using hlt h.ok.lo, (isLeast_irr h).1, (isLeast_irr h).2, (members_word h.ok.inc fun x hx => by have := h.ok.lo x hx; omega).symm⟩)
  cases hl : (allF ws n).1 with
  | nil => rw [hl] at hX; simp at hX
  | cons Z l =>
    refine ⟨l, ?_⟩
    congr 1
    have hs : Sorted (Z :: l) := by rw [← hl]; exact q1
    have hZ : Z ∈ (allF ws n).1 := by rw [hl]; simp
    obtain hZ | ⟨b, hb, hb1, hb2, rfl⟩ := (q2 Z).1 hZ
    · simp at hZ
    · have hb' : b < 2 ^ n := by simpa using hb
      have h64 : b < 2 ^ 64 := Nat.lt_of_lt_of_le hb' (Nat.pow_le_pow_right (by decide) hn)
      have hok : Ok ws 0 0 n (members b).length (members b) := by
        refine ⟨inc_members _, fun x hx => ?_, by omega, by rw [Nat.zero_or, word_members h64]; exact hb1⟩
        have hx2 := (mem_members.1 hx).2
        rcases Nat.lt_or_ge x n with hl | hl
        · omega
        · rw [test_of_lt hb' hl] at hx2; cases hx2
      have hlen := h.short _ hok
      rw [hl] at hX
      have hbX : before X (members b) = false := by
        simp only [List.mem_cons] at hX
        rcases hX with e | hX
        · rw [e]
          cases hbb : before (members b) (members b) with
          | false => rfl
          | true => rw [before_asymm _ _ hbb] at hbb; cases hbb
        · exact hs.1 X hX
      have hle : X.length = (members b).length := by
        unfold before at hbX
        by_cases e : X.length = (members b).length
        · exact e
        · simp [e] at hbX; omega
      have hfirst := h.first _ ⟨hok.inc, hok.lo, by omega, hok.hits⟩
      refine (before_conn _ _ hbX ?_).symm
      unfold before
      simp [hle]
      exact lexLe_lt _ _ hle hfirst
end Hit
end Go.Proofs.YtnphdmiondccgaaDoor
/- Plain: the most disjoint sets, and the first list of them. -/
namespace Go.Proofs.YtnphdmiondccgaaDoor
namespace Hit
def countF : List Nat → Nat → Nat
  | [], _ => 0
  | s :: r, used => if s &&& used = 0 then max (countF r used) (1 + countF r (used ||| s)) else countF r used
def disjGo : List Nat → Nat → Nat → List Nat
  | [], _, _ => []
  | s :: r, i, used => if s &&& used = 0 ∧ 1 + countF r (used ||| s) = countF (s :: r) used then i :: disjGo r (i + 1) (used ||| s) else disjGo r (i + 1) used
/-- The reference's: all lists of indices, as bits. -/
def disjR (ws : List Nat) : List Nat :=
  (List.range (2 ^ ws.length)).foldl (fun best b => if apartR ws ((members b).map fun x : Nat => (x : Int)) 0 && (decide ((members b).length > best.length) || (decide ((members b).length = best.length) && before (members b) best)) then members b else best) []
theorem countF_cons (s : Nat) (r : List Nat) (used : Nat) : countF (s :: r) used = if s &&& used = 0 then max (countF r used) (1 + countF r (used ||| s)) else countF r used := rfl
/-- Indices of disjoint sets. -/
def DisS : List Nat → Nat → Nat → List Nat → Prop
  | [], _, _, L => L = []
  | s :: r, i, used, L => DisS r (i + 1) used L ∨ ∃ L', L = i :: L' ∧ s &&& used = 0 ∧ DisS r (i + 1) (used ||| s) L'
theorem DisS.ge : ∀ {ws : List Nat} {i used : Nat} {L : List Nat}, DisS ws i used L → ∀ x ∈ L, i ≤ x
  | [], _, _, L, h, x, hx => by rw [show L = [] from h] at hx; simp at hx
  | s :: r, i, used, L, h, x, hx => by
    rcases h with h | ⟨L', rfl, _, h⟩
    · have := DisS.ge h x hx; omega
    · simp only [List.mem_cons] at hx
      rcases hx with rfl | hx
      · omega
      · have := DisS.ge h x hx; omega
theorem countF_max : ∀ (ws : List Nat) (i used : Nat) (L : List Nat), DisS ws i used L → L.length ≤ countF ws used
  | [], _, _, L, h => by rw [show L = [] from h]; simp [countF]
  | s :: r, i, used, L, h => by
    unfold countF
    rcases h with h | ⟨L', rfl, h1, h⟩
    · have := countF_max r (i + 1) used L h
      split <;> omega
    · have := countF_max r (i + 1) (used ||| s) L' h
      rw [if_pos h1]
      simp only [List.length_cons]
      omega
theorem disjGo_spec : ∀ (ws : List Nat) (i used : Nat), DisS ws i used (disjGo ws i used) ∧ (disjGo ws i used).length = countF ws used ∧ ∀ L, DisS ws i used L → L.length = countF ws used → LexLe (disjGo ws i used) L
  | [], i, used => ⟨rfl, rfl, fun L _ _ => trivial⟩
  | s :: r, i, used => by
    unfold disjGo
    by_cases hc : s &&& used = 0 ∧ 1 + countF r (used ||| s) = countF (s :: r) used
    · rw [if_pos hc]
      obtain ⟨q1, q2, q3⟩ := disjGo_spec r (i + 1) (used ||| s)
      refine ⟨.inr ⟨_, rfl, hc.1, q1⟩, by simp only [List.length_cons]; omega, fun L hL hlen => ?_⟩
      rcases hL with hL | ⟨L', rfl, h1, hL⟩
      · cases L with
        | nil => simp only [List.length_nil] at hlen; omega
        | cons x L => exact .inl (by have := hL.ge x (by simp); omega)
      · simp only [List.length_cons] at hlen
        exact .inr ⟨rfl, q3 L' hL (by omega)⟩
    · rw [if_neg hc]
      obtain ⟨q1, q2, q3⟩ := disjGo_spec r (i + 1) used
      have he : countF (s :: r) used = countF r used := by
        rw [countF_cons] at hc ⊢
        split
        · rename_i h
          rw [if_pos h] at hc
          have : ¬ (1 + countF r (used ||| s) = max (countF r used) (1 + countF r (used ||| s))) := fun e => hc ⟨h, e⟩
          omega
        · rfl
      refine ⟨.inl q1, by omega, fun L hL hlen => ?_⟩
      rcases hL with hL | ⟨L', rfl, h1, hL⟩
      · exact q3 L hL (by omega)
      · have hm := countF_max _ _ _ _ hL
        exfalso
        simp only [List.length_cons] at hlen
        have hc' : ¬ (1 + countF r (used ||| s) = countF (s :: r) used) := fun e => hc ⟨h1, e⟩
        have hmx : 1 + countF r (used ||| s) ≤ countF (s :: r) used := by rw [countF_cons, if_pos h1]; exact Nat.le_max_right _ _
        omega
theorem disS_iff : ∀ (ws : List Nat) (i used : Nat) (L : List Nat), DisS ws i used L ↔
    Inc L ∧ (∀ x ∈ L, i ≤ x ∧ x < i + ws.length ∧ ws.getD (x - i) 0 &&& used = 0) ∧ ∀ a ∈ L, ∀ b ∈ L, b < a → ws.getD (a - i) 0 &&& ws.getD (b - i) 0 = 0
  | [], i, used, L => by
    constructor
    · intro h; rw [show L = [] from h]; exact ⟨trivial, by simp, by simp⟩
    · rintro ⟨_, h, _⟩
      cases L with
      | nil => rfl
      | cons x L => have := h x (by simp); simp at this; omega
  | s :: r, i, used, L => by
    have sh : ∀ x, i + 1 ≤ x → (s :: r).getD (x - i) 0 = r.getD (x - (i + 1)) 0 := fun x hx => by
      rw [show x - i = (x - (i + 1)) + 1 from by omega, List.getD_cons_succ]
    constructor
    · rintro (h | ⟨L', rfl, h1, h⟩)
      · obtain ⟨q1, q2, q3⟩ := (disS_iff r (i + 1) used L).1 h
        refine ⟨q1, fun x hx => ?_, fun a ha b hb hba => ?_⟩
        · obtain ⟨p1, p2, p3⟩ := q2 x hx
          rw [sh x p1]
          exact ⟨by omega, by simp only [List.length_cons]; omega, p3⟩
        · rw [sh a (q2 a ha).1, sh b (q2 b hb).1]
          exact q3 a ha b hb hba
      · obtain ⟨q1, q2, q3⟩ := (disS_iff r (i + 1) (used ||| s) L').1 h
        have hu : ∀ x ∈ L', r.getD (x - (i + 1)) 0 &&& used = 0 ∧ r.getD (x - (i + 1)) 0 &&& s = 0 := fun x hx => by
          have := (q2 x hx).2.2
          constructor
          · refine (and_zero_iff _ _).2 fun j hj => ?_
            have := (and_zero_iff _ _).1 this j hj
            rw [Nat.testBit_or] at this
            simp at this; exact this.1
          · refine (and_zero_iff _ _).2 fun j hj => ?_
            have := (and_zero_iff _ _).1 this j hj
            rw [Nat.testBit_or] at this
            simp at this; exact this.2
        refine ⟨⟨fun y hy => by have := (q2 y hy).1; omega, q1⟩, fun x hx => ?_, fun a ha b hb hba => ?_⟩
        · simp only [List.mem_cons] at hx
          rcases hx with rfl | hx
          · rw [Nat.sub_self, List.getD_cons_zero]
            exact ⟨by omega, by simp only [List.length_cons]; omega, h1⟩
          · obtain ⟨p1, p2, p3⟩ := q2 x hx
            rw [sh x p1]
            exact ⟨by omega, by simp only [List.length_cons]; omega, (hu x hx).1⟩
        · simp only [List.mem_cons] at ha hb
          rcases hb with rfl | hb
          · rcases ha with rfl | ha
            · omega
            · rw [sh a (q2 a ha).1, Nat.sub_self, List.getD_cons_zero]
              exact (hu a ha).2
          · rcases ha with rfl | ha
            · have := (q2 b hb).1; omega
            · rw [sh a (q2 a ha).1, sh b (q2 b hb).1]
              exact q3 a ha b hb hba
    · rintro ⟨q1, q2, q3⟩
      have tail : ∀ L', Inc L' → (∀ x ∈ L', x ∈ L) → (∀ x ∈ L', i + 1 ≤ x) → ∀ u, (∀ x ∈ L', r.getD (x - (i + 1)) 0 &&& u = 0) → DisS r (i + 1) u L' := by
        intro L' hi hm hge u hu
        refine (disS_iff r (i + 1) u L').2 ⟨hi, fun x hx => ⟨hge x hx, ?_, hu x hx⟩, fun a ha b hb hba => ?_⟩
        · have := (q2 x (hm x hx)).2.1; simp only [List.length_cons] at this; omega
        · have := q3 a (hm a ha) b (hm b hb) hba
          rw [sh a (hge a ha), sh b (hge b hb)] at this
          exact this
      cases L with
      | nil => exact .inl (tail [] trivial (by simp) (by simp) used (by simp))
      | cons x L =>
        by_cases e : x = i
        · subst e
          have hge : ∀ y ∈ L, x + 1 ≤ y := fun y hy => q1.1 y hy
          refine .inr ⟨L, rfl, ?_, tail L q1.2 (fun y hy => by simp [hy]) hge _ fun y hy => ?_⟩
          · have := (q2 x (by simp)).2.2
            rw [Nat.sub_self, List.getD_cons_zero] at this
            exact this
          · have h1 := (q2 y (by simp [hy])).2.2
            have h2 := q3 y (by simp [hy]) x (by simp) (hge y hy)
            rw [sh y (hge y hy)] at h1 h2
            rw [Nat.sub_self, List.getD_cons_zero] at h2
            refine (and_zero_iff _ _).2 fun j hj => ?_
            rw [Nat.testBit_or, (and_zero_iff _ _).1 h1 j hj, (and_zero_iff _ _).1 h2 j hj]; rfl
        · have hge : ∀ y ∈ x :: L, i + 1 ≤ y := fun y hy => by
            have hx := (q2 x (by simp)).1
            simp only [List.mem_cons] at hy
            rcases hy with rfl | hy
            · omega
            · have := q1.1 y hy; omega
          refine .inl (tail (x :: L) q1 (fun y hy => hy) hge used fun y hy => ?_)
          have := (q2 y hy).2.2
          rw [sh y (hge y hy)] at this
          exact this
theorem inc_getD_lt {L : List Nat} (h : Inc L) : ∀ {a b : Nat}, b < a → a < L.length → L.getD b 0 < L.getD a 0 := by
  induction L with
  | nil => intro a b _ h; simp at h
  | cons x L ih =>
    intro a b hba ha
    cases a with
    | zero => omega
    | succ a =>
      simp only [List.length_cons] at ha
      rw [List.getD_cons_succ]
      cases b with
      | zero =>
        rw [List.getD_cons_zero]
        refine h.1 _ ?_
        rw [List.getD_eq_getElem?_getD, List.getElem?_eq_getElem (by omega)]; exact List.getElem_mem _
      | succ b =>
        rw [List.getD_cons_succ]
        exact ih h.2 (by omega) (by omega)
theorem apartR_iff (ws : List Nat) (L : List Nat) (h : Inc L) : apartR ws (L.map fun x : Nat => (x : Int)) 0 = true ↔ ∀ a ∈ L, ∀ b ∈ L, b < a → ws.getD a 0 &&& ws.getD b 0 = 0 := by
  unfold apartR
  simp only [List.all_eq_true, List.mem_range, List.length_map, getD_map_int, Int.toNat_natCast, Bool.and_eq_true, bne_iff_ne, beq_iff_eq, andn_zero]
  constructor
  · intro hh a ha b hb hba
    obtain ⟨ia, hia, rfl⟩ := List.getElem_of_mem ha
    obtain ⟨ib, hib, rfl⟩ := List.getElem_of_mem hb
    have e1 : L.getD ia 0 = L[ia] := by rw [List.getD_eq_getElem?_getD, List.getElem?_eq_getElem hia]; rfl
    have e2 : L.getD ib 0 = L[ib] := by rw [List.getD_eq_getElem?_getD, List.getElem?_eq_getElem hib]; rfl
    have hlt : ib < ia := by
      rcases Nat.lt_or_ge ib ia with h1 | h1
      · exact h1
      · exfalso
        rcases Nat.eq_or_lt_of_le h1 with e | h2
        · subst e; omega
        · have := inc_getD_lt h h2 hib
          omega
    have := (hh ia hia ib hlt).2
    rw [e1, e2] at this
    exact this
  · intro hh ia hia ib hlt
    have hlt2 := inc_getD_lt h hlt hia
    refine ⟨by omega, hh _ ?_ _ ?_ hlt2⟩
    · rw [List.getD_eq_getElem?_getD, List.getElem?_eq_getElem hia]; exact List.getElem_mem _
    · rw [List.getD_eq_getElem?_getD, List.getElem?_eq_getElem (by omega)]; exact List.getElem_mem _
/-- The best list of a sequence, as the reference finds it. -/
theorem best_fold (p : List Nat → Bool) (D : List Nat) (hD : p D = true) : ∀ (l : List Nat) (best : List Nat),
    (∀ b ∈ l, p (members b) = true → (members b).length ≤ D.length ∧ ((members b).length = D.length → LexLe D (members b))) →
    best.length ≤ D.length → (best.length = D.length → LexLe D best) → (D = best ∨ ∃ b ∈ l, members b = D) →
    l.foldl (fun best b => if p (members b) && (decide ((members b).length > best.length) || (decide ((members b).length = best.length) && before (members b) best)) then members b else best) best = D := by
  intro l
  induction l with
  | nil => intro best _ _ _ h; rcases h with h | ⟨b, hb, _⟩; exact h.symm; simp at hb
  | cons b l ih =>
    intro best hl hb1 hb2 hex
    simp only [List.foldl_cons]
    have hl' : ∀ c ∈ l, p (members c) = true → (members c).length ≤ D.length ∧ ((members c).length = D.length → LexLe D (members c)) := fun c hc => hl c (by simp [hc])
    by_cases hc : (p (members b) && (decide ((members b).length > best.length) || (decide ((members b).length = best.length) && before (members b) best))) = true
    · rw [if_pos hc]
      simp only [Bool.and_eq_true, Bool.or_eq_true, decide_eq_true_eq] at hc
      obtain ⟨h1, h2⟩ := hl b (by simp) hc.1
      refine ih _ hl' h1 h2 ?_
      rcases hex with rfl | ⟨c, hcm, hcD⟩
      · left
        have hlen : (members b).length = D.length := by rcases hc.2 with h | h <;> omega
        have hbe : before (members b) D = true := by rcases hc.2 with h | h; omega; exact h.2
        have := lexLe_lt _ _ hlen.symm (h2 hlen)
        unfold before at hbe
        simp [hlen] at hbe
        rw [hbe] at this; cases this
      · simp only [List.mem_cons] at hcm
        rcases hcm with rfl | hcm
        · exact .inl hcD.symm
        · exact .inr ⟨c, hcm, hcD⟩
    · rw [if_neg hc]
      refine ih _ hl' hb1 hb2 ?_
      rcases hex with rfl | ⟨c, hcm, hcD⟩
      · exact .inl rfl
      · simp only [List.mem_cons] at hcm
        rcases hcm with rfl | hcm
        · left
          rw [hcD] at hc
          simp only [hD, Bool.true_and, Bool.or_eq_true, Bool.and_eq_true, decide_eq_true_eq, not_or, not_and] at hc
          have hlen : D.length = best.length := by omega
          have h3 : before D best = false := by simpa using hc.2 hlen
          have h4 : before best D = false := by
            unfold before
            simp [hlen]
            exact lexLe_lt _ _ hlen (hb2 hlen.symm)
          exact before_conn _ _ h3 h4
        · exact .inr ⟨c, hcm, hcD⟩
theorem disj_same (ws : List Nat) (hw : ws.length ≤ 64) : disjR ws = disjGo ws 0 0 := by
  obtain ⟨q1, q2, q3⟩ := disjGo_spec ws 0 0
  obtain ⟨i1, i2, i3⟩ := (disS_iff ws 0 0 _).1 q1
  simp only [Nat.sub_zero] at i2 i3
  have h64 : ∀ x ∈ disjGo ws 0 0, x < 64 := fun x hx => by have := (i2 x hx).2.1; omega
  unfold disjR
  refine best_fold (fun l => apartR ws (l.map fun x : Nat => (x : Int)) 0) (disjGo ws 0 0) ((apartR_iff ws _ i1).2 i3) _ [] (fun b hb hp => ?_) (by simp) (fun h => ?_) ?_
  · have hb' : b < 2 ^ ws.length := by simpa using hb
    have hin : ∀ x ∈ members b, x < ws.length := fun x hx => by
      have hx2 := (mem_members.1 hx).2
      rcases Nat.lt_or_ge x ws.length with hl | hl
      · exact hl
      · rw [test_of_lt hb' hl] at hx2; cases hx2
    have hD : DisS ws 0 0 (members b) := (disS_iff ws 0 0 _).2 ⟨inc_members b, fun x hx => ⟨by omega, by have := hin x hx; omega, by simp⟩, by simpa using (apartR_iff ws _ (inc_members b)).1 hp⟩
    exact ⟨by rw [q2]; exact countF_max _ _ _ _ hD, fun e => q3 _ hD (by omega)⟩
  · have : disjGo ws 0 0 = [] := List.eq_nil_of_length_eq_zero (by simpa using h.symm)
    rw [this]; trivial
  · right
    exact ⟨word (disjGo ws 0 0), by simpa using word_lt fun x hx => by have := (i2 x hx).2.1; omega, members_word i1 h64⟩
/-- As many disjoint sets need as many numbers. -/
theorem disj_le {ws : List Nat} {n w : Nat} {X : List Nat} (h : IsLeast ws n w X) : (disjGo ws 0 0).length ≤ X.length := by
  obtain ⟨q1, _, _⟩ := disjGo_spec ws 0 0
  have hits := (hit_iff _ _).1 h.ok.hits
  rw [Nat.zero_or] at hits
  have key : ∀ (ws : List Nat) (i used : Nat) (L : List Nat), (∀ s ∈ ws, s &&& word X ≠ 0) → DisS ws i used L → L.length ≤ (X.filter fun x => !used.testBit x).length := by
    intro ws
    induction ws with
    | nil => intro i used L _ hL; rw [show L = [] from hL]; simp
    | cons s r ih =>
      intro i used L hh hL
      rcases hL with hL | ⟨L', rfl, h1, hL⟩
      · exact ih _ _ _ (fun t ht => hh t (by simp [ht])) hL
      · have := ih _ _ _ (fun t ht => hh t (by simp [ht])) hL
        obtain ⟨k, k1, k2⟩ := hit_bit (hh s (by simp))
        rw [word_test] at k2
        have h4 := (and_zero_iff s used).1 h1 k k1
        have hd := filter_drop X (fun x => !used.testBit x) (fun x => !(used ||| s).testBit x) k (by simpa using k2) (by simp [h4]) (by simp [k1]) (fun y hy => by simp at hy ⊢; exact hy.1)
        simp only [List.length_cons]
        omega
  have := key ws 0 0 _ hits q1
  have e : (X.filter fun x => !Nat.testBit 0 x) = X := List.filter_eq_self.2 fun x _ => by simp
  rw [e] at this
  exact this
end Hit
end Go.Proofs.YtnphdmiondccgaaDoor
/- Plain: the verifier accepts what the reference calls a proof tree. -/
namespace Go.Proofs.YtnphdmiondccgaaDoor
namespace Hit
def wsI (ws : List Nat) (i : Int) : Nat := ws.getD i.toNat 0
/-- The verifier's test of a leaf. -/
def leafGo (ws : List Nat) (size : Int) (len taken out : Nat) : List Int → List Int → Nat → Bool
  | _, [], _ => decide ((len : Int) + pop taken ≥ size)
  | prev, i :: r, used =>
    if i < 0 ∨ i ≥ ws.length ∨ wsI ws i &&& taken ≠ 0 ∨ prev.contains i = true then false
    else if andn (wsI ws i) out = 0 ∧ len = 1 then true
    else if andn (wsI ws i) out &&& used ≠ 0 then false
    else leafGo ws size len taken out (prev ++ [i]) r (used ||| andn (wsI ws i) out)
def leafP (ws : List Nat) (size : Int) (l : List Int) (taken out : Nat) : Bool := leafGo ws size l.length taken out [] l 0
def ValidI (ws : List Nat) (taken : Nat) (i : Int) : Prop := 0 ≤ i ∧ i < ws.length ∧ wsI ws i &&& taken = 0
theorem andn_and_zero (a b o : Nat) : andn a o &&& andn b o = 0 ↔ andn (a &&& b) o = 0 := by
  rw [and_zero_iff, zero_iff]
  constructor
  · intro h i
    have := h i
    rw [andn_test, andn_test] at this
    rw [andn_test, Nat.testBit_and]
    cases ha : a.testBit i <;> cases hb : b.testBit i <;> cases ho : o.testBit i <;> simp_all
  · intro h i hi
    have := h i
    rw [andn_test] at hi ⊢
    rw [andn_test, Nat.testBit_and] at this
    cases ha : a.testBit i <;> cases hb : b.testBit i <;> cases ho : o.testBit i <;> simp_all
theorem and_or_zero (a b c : Nat) : a &&& (b ||| c) = 0 ↔ a &&& b = 0 ∧ a &&& c = 0 := by
  rw [and_zero_iff, and_zero_iff, and_zero_iff]
  constructor
  · intro h
    refine ⟨fun i hi => ?_, fun i hi => ?_⟩ <;>
      · have := h i hi
        rw [Nat.testBit_or] at this
        simp at this
        first | exact this.1 | exact this.2
  · rintro ⟨h1, h2⟩ i hi
    rw [Nat.testBit_or, h1 i hi, h2 i hi]; rfl
/-- Different sets without a common number. -/
def Apt (ws : List Nat) (out : Nat) (a b : Int) : Prop := a ≠ b ∧ andn (wsI ws a &&& wsI ws b) out = 0
theorem leafGo_iff (ws : List Nat) (size : Int) (len taken out : Nat) (hl : len ≠ 1) : ∀ (r prev : List Int) (used : Nat), leafGo ws size len taken out prev r used = true ↔
    (∀ i ∈ r, ValidI ws taken i ∧ i ∉ prev ∧ andn (wsI ws i) out &&& used = 0) ∧ r.Pairwise (Apt ws out) ∧ (len : Int) + pop taken ≥ size := by
  intro r
  induction r with
  | nil => intro prev used; simp [leafGo]
  | cons i r ih =>
    intro prev used
    unfold leafGo
    by_cases h1 : i < 0 ∨ i ≥ ws.length ∨ wsI ws i &&& taken ≠ 0 ∨ prev.contains i = true
    · rw [if_pos h1]
      constructor
      · intro h; cases h
      · rintro ⟨h, _⟩
        obtain ⟨⟨q1, q2, q3⟩, q4, _⟩ := h i (by simp)
        rcases h1 with h1 | h1 | h1 | h1
        · omega
        · omega
        · exact absurd q3 h1
        · exact absurd (by simpa using h1) q4
    · rw [if_neg h1, if_neg (fun h => hl h.2)]
      have hv : ValidI ws taken i := ⟨by omega, by omega, by
        by_cases e : wsI ws i &&& taken = 0
        · exact e
        · exact absurd (.inr (.inr (.inl e))) h1⟩
      have hp : i ∉ prev := fun h => h1 (.inr (.inr (.inr (by simpa using h))))
      by_cases h2 : andn (wsI ws i) out &&& used ≠ 0
      · rw [if_pos h2]
        constructor
        · intro h; cases h
        · rintro ⟨h, _⟩
          exact absurd (h i (by simp)).2.2 h2
      · rw [if_neg h2, ih]
        have h2' : andn (wsI ws i) out &&& used = 0 := by simpa using h2
        constructor
        · rintro ⟨q1, q2, q3⟩
          refine ⟨fun k hk => ?_, List.pairwise_cons.2 ⟨fun k hk => ?_, q2⟩, q3⟩
          · simp only [List.mem_cons] at hk
            rcases hk with rfl | hk
            · exact ⟨hv, hp, h2'⟩
            · obtain ⟨a1, a2, a3⟩ := q1 k hk
              exact ⟨a1, fun h => a2 (by simp [h]), ((and_or_zero _ _ _).1 a3).1⟩
          · obtain ⟨a1, a2, a3⟩ := q1 k hk
            refine ⟨fun e => a2 (by simp [e]), ?_⟩
            rw [Nat.and_comm (wsI ws i)]
            exact (andn_and_zero _ _ _).1 ((and_or_zero _ _ _).1 a3).2
        · rintro ⟨q1, q2, q3⟩
          obtain ⟨p1, p2⟩ := List.pairwise_cons.1 q2
          refine ⟨fun k hk => ?_, p2, q3⟩
          obtain ⟨a1, a2, a3⟩ := q1 k (by simp [hk])
          obtain ⟨b1, b2⟩ := p1 k hk
          refine ⟨a1, fun h => ?_, (and_or_zero _ _ _).2 ⟨a3, ?_⟩⟩
          · simp only [List.mem_append, List.mem_singleton] at h
            rcases h with h | h
            · exact a2 h
            · exact b1 h.symm
          · rw [andn_and_zero, Nat.and_comm]; exact b2
theorem apartR_pair (ws : List Nat) (l : List Int) (out : Nat) : apartR ws l out = true ↔ l.Pairwise (Apt ws out) := by
  rw [List.pairwise_iff_getElem]
  unfold apartR
  simp only [List.all_eq_true, List.mem_range, Bool.and_eq_true, bne_iff_ne, beq_iff_eq]
  have e : ∀ i (h : i < l.length), l.getD i 0 = l[i] := fun i h => by rw [List.getD_eq_getElem?_getD, List.getElem?_eq_getElem h]; rfl
  constructor
  · intro h a b ha hb hab
    obtain ⟨q1, q2⟩ := h b hb a hab
    rw [e a ha, e b hb] at q1 q2
    exact ⟨fun h => q1 h.symm, by rw [Nat.and_comm]; exact q2⟩
  · intro h a ha b hab
    obtain ⟨q1, q2⟩ := h b a (by omega) ha hab
    rw [e a ha, e b (by omega)]
    exact ⟨fun h => q1 h.symm, by rw [Nat.and_comm]; exact q2⟩
theorem leafR_all (ws : List Nat) (taken : Nat) (l : List Int) : (l.all fun i => decide (0 ≤ i) && decide (i < ws.length) && (ws.getD i.toNat 0 &&& taken == 0)) = true ↔ ∀ i ∈ l, ValidI ws taken i := by
  simp only [List.all_eq_true, Bool.and_eq_true, decide_eq_true_eq, beq_iff_eq]
  exact ⟨fun h i hi => ⟨(h i hi).1.1, (h i hi).1.2, (h i hi).2⟩, fun h i hi => ⟨⟨(h i hi).1, (h i hi).2.1⟩, (h i hi).2.2⟩⟩
theorem leaf_same (ws : List Nat) (size : Int) (l : List Int) (taken out : Nat) : leafP ws size l taken out = leafR ws size l taken out := by
  rw [Bool.eq_iff_iff]
  by_cases h1 : l.length = 1
  · match l, h1 with
    | [i], _ =>
      unfold leafP leafGo leafR
      rw [Bool.and_eq_true, leafR_all]
      by_cases hv : i < 0 ∨ i ≥ ws.length ∨ wsI ws i &&& taken ≠ 0 ∨ ([] : List Int).contains i = true
      · rw [if_pos hv]
        constructor
        · intro h; cases h
        · rintro ⟨h, _⟩
          obtain ⟨q1, q2, q3⟩ := h i (by simp)
          rcases hv with hv | hv | hv | hv
          · omega
          · omega
          · exact absurd q3 hv
          · simp at hv
      · rw [if_neg hv]
        have hval : ∀ k ∈ [i], ValidI ws taken k := fun k hk => by
          simp only [List.mem_singleton] at hk
          subst hk
          refine ⟨by omega, by omega, ?_⟩
          by_cases e : wsI ws k &&& taken = 0
          · exact e
          · exact absurd (.inr (.inr (.inl e))) hv
        by_cases h0 : andn (wsI ws i) out = 0
        · rw [if_pos ⟨h0, rfl⟩]
          simp only [true_iff]
          refine ⟨hval, ?_⟩
          simp only [List.length_singleton, List.headD_cons, Bool.or_eq_true, Bool.and_eq_true, beq_iff_eq]
          exact .inl ⟨trivial, h0⟩
        · rw [if_neg (fun h => h0 h.1), if_neg (by simp)]
          simp only [leafGo, decide_eq_true_eq, List.length_singleton, List.headD_cons, Bool.or_eq_true, Bool.and_eq_true, beq_iff_eq]
          have hap : apartR ws [i] out = true := (apartR_pair _ _ _).2 (List.pairwise_singleton _ _)
          constructor
          · intro h; exact ⟨hval, .inr ⟨hap, by omega⟩⟩
          · rintro ⟨_, h | h⟩
            · exact absurd h.2 h0
            · omega
  · unfold leafP
    rw [leafGo_iff _ _ _ _ _ h1]
    unfold leafR
    rw [Bool.and_eq_true, leafR_all, Bool.or_eq_true, Bool.and_eq_true, Bool.and_eq_true, apartR_pair]
    simp only [decide_eq_true_eq, beq_iff_eq]
    constructor
    · rintro ⟨q1, q2, q3⟩
      exact ⟨fun i hi => (q1 i hi).1, .inr ⟨q2, by omega⟩⟩
    · rintro ⟨q1, q2 | ⟨q2, q3⟩⟩
      · exact absurd q2.1 h1
      · exact ⟨fun i hi => ⟨q1 i hi, by simp, by simp⟩, q2, by omega⟩
def node0 : TNode := ⟨0, 0, 0, 0, []⟩
/-- A node is right, with all below it: the places that are seen. -/
def rightF (ws : List Nat) (n : Nat) (size : Int) (t : List TNode) : Nat → Nat → Nat → Nat → List Bool → Option (List Bool)
  | 0, _, _, _, _ => none
  | d + 1, at_, taken, out, seen =>
    if seen.getD at_ false = true then none
    else
      let x := t.getD at_ node0
      if x.yes = 0 ∧ x.no = 0 then (if leafP ws size x.weights taken out then some (seen.set at_ true) else none)
      else if x.pick < 0 ∨ x.pick ≥ n ∨ (taken ||| out).testBit x.pick.toNat = true ∨ x.yes ≤ at_ ∨ x.no ≤ at_ ∨ x.yes ≥ t.length ∨ x.no ≥ t.length then none
      else match rightF ws n size t d x.yes.toNat (taken ||| bit x.pick.toNat) out (seen.set at_ true) with
        | none => none
        | some s => rightF ws n size t d x.no.toNat taken (out ||| bit x.pick.toNat) s
/-- The nodes below one are a tree on some places. -/
inductive TR (ws : List Nat) (n : Nat) (size : Int) (t : List TNode) : Nat → Nat → Nat → (Nat → Prop) → Prop where
  | leaf (at_ taken out : Nat) (h1 : (t.getD at_ node0).yes = 0 ∧ (t.getD at_ node0).no = 0) (h2 : leafR ws size (t.getD at_ node0).weights taken out = true) : TR ws n size t at_ taken out (fun j => j = at_)
  | node (at_ taken out : Nat) (S1 S2 : Nat → Prop) (h1 : ¬ ((t.getD at_ node0).yes = 0 ∧ (t.getD at_ node0).no = 0))
    (h2 : ¬ ((t.getD at_ node0).pick < 0 ∨ (t.getD at_ node0).pick ≥ n ∨ (taken ||| out).testBit (t.getD at_ node0).pick.toNat = true ∨ (t.getD at_ node0).yes ≤ at_ ∨ (t.getD at_ node0).no ≤ at_ ∨ (t.getD at_ node0).yes ≥ t.length ∨ (t.getD at_ node0).no ≥ t.length))
    (h3 : TR ws n size t (t.getD at_ node0).yes.toNat (taken ||| bit (t.getD at_ node0).pick.toNat) out S1) (h4 : TR ws n size t (t.getD at_ node0).no.toNat taken (out ||| bit (t.getD at_ node0).pick.toNat) S2) (h5 : ∀ j, ¬ (S1 j ∧ S2 j)) :
    TR ws n size t at_ taken out (fun j => j = at_ ∨ S1 j ∨ S2 j)
theorem TR.ge {ws : List Nat} {n : Nat} {size : Int} {t : List TNode} {at_ taken out : Nat} {S : Nat → Prop} (h : TR ws n size t at_ taken out S) : ∀ j, S j → at_ ≤ j := by
  induction h with
  | leaf => intro j hj; omega
  | node a tk o S1 S2 h1 h2 h3 h4 h5 i1 i2 =>
    intro j hj
    rcases hj with hj | hj | hj
    · omega
    · have := i1 j hj; omega
    · have := i2 j hj; omega
theorem TR.self {ws : List Nat} {n : Nat} {size : Int} {t : List TNode} {at_ taken out : Nat} {S : Nat → Prop} (h : TR ws n size t at_ taken out S) : S at_ := by
  cases h with
  | leaf => rfl
  | node => exact .inl rfl
theorem right_iff (ws : List Nat) (n : Nat) (size : Int) (t : List TNode) : ∀ (d at_ taken out : Nat) (seen : List Bool), t.length ≤ at_ + d → at_ < t.length → seen.length = t.length →
    (∀ s, rightF ws n size t d at_ taken out seen = some s → ∃ S, TR ws n size t at_ taken out S ∧ s.length = t.length ∧ ∀ j, (S j → seen.getD j false = false) ∧ (s.getD j false = true ↔ seen.getD j false = true ∨ S j)) ∧
    (∀ S, TR ws n size t at_ taken out S → (∀ j, S j → seen.getD j false = false) → ∃ s, rightF ws n size t d at_ taken out seen = some s ∧ s.length = t.length ∧ ∀ j, s.getD j false = true ↔ seen.getD j false = true ∨ S j) := by
  intro d
  induction d with
  | zero => intro at_ taken out seen h1 h2; omega
  | succ d ih =>
    intro at_ taken out seen hd hat hsl
    have hset : ∀ j, (seen.set at_ true).getD j false = true ↔ seen.getD j false = true ∨ j = at_ := fun j => by
      by_cases e : j = at_
      · subst e; rw [getD_set_eq _ _ _ _ (by omega)]; simp
      · rw [getD_set_ne _ _ _ _ _ (Ne.symm e)]; simp [e]
    unfold rightF
    by_cases hs : seen.getD at_ false = true
    · rw [if_pos hs]
      refine ⟨fun s h => (by cases h), fun S h hS => ?_⟩
      have := hS _ h.self
      rw [hs] at this; cases this
    · rw [if_neg hs]
      have hs' : seen.getD at_ false = false := by simpa using hs
      simp only
      by_cases hl : (t.getD at_ node0).yes = 0 ∧ (t.getD at_ node0).no = 0
      · rw [if_pos hl, leaf_same]
        constructor
        · intro s h
          split at h
          · rename_i hleaf
            injection h with h
            subst h
            refine ⟨_, .leaf at_ taken out hl hleaf, by simpa using hsl, fun j => ⟨fun e => by rw [e]; exact hs', hset j⟩⟩
          · cases h
        · intro S h hS
          cases h with
          | leaf _ _ _ q1 q2 => exact ⟨_, by rw [if_pos q2], by simpa using hsl, hset⟩
          | node _ _ _ S1 S2 q1 => exact absurd hl q1
      · rw [if_neg hl]
        by_cases hb : (t.getD at_ node0).pick < 0 ∨ (t.getD at_ node0).pick ≥ n ∨ (taken ||| out).testBit (t.getD at_ node0).pick.toNat = true ∨ (t.getD at_ node0).yes ≤ at_ ∨ (t.getD at_ node0).no ≤ at_ ∨ (t.getD at_ node0).yes ≥ t.length ∨ (t.getD at_ node0).no ≥ t.length
        · rw [if_pos hb]
          refine ⟨fun s h => (by cases h), fun S h hS => ?_⟩
          cases h with
          | leaf _ _ _ q1 => exact absurd q1 hl
          | node _ _ _ S1 S2 q1 q2 => exact absurd hb q2
        · rw [if_neg hb]
          obtain ⟨y1, y2⟩ := ih (t.getD at_ node0).yes.toNat (taken ||| bit (t.getD at_ node0).pick.toNat) out (seen.set at_ true) (by omega) (by omega) (by simpa using hsl)
          constructor
          · intro s h
            cases hy : rightF ws n size t d (t.getD at_ node0).yes.toNat (taken ||| bit (t.getD at_ node0).pick.toNat) out (seen.set at_ true) with
            | none => rw [hy] at h; cases h
            | some s1 =>
              rw [hy] at h
              obtain ⟨S1, a1, a2, a3⟩ := y1 s1 hy
              obtain ⟨z1, _⟩ := ih (t.getD at_ node0).no.toNat taken (out ||| bit (t.getD at_ node0).pick.toNat) s1 (by omega) (by omega) a2
              obtain ⟨S2, b1, b2, b3⟩ := z1 s h
              refine ⟨_, .node at_ taken out S1 S2 hl hb a1 b1 (fun j hj => ?_), b2, fun j => ⟨fun hj => ?_, ?_⟩⟩
              · have := (b3 j).1 hj.2
                rw [(a3 j).2.2 (.inr hj.1)] at this; cases this
              · rcases hj with rfl | hj | hj
                · exact hs'
                · have := (a3 j).1 hj
                  cases h0 : seen.getD j false with
                  | false => rfl
                  | true => rw [(hset j).2 (.inl h0)] at this; cases this
                · have := (b3 j).1 hj
                  cases h0 : seen.getD j false with
                  | false => rfl
                  | true => rw [(a3 j).2.2 (.inl ((hset j).2 (.inl h0)))] at this; cases this
              · rw [(b3 j).2, (a3 j).2, hset j]
                constructor
                · rintro (((h | h) | h) | h)
                  · exact .inl h
                  · exact .inr (.inl h)
                  · exact .inr (.inr (.inl h))
                  · exact .inr (.inr (.inr h))
                · rintro (h | h | h | h)
                  · exact .inl (.inl (.inl h))
                  · exact .inl (.inl (.inr h))
                  · exact .inl (.inr h)
                  · exact .inr h
          · intro S h hS
            cases h with
            | leaf _ _ _ q1 => exact absurd q1 hl
            | node _ _ _ S1 S2 q1 q2 q3 q4 q5 =>
              have d1 : ∀ j, S1 j → (seen.set at_ true).getD j false = false := fun j hj => by
                cases h0 : (seen.set at_ true).getD j false with
                | false => rfl
                | true =>
                  rcases (hset j).1 h0 with h | h
                  · rw [hS j (.inr (.inl hj))] at h; cases h
                  · have := q3.ge j hj; omega
              obtain ⟨s1, e1, e2, e3⟩ := y2 S1 q3 d1
              obtain ⟨_, z2⟩ := ih (t.getD at_ node0).no.toNat taken (out ||| bit (t.getD at_ node0).pick.toNat) s1 (by omega) (by omega) e2
              have d2 : ∀ j, S2 j → s1.getD j false = false := fun j hj => by
                cases h0 : s1.getD j false with
                | false => rfl
                | true =>
                  rcases (e3 j).1 h0 with h | h
                  · rcases (hset j).1 h with h | h
                    · rw [hS j (.inr (.inr hj))] at h; cases h
                    · have := q4.ge j hj; omega
                  · exact absurd ⟨h, hj⟩ (q5 j)
              obtain ⟨s2, f1, f2, f3⟩ := z2 S2 q4 d2
              refine ⟨s2, by rw [e1]; exact f1, f2, fun j => ?_⟩
              rw [f3, e3, hset j]
              constructor
              · rintro (((h | h) | h) | h)
                · exact .inl h
                · exact .inr (.inl h)
                · exact .inr (.inr (.inl h))
                · exact .inr (.inr (.inr h))
              · rintro (h | h | h | h)
                · exact .inl (.inl (.inl h))
                · exact .inl (.inl (.inr h))
                · exact .inl (.inr h)
                · exact .inr h
theorem tree_iff (ws : List Nat) (n : Nat) (size : Int) (t : List TNode) : ∀ (r : List TNode) (i : Nat) (tk ot : List Nat) (re : List Bool), r = t.drop i → i ≤ t.length → tk.length = t.length → ot.length = t.length → re.length = t.length →
    (treeGo ws n size t.length r i tk ot re = true ↔ ∃ S : Nat → Nat → Prop, (∀ j, i ≤ j → re.getD j false = true → TR ws n size t j (tk.getD j 0) (ot.getD j 0) (S j)) ∧ ∀ j k, i ≤ j → i ≤ k → re.getD j false = true → re.getD k false = true → j ≠ k → ∀ x, ¬ (S j x ∧ S k x)) := by
  intro r
  induction r with
  | nil =>
    intro i tk ot re hr hi l1 l2 l3
    have hi' : t.length ≤ i := by have := congrArg List.length hr; simp at this; omega
    simp only [treeGo, true_iff]
    have hno : ∀ j, i ≤ j → re.getD j false = true → False := fun j hj h => by
      rw [List.getD_eq_getElem?_getD, List.getElem?_eq_none (by omega)] at h; cases h
    exact ⟨fun _ _ => True, fun j hj h => (hno j hj h).elim, fun j k hj _ h => (hno j hj h).elim⟩
  | cons x r ih =>
    intro i tk ot re hr hi l1 l2 l3
    have hil : i < t.length := by have := congrArg List.length hr; simp at this; omega
    have hx : t.getD i node0 = x := by
      rw [List.getD_eq_getElem?_getD, List.getElem?_eq_getElem hil]
      have := List.drop_eq_getElem_cons hil
      rw [← hr] at this
      injection this with h1 h2
      exact h1.symm
    have hr' : r = t.drop (i + 1) := by
      have := List.drop_eq_getElem_cons hil
      rw [← hr] at this
      injection this
    unfold treeGo
    by_cases h0 : re.getD i false = false
    · rw [if_pos h0, ih (i + 1) tk ot re hr' (by omega) l1 l2 l3]
      have up : ∀ j, i ≤ j → re.getD j false = true → i + 1 ≤ j := fun j hj h => by
        rcases Nat.eq_or_lt_of_le hj with e | e
        · subst e; rw [h0] at h; cases h
        · exact e
      constructor
      · rintro ⟨S, q1, q2⟩
        exact ⟨S, fun j hj h => q1 j (up j hj h) h, fun j k hj hk h1 h2 => q2 j k (up j hj h1) (up k hk h2) h1 h2⟩
      · rintro ⟨S, q1, q2⟩
        exact ⟨S, fun j hj h => q1 j (by omega) h, fun j k hj hk h1 h2 => q2 j k (by omega) (by omega) h1 h2⟩
    · rw [if_neg h0]
      have h0' : re.getD i false = true := by simpa using h0
      by_cases hl : x.yes = 0 ∧ x.no = 0
      · rw [if_pos hl, Bool.and_eq_true, ih (i + 1) tk ot re hr' (by omega) l1 l2 l3]
        constructor
        · rintro ⟨hleaf, S, q1, q2⟩
          refine ⟨fun j => if j = i then (fun z => z = i) else S j, fun j hj h => ?_, fun j k hj hk h1 h2 hne z => ?_⟩
          · by_cases e : j = i
            · subst e
              simp only [if_true]
              exact .leaf _ _ _ (by rw [hx]; exact hl) (by rw [hx]; exact hleaf)
            · simp only [e, if_false]
              exact q1 j (by omega) h
          · by_cases e : j = i
            · subst e
              have e2 : k ≠ j := fun h => hne h.symm
              simp only [if_true, e2, if_false]
              rintro ⟨rfl, h⟩
              have := (q1 k (by omega) h2).ge _ h
              omega
            · by_cases e2 : k = i
              · subst e2
                simp only [e, if_false, if_true]
                rintro ⟨h, rfl⟩
                have := (q1 j (by omega) h1).ge _ h
                omega
              · simp only [e, e2, if_false]
                exact q2 j k (by omega) (by omega) h1 h2 hne z
        · rintro ⟨S, q1, q2⟩
          refine ⟨?_, S, fun j hj h => q1 j (by omega) h, fun j k hj hk h1 h2 => q2 j k (by omega) (by omega) h1 h2⟩
          have := q1 i (by omega) h0'
          generalize S i = Si at this
          cases this with
          | leaf _ _ _ p1 p2 => rw [hx] at p2; exact p2
          | node _ _ _ _ _ p1 => rw [hx] at p1; exact absurd hl p1
      · rw [if_neg hl]
        by_cases hb : x.yes ≤ i ∨ x.no ≤ i ∨ x.yes ≥ t.length ∨ x.no ≥ t.length ∨ x.yes = x.no ∨ re.getD x.yes.toNat false = true ∨ re.getD x.no.toNat false = true
        · rw [if_pos hb]
          constructor
          · intro h; cases h
          · rintro ⟨S, q1, q2⟩
            exfalso
            have h1 := q1 i (by omega) h0'
            have h2 := fun k hk hre hne => q2 i k (by omega) hk h0' hre hne
            have hk' := fun k hk hre => q1 k hk hre
            generalize S i = Si at h1 h2
            cases h1 with
            | leaf _ _ _ p1 => rw [hx] at p1; exact hl p1
            | node _ _ _ S1 S2 p1 p2 p3 p4 p5 =>
              rw [hx] at p2 p3 p4
              rcases hb with h | h | h | h | h | h | h
              · exact p2 (.inr (.inr (.inr (.inl h))))
              · exact p2 (.inr (.inr (.inr (.inr (.inl h)))))
              · exact p2 (.inr (.inr (.inr (.inr (.inr (.inl h))))))
              · exact p2 (.inr (.inr (.inr (.inr (.inr (.inr h))))))
              · have a := p3.self
                have b := p4.self
                rw [h] at a
                exact p5 _ ⟨a, b⟩
              · have hgt : i < x.yes.toNat := by omega
                exact h2 x.yes.toNat (by omega) h (by omega) x.yes.toNat ⟨.inr (.inl p3.self), (hk' _ (by omega) h).self⟩
              · have hgt : i < x.no.toNat := by omega
                exact h2 x.no.toNat (by omega) h (by omega) x.no.toNat ⟨.inr (.inr p4.self), (hk' _ (by omega) h).self⟩
        · rw [if_neg hb]
          by_cases hc : x.pick < 0 ∨ x.pick ≥ n ∨ (tk.getD i 0 ||| ot.getD i 0).testBit x.pick.toNat = true
          · rw [if_pos hc]
            constructor
            · intro h; cases h
            · rintro ⟨S, q1, _⟩
              exfalso
              have h1 := q1 i (by omega) h0'
              generalize S i = Si at h1
              cases h1 with
              | leaf _ _ _ p1 => rw [hx] at p1; exact hl p1
              | node _ _ _ S1 S2 p1 p2 =>
                rw [hx] at p2
                rcases hc with h | h | h
                · exact p2 (.inl h)
                · exact p2 (.inr (.inl h))
                · exact p2 (.inr (.inr (.inl h)))
          · rw [if_neg hc, ih (i + 1) _ _ _ hr' (by omega) (by simpa using l1) (by simpa using l2) (by simpa using l3)]
            have hy : x.yes.toNat < t.length := by omega
            have hn : x.no.toNat < t.length := by omega
            have hyn : x.yes.toNat ≠ x.no.toNat := by omega
            have hyi : i < x.yes.toNat := by omega
            have hni : i < x.no.toNat := by omega
            have gy : ∀ (l : List Nat) (a b : Nat), l.length = t.length → ((l.set x.yes.toNat a).set x.no.toNat b).getD x.yes.toNat 0 = a := fun l a b hl => by
              rw [getD_set_ne _ _ _ _ _ (Ne.symm hyn), getD_set_eq _ _ _ _ (by omega)]
            have gn : ∀ (l : List Nat) (a b : Nat), l.length = t.length → ((l.set x.yes.toNat a).set x.no.toNat b).getD x.no.toNat 0 = b := fun l a b hl => by
              rw [getD_set_eq _ _ _ _ (by simp; omega)]
            have go : ∀ (l : List Nat) (a b j : Nat), j ≠ x.yes.toNat → j ≠ x.no.toNat → ((l.set x.yes.toNat a).set x.no.toNat b).getD j 0 = l.getD j 0 := fun l a b j h1 h2 => by
              rw [getD_set_ne _ _ _ _ _ (Ne.symm h2), getD_set_ne _ _ _ _ _ (Ne.symm h1)]
            have ry : ((re.set x.yes.toNat true).set x.no.toNat true).getD x.yes.toNat false = true := by
              rw [getD_set_ne _ _ _ _ _ (Ne.symm hyn), getD_set_eq _ _ _ _ (by omega)]
            have rn : ((re.set x.yes.toNat true).set x.no.toNat true).getD x.no.toNat false = true := by
              rw [getD_set_eq _ _ _ _ (by simp; omega)]
            have ro : ∀ j, j ≠ x.yes.toNat → j ≠ x.no.toNat → ((re.set x.yes.toNat true).set x.no.toNat true).getD j false = re.getD j false := fun j h1 h2 => by
              rw [getD_set_ne _ _ _ _ _ (Ne.symm h2), getD_set_ne _ _ _ _ _ (Ne.symm h1)]
            have hry : re.getD x.yes.toNat false = false := by
              cases h : re.getD x.yes.toNat false with
              | false => rfl
              | true => exact absurd (.inr (.inr (.inr (.inr (.inr (.inl h)))))) hb
            have hrn : re.getD x.no.toNat false = false := by
              cases h : re.getD x.no.toNat false with
              | false => rfl
              | true => exact absurd (.inr (.inr (.inr (.inr (.inr (.inr h)))))) hb
            constructor
            · rintro ⟨S, q1, q2⟩
              have t1 := q1 _ (by omega) ry
              have t2 := q1 _ (by omega) rn
              rw [gy _ _ _ l1, gy _ _ _ l2] at t1
              rw [gn _ _ _ l1, gn _ _ _ l2] at t2
              have old : ∀ j, i ≤ j → re.getD j false = true → j ≠ i → i + 1 ≤ j ∧ j ≠ x.yes.toNat ∧ j ≠ x.no.toNat := fun j hj h hne =>
                ⟨by omega, fun e => (by rw [e, hry] at h; cases h), fun e => (by rw [e, hrn] at h; cases h)⟩
              refine ⟨fun j => if j = i then (fun z => z = i ∨ S x.yes.toNat z ∨ S x.no.toNat z) else S j, fun j hj h => ?_, ?_⟩
              · by_cases e : j = i
                · subst e
                  simp only [if_true]
                  refine .node _ _ _ _ _ (by rw [hx]; exact hl) (by rw [hx]; intro h; rcases h with h | h | h | h | h | h | h <;> first | exact hc (.inl h) | exact hc (.inr (.inl h)) | exact hc (.inr (.inr h)) | omega) (by rw [hx]; exact t1) (by rw [hx]; exact t2) (q2 _ _ (by omega) (by omega) ry rn hyn)
                · simp only [e, if_false]
                  obtain ⟨o1, o2, o3⟩ := old j hj h e
                  have := q1 j o1 (by rw [ro j o2 o3]; exact h)
                  rw [go _ _ _ j o2 o3, go _ _ _ j o2 o3] at this
                  exact this
              · have main : ∀ k, i ≤ k → re.getD k false = true → k ≠ i → ∀ z, ¬ ((z = i ∨ S x.yes.toNat z ∨ S x.no.toNat z) ∧ S k z) := by
                  rintro k hk h hne z ⟨hz, hk2⟩
                  obtain ⟨o1, o2, o3⟩ := old k hk h hne
                  have hrk : ((re.set x.yes.toNat true).set x.no.toNat true).getD k false = true := by rw [ro k o2 o3]; exact h
                  rcases hz with rfl | hz | hz
                  · have := (q1 k o1 hrk).ge _ hk2; omega
                  · exact q2 _ k (by omega) o1 ry hrk (Ne.symm o2) z ⟨hz, hk2⟩
                  · exact q2 _ k (by omega) o1 rn hrk (Ne.symm o3) z ⟨hz, hk2⟩
                intro j k hj hk h1 h2 hne z
                by_cases e : j = i
                · have e2 : k ≠ i := fun h => hne (by rw [e, h])
                  simp only [e, e2, if_true, if_false]
                  exact main k hk h2 e2 z
                · by_cases e2 : k = i
                  · simp only [e, e2, if_true, if_false]
                    exact fun h => main j hj h1 e z ⟨h.2, h.1⟩
                  · simp only [e, e2, if_false]
                    obtain ⟨o1, o2, o3⟩ := old j hj h1 e
                    obtain ⟨p1, p2, p3⟩ := old k hk h2 e2
                    exact q2 j k o1 p1 (by rw [ro j o2 o3]; exact h1) (by rw [ro k p2 p3]; exact h2) hne z
            · rintro ⟨S, q1, q2⟩
              have h1 := q1 i (by omega) h0'
              have h2 := fun k hk hre hne => q2 i k (by omega) hk h0' hre hne
              generalize hSi : S i = Si at h1 h2
              cases h1 with
              | leaf _ _ _ p1 => rw [hx] at p1; exact absurd p1 hl
              | node _ _ _ S1 S2 p1 p2 p3 p4 p5 =>
                rw [hx] at p3 p4
                have cas : ∀ j, i + 1 ≤ j → ((re.set x.yes.toNat true).set x.no.toNat true).getD j false = true → j = x.yes.toNat ∨ j = x.no.toNat ∨ (j ≠ x.yes.toNat ∧ j ≠ x.no.toNat ∧ re.getD j false = true) := fun j hj h => by
                  by_cases e1 : j = x.yes.toNat
                  · exact .inl e1
                  · by_cases e2 : j = x.no.toNat
                    · exact .inr (.inl e2)
                    · exact .inr (.inr ⟨e1, e2, by rw [← ro j e1 e2]; exact h⟩)
                refine ⟨fun j => if j = x.yes.toNat then S1 else if j = x.no.toNat then S2 else S j, fun j hj h => ?_, ?_⟩
                · rcases cas j hj h with e | e | ⟨e1, e2, h⟩
                  · subst e
                    simp only [if_true]
                    rw [gy _ _ _ l1, gy _ _ _ l2]
                    exact p3
                  · subst e
                    simp only [Ne.symm hyn, if_false, if_true]
                    rw [gn _ _ _ l1, gn _ _ _ l2]
                    exact p4
                  · simp only [e1, e2, if_false]
                    rw [go _ _ _ j e1 e2, go _ _ _ j e1 e2]
                    exact q1 j (by omega) h
                · have m1 : ∀ k, i + 1 ≤ k → re.getD k false = true → ∀ z, ¬ (S1 z ∧ S k z) := fun k hk h z hz => h2 k (by omega) h (by omega) z ⟨.inr (.inl hz.1), hz.2⟩
                  have m2 : ∀ k, i + 1 ≤ k → re.getD k false = true → ∀ z, ¬ (S2 z ∧ S k z) := fun k hk h z hz => h2 k (by omega) h (by omega) z ⟨.inr (.inr hz.1), hz.2⟩
                  intro j k hj hk h1 h2' hne z
                  rcases cas j hj h1 with e | e | ⟨e1, e2, h⟩
                  · subst e
                    simp only [if_true]
                    rcases cas k hk h2' with f | f | ⟨f1, f2, h'⟩
                    · exact absurd f.symm hne
                    · subst f
                      simp only [Ne.symm hyn, if_false, if_true]
                      exact p5 z
                    · simp only [f1, f2, if_false]
                      exact m1 k hk h' z
                  · subst e
                    simp only [Ne.symm hyn, if_false, if_true]
                    rcases cas k hk h2' with f | f | ⟨f1, f2, h'⟩
                    · subst f
                      simp only [if_true]
                      exact fun h => p5 z ⟨h.2, h.1⟩
                    · exact absurd f.symm hne
                    · simp only [f1, f2, if_false]
                      exact m2 k hk h' z
                  · simp only [e1, e2, if_false]
                    rcases cas k hk h2' with f | f | ⟨f1, f2, h'⟩
                    · subst f
                      simp only [if_true]
                      exact fun hh => m1 j hj h z ⟨hh.2, hh.1⟩
                    · subst f
                      simp only [Ne.symm hyn, if_false, if_true]
                      exact fun hh => m2 j hj h z ⟨hh.2, hh.1⟩
                    · simp only [f1, f2, if_false]
                      exact q2 j k (by omega) (by omega) h h' hne z
/-- The verifier and the reference agree on every list of nodes. -/
theorem verify_same (ws : List Nat) (n : Nat) (size : Int) (t : List TNode) (ht : 0 < t.length) : (rightF ws n size t t.length 0 0 0 (List.replicate t.length false)).isSome = treeF ws n size t := by
  have rep : ∀ j, (List.replicate t.length false).getD j false = false := fun j => by
    rw [List.getD_eq_getElem?_getD, List.getElem?_replicate]; split <;> rfl
  have repN : ∀ j, (List.replicate t.length 0).getD j 0 = 0 := fun j => by
    rw [List.getD_eq_getElem?_getD, List.getElem?_replicate]; split <;> rfl
  obtain ⟨r1, r2⟩ := right_iff ws n size t t.length 0 0 0 (List.replicate t.length false) (by omega) ht (by simp)
  have hT := tree_iff ws n size t t 0 (List.replicate t.length 0) (List.replicate t.length 0) ((List.replicate t.length false).set 0 true) rfl (by omega) (by simp) (by simp) (by simp)
  have hre : ∀ j, ((List.replicate t.length false).set 0 true).getD j false = true ↔ j = 0 := fun j => by
    by_cases e : j = 0
    · subst e; rw [getD_set_eq _ _ _ _ (by simpa using ht)]; simp
    · rw [getD_set_ne _ _ _ _ _ (Ne.symm e), rep]; simp [e]
  rw [Bool.eq_iff_iff]
  unfold treeF
  rw [hT]
  constructor
  · intro h
    obtain ⟨s, hs⟩ := Option.isSome_iff_exists.1 h
    obtain ⟨S, q1, _⟩ := r1 s hs
    refine ⟨fun _ => S, fun j _ hj => ?_, fun j k _ _ hj hk hne => ?_⟩
    · rw [(hre j).1 hj, repN]; exact q1
    · rw [(hre j).1 hj, (hre k).1 hk] at hne; exact absurd rfl hne
  · rintro ⟨S, q1, _⟩
    have := q1 0 (by omega) ((hre 0).2 rfl)
    rw [repN] at this
    obtain ⟨s, hs, _⟩ := r2 _ this fun j _ => rep j
    rw [hs]; rfl
end Hit
end Go.Proofs.YtnphdmiondccgaaDoor
/- Plain: the errors of lists and problems; right lists are the members of words. -/
namespace Go.Proofs.YtnphdmiondccgaaDoor
namespace Hit
def ints (l : List Nat) : List Int := l.map fun x : Nat => (x : Int)
/-- The error of a list of numbers: 3 out of range, 6 not increasing. -/
def listGo (n : Int) : Option Int → List Int → Int
  | _, [] => 0
  | p, v :: r => if v < 0 ∨ v ≥ n then 3 else if (match p with | some q => decide (v ≤ q) | none => false) = true then 6 else listGo n (some v) r
def listF (n : Int) (l : List Int) : Int := listGo n none l
def setsGo (n : Int) : List (List Int) → Int
  | [] => 0
  | s :: r => if s = [] then 13 else if listF n s ≠ 0 then listF n s else setsGo n r
def checkF (n : Int) (ls : List (List Int)) : Int := if n < 0 ∨ n > 20 then 3 else if ls.length > 100 then 4 else setsGo n ls
theorem listGo_ok (n : Int) : ∀ (l : List Int) (p : Option Int), listGo n p l = 0 → (∀ q, p = some q → ∀ v ∈ l, q < v) ∧ ∃ ns : List Nat, l = ints ns ∧ Inc ns ∧ ∀ x ∈ ns, (x : Int) < n := by
  intro l
  induction l with
  | nil => intro p _; exact ⟨fun _ _ v hv => by simp at hv, [], rfl, trivial, by simp⟩
  | cons v r ih =>
    intro p h
    unfold listGo at h
    by_cases h1 : v < 0 ∨ v ≥ n
    · rw [if_pos h1] at h; cases h
    · rw [if_neg h1] at h
      have h2 : (∀ q, p = some q → q < v) ∧ listGo n (some v) r = 0 := by
        cases p with
        | none => exact ⟨fun q hq => (by cases hq), by simpa using h⟩
        | some q =>
          by_cases hq : v ≤ q
          · simp [hq] at h
          · simp [hq] at h
            exact ⟨fun q' hq' => by injection hq' with hq'; omega, h⟩
      obtain ⟨a, ns, rfl, hi, hn⟩ := ih (some v) h2.2
      have hv0 : 0 ≤ v := by omega
      obtain ⟨k, rfl⟩ := Int.eq_ofNat_of_zero_le hv0
      refine ⟨fun q hq u hu => ?_, k :: ns, rfl, ⟨fun y hy => ?_, hi⟩, fun x hx => ?_⟩
      · have hq2 := h2.1 q hq
        simp only [List.mem_cons] at hu
        rcases hu with rfl | hu
        · exact hq2
        · have := a k rfl u hu; omega
      · have := a k rfl (y : Int) (List.mem_map.2 ⟨y, hy, rfl⟩)
        omega
      · simp only [List.mem_cons] at hx
        rcases hx with rfl | hx
        · omega
        · exact hn x hx
theorem listF_ok {n : Int} {l : List Int} (h : listF n l = 0) : ∃ ns : List Nat, l = ints ns ∧ Inc ns ∧ ∀ x ∈ ns, (x : Int) < n := (listGo_ok n l none h).2
theorem listGo_of (n : Int) : ∀ (ns : List Nat) (p : Option Int), Inc ns → (∀ x ∈ ns, (x : Int) < n) → (∀ q, p = some q → ∀ x ∈ ns, q < (x : Int)) → listGo n p (ints ns) = 0 := by
  intro ns
  induction ns with
  | nil => intro p _ _ _; rfl
  | cons x ns ih =>
    intro p hi hn hp
    show listGo n p ((x : Int) :: ints ns) = 0
    unfold listGo
    rw [if_neg (by have := hn x (by simp); omega), if_neg]
    · exact ih _ hi.2 (fun y hy => hn y (by simp [hy])) fun q hq y hy => by injection hq with hq; have := hi.1 y hy; omega
    · cases p with
      | none => simp
      | some q => have := hp q rfl x (by simp); simp; omega
theorem listF_of {n : Nat} {ns : List Nat} (hi : Inc ns) (hn : ∀ x ∈ ns, x < n) : listF n (ints ns) = 0 := listGo_of n ns none hi (fun x hx => by have := hn x hx; omega) (fun q hq => by cases hq)
theorem members_lt {w n : Nat} (h : w < 2 ^ n) : ∀ x ∈ members w, x < n := fun x hx => by
  have hx2 := (mem_members.1 hx).2
  rcases Nat.lt_or_ge x n with hl | hl
  · exact hl
  · rw [test_of_lt h hl] at hx2; cases hx2
theorem setsGo_of {n : Nat} (hn : n ≤ 64) : ∀ (ws : List Nat), Good ws n → setsGo n (ws.map fun s => ints (members s)) = 0 := by
  intro ws
  induction ws with
  | nil => intro _; rfl
  | cons s ws ih =>
    intro h
    obtain ⟨h0, h1⟩ := h s (by simp)
    have hne : ints (members s) ≠ [] := fun e => by
      have h64 : s < 2 ^ 64 := Nat.lt_of_lt_of_le h1 (Nat.pow_le_pow_right (by decide) hn)
      have : members s = [] := List.map_eq_nil_iff.1 e
      have hw := word_members h64
      rw [this] at hw
      exact h0 hw.symm
    have hl := listF_of (inc_members s) (members_lt h1)
    simp only [List.map_cons, setsGo]
    rw [if_neg hne, hl, if_neg (by simp)]
    exact ih fun t ht => h t (by simp [ht])
/-- A problem that is given by words is right. -/
theorem checkF_of {n : Nat} (hn : n ≤ 20) {ws : List Nat} (hw : ws.length ≤ 100) (h : Good ws n) : checkF n (ws.map fun s => ints (members s)) = 0 := by
  unfold checkF
  rw [if_neg (by omega), if_neg (by simp; omega)]
  exact setsGo_of (by omega) ws h
theorem setsGo_ok (n : Nat) (hn : n ≤ 64) : ∀ (ls : List (List Int)), setsGo n ls = 0 → ∃ ws : List Nat, ls = (ws.map fun s => ints (members s)) ∧ Good ws n := by
  intro ls
  induction ls with
  | nil => intro _; exact ⟨[], rfl, fun s hs => by simp at hs⟩
  | cons l ls ih =>
    intro h
    unfold setsGo at h
    split at h
    · cases h
    · rename_i h1
      split at h
      · rename_i h2; exact absurd h h2
      · rename_i h2
        obtain ⟨ns, rfl, hi, hlt⟩ := listF_ok (by simpa using h2)
        obtain ⟨ws, rfl, hg⟩ := ih h
        have hlt' : ∀ x ∈ ns, x < n := fun x hx => by have := hlt x hx; omega
        refine ⟨word ns :: ws, ?_, fun s hs => ?_⟩
        · rw [List.map_cons, members_word hi fun x hx => by have := hlt' x hx; omega]
        · simp only [List.mem_cons] at hs
          rcases hs with rfl | hs
          · refine ⟨fun e => h1 ?_, word_lt hlt'⟩
            cases ns with
            | nil => rfl
            | cons x ns =>
              have := (zero_iff _).1 e x
              rw [word_test] at this
              simp at this
          · exact hg s hs
/-- A right problem is given by words. -/
theorem checkF_ok {n : Int} {ls : List (List Int)} (h : checkF n ls = 0) : ∃ (m : Nat) (ws : List Nat), n = m ∧ m ≤ 20 ∧ ls = (ws.map fun s => ints (members s)) ∧ ws.length ≤ 100 ∧ Good ws m := by
  unfold checkF at h
  split at h
  · cases h
  · rename_i h1
    split at h
    · cases h
    · rename_i h2
      have h0 : 0 ≤ n := by omega
      obtain ⟨m, rfl⟩ := Int.eq_ofNat_of_zero_le h0
      obtain ⟨ws, rfl, hg⟩ := setsGo_ok m (by omega) ls h
      exact ⟨m, ws, rfl, by omega, rfl, by simpa using h2, hg⟩
end Hit
end Go.Proofs.YtnphdmiondccgaaDoor
/- Plain: the checker's verifier is the verifier; what the laws on Prove, Verify and Hits owe. -/
namespace Go.Proofs.YtnphdmiondccgaaDoor
namespace Hit
theorem filter_add (l : List Nat) (q : Nat → Bool) (p : Nat) (hi : Inc l) (hp : p ∈ l) (hq : q p = false) : (l.filter fun i => q i || i == p).length = (l.filter q).length + 1 := by
  induction l with
  | nil => simp at hp
  | cons x l ih =>
    rw [List.filter_cons, List.filter_cons]
    by_cases e : x = p
    · subst e
      have hn := inc_not_mem hi
      have : (l.filter fun i => q i || i == x) = l.filter q := List.filter_congr fun y hy => by
        have : (y == x) = false := by simp; rintro rfl; exact hn hy
        rw [this, Bool.or_false]
      rw [this, hq]
      simp
    · have hpl : p ∈ l := by simp only [List.mem_cons] at hp; rcases hp with h | h; exact absurd h.symm e; exact h
      have := ih hi.2 hpl
      have e2 : (x == p) = false := by simpa using e
      rw [e2, Bool.or_false]
      cases q x <;> simp [this]
theorem pop_bit {w p : Nat} (hp : p < 64) (h : w.testBit p = false) : pop (w ||| bit p) = pop w + 1 := by
  unfold pop members
  have : ((List.range 64).filter fun i => (w ||| bit p).testBit i) = (List.range 64).filter fun i => w.testBit i || i == p := List.filter_congr fun y _ => by
    rw [Nat.testBit_or, bit_test]
    by_cases e : p = y
    · subst e; simp
    · have e1 : (y == p) = false := by simp; exact fun h => e h.symm
      simp [e, e1]
  rw [this]
  exact filter_add _ _ p (inc_range 64) (by simpa using hp) h
/-- The checker's test of a leaf: cost is the number of what is taken. -/
def leafCGo (ws : List Nat) (size cost : Int) (len taken out : Nat) : List Int → List Int → Nat → Bool
  | _, [], _ => decide ((len : Int) + cost ≥ size)
  | prev, i :: r, used =>
    if i < 0 ∨ i > (ws.length : Int) - 1 ∨ prev.contains i = true then false
    else if wsI ws i &&& taken ≠ 0 ∨ andn (wsI ws i) out &&& used ≠ 0 then false
    else if andn (wsI ws i) out = 0 ∧ len = 1 then true
    else leafCGo ws size cost len taken out (prev ++ [i]) r (used ||| andn (wsI ws i) out)
theorem leafC_same (ws : List Nat) (size : Int) (len taken out : Nat) : ∀ (r prev : List Int) (used : Nat), leafCGo ws size (pop taken) len taken out prev r used = leafGo ws size len taken out prev r used := by
  intro r
  induction r with
  | nil => intro prev used; rfl
  | cons i r ih =>
    intro prev used
    unfold leafCGo leafGo
    by_cases h1 : i < 0 ∨ i > (ws.length : Int) - 1 ∨ prev.contains i = true
    · rw [if_pos h1, if_pos]
      rcases h1 with h | h | h
      · exact .inl h
      · exact .inr (.inl (by omega))
      · exact .inr (.inr (.inr h))
    · rw [if_neg h1]
      by_cases h2 : wsI ws i &&& taken ≠ 0
      · rw [if_pos (.inl h2), if_pos (.inr (.inr (.inl h2)))]
      · have h3 : ¬ (i < 0 ∨ i ≥ ws.length ∨ wsI ws i &&& taken ≠ 0 ∨ prev.contains i = true) := by
          intro h
          rcases h with h | h | h | h
          · exact h1 (.inl h)
          · exact h1 (.inr (.inl (by omega)))
          · exact h2 h
          · exact h1 (.inr (.inr h))
        rw [if_neg h3]
        by_cases h4 : andn (wsI ws i) out = 0 ∧ len = 1
        · rw [if_pos h4, if_neg, if_pos h4]
          rintro (h | h)
          · exact h2 h
          · exact h (by rw [h4.1]; simp)
        · rw [if_neg h4, if_neg h4]
          by_cases h5 : andn (wsI ws i) out &&& used ≠ 0
          · rw [if_pos (.inr h5), if_pos h5]
          · rw [if_neg (fun h => h.elim h2 h5), if_neg h5, ih]
/-- The checker's tree: with the cost of what is taken. -/
def treeC (ws : List Nat) (n : Nat) (size : Int) (t : List TNode) : Nat → Nat → Nat → Nat → Int → List Bool → Option (List Bool)
  | 0, _, _, _, _, _ => none
  | d + 1, at_, taken, out, cost, seen =>
    if seen.getD at_ false = true then none
    else
      let x := t.getD at_ node0
      if x.yes = 0 ∧ x.no = 0 then (if leafCGo ws size cost x.weights.length taken out [] x.weights 0 then some (seen.set at_ true) else none)
      else if (x.yes < (at_ : Int) + 1 ∨ x.yes > (t.length : Int) - 1 ∨ x.no < (at_ : Int) + 1 ∨ x.no > (t.length : Int) - 1) ∨ (x.pick < 0 ∨ x.pick > (n : Int) - 1) ∨ (taken ||| out).testBit x.pick.toNat = true then none
      else match treeC ws n size t d x.yes.toNat (taken ||| bit x.pick.toNat) out (cost + 1) (seen.set at_ true) with
        | none => none
        | some s => treeC ws n size t d x.no.toNat taken (out ||| bit x.pick.toNat) cost s
theorem treeC_same (ws : List Nat) (n : Nat) (hn : n ≤ 64) (size : Int) (t : List TNode) : ∀ (d at_ taken out : Nat) (seen : List Bool), treeC ws n size t d at_ taken out (pop taken) seen = rightF ws n size t d at_ taken out seen := by
  intro d
  induction d with
  | zero => intro at_ taken out seen; rfl
  | succ d ih =>
    intro at_ taken out seen
    unfold treeC rightF
    by_cases h0 : seen.getD at_ false = true
    · rw [if_pos h0, if_pos h0]
    · rw [if_neg h0, if_neg h0]
      simp only
      by_cases h1 : (t.getD at_ node0).yes = 0 ∧ (t.getD at_ node0).no = 0
      · rw [if_pos h1, if_pos h1, leafC_same]; rfl
      · rw [if_neg h1, if_neg h1]
        by_cases h2 : (t.getD at_ node0).pick < 0 ∨ (t.getD at_ node0).pick ≥ n ∨ (taken ||| out).testBit (t.getD at_ node0).pick.toNat = true ∨ (t.getD at_ node0).yes ≤ at_ ∨ (t.getD at_ node0).no ≤ at_ ∨ (t.getD at_ node0).yes ≥ t.length ∨ (t.getD at_ node0).no ≥ t.length
        · rw [if_pos h2, if_pos]
          rcases h2 with h | h | h | h | h | h | h
          · exact .inr (.inl (.inl h))
          · exact .inr (.inl (.inr (by omega)))
          · exact .inr (.inr h)
          · exact .inl (.inl (by omega))
          · exact .inl (.inr (.inr (.inl (by omega))))
          · exact .inl (.inr (.inl (by omega)))
          · exact .inl (.inr (.inr (.inr (by omega))))
        · rw [if_neg h2, if_neg]
          · have hp : (t.getD at_ node0).pick.toNat < 64 := by omega
            have hb : taken.testBit (t.getD at_ node0).pick.toNat = false := by
              cases hb : taken.testBit (t.getD at_ node0).pick.toNat with
              | false => rfl
              | true => exact absurd (.inr (.inr (.inl (by rw [Nat.testBit_or, hb]; rfl)))) h2
            have hc : (pop taken : Int) + 1 = (pop (taken ||| bit (t.getD at_ node0).pick.toNat) : Nat) := by rw [pop_bit hp hb]; rfl
            rw [hc, ih]
            cases rightF ws n size t d (t.getD at_ node0).yes.toNat (taken ||| bit (t.getD at_ node0).pick.toNat) out (seen.set at_ true) with
            | none => rfl
            | some s => exact ih _ _ _ _
          · intro h
            refine h2 ?_
            rcases h with (h | h | h | h) | (h | h) | h
            · exact .inr (.inr (.inr (.inl (by omega))))
            · exact .inr (.inr (.inr (.inr (.inr (.inl (by omega))))))
            · exact .inr (.inr (.inr (.inr (.inl (by omega)))))
            · exact .inr (.inr (.inr (.inr (.inr (.inr (by omega))))))
            · exact .inl h
            · exact .inr (.inl (by omega))
            · exact .inr (.inr (.inl h))
/-- The error of Verify: 3 a wrong size, 4 too many nodes, 13 none, 20 no proof. -/
def verifyF (ws : List Nat) (n : Nat) (size : Int) (t : List TNode) : Int :=
  if size < 0 ∨ size > n then 3 else if t.length > 100000 then 4 else if t.length = 0 then 13 else if treeF ws n size t then 0 else 20
theorem pop_zero : pop 0 = 0 := by decide
theorem hits_same (ws : List Nat) (n : Nat) (hn : n ≤ 64) (size : Int) (t : List TNode) (h0 : 0 < t.length) : (treeC ws n size t t.length 0 0 0 0 (List.replicate t.length false)).isSome = treeF ws n size t := by
  have := treeC_same ws n hn size t t.length 0 0 0 (List.replicate t.length false)
  rw [pop_zero] at this
  rw [show (0 : Int) = ((0 : Nat) : Int) from rfl, this, verify_same ws n size t h0]
/-- How long a tree can be. -/
theorem node_len (ws : List Nat) (size : Int) : ∀ (d at_ taken out : Nat), (nodeF ws size d at_ taken out).length + 1 ≤ 2 ^ d := by
  intro d
  induction d with
  | zero => intro at_ taken out; simp [nodeF]
  | succ d ih =>
    intro at_ taken out
    have h2 : 2 ^ (d + 1) = 2 ^ d + 2 ^ d := by rw [Nat.pow_succ]; omega
    have h1 : 1 ≤ 2 ^ d := Nat.one_le_two_pow
    unfold nodeF
    split
    · simp; omega
    · split
      · simp; omega
      · have := ih (at_ + 1) (taken ||| bit (tz ‹Nat›)) out
        simp only [List.length_cons, List.length_append]
        have := ih (at_ + 1 + (nodeF ws size d (at_ + 1) (taken ||| bit (tz ‹Nat›)) out).length) taken (out ||| bit (tz ‹Nat›))
        omega
end Hit
end Go.Proofs.YtnphdmiondccgaaDoor
/- Plain: the proofs of covers: the checker's reading and layer 10's are one. -/
namespace Go.Proofs.YtnphdmiondccgaaDoor
namespace Hit
/-- The elements of the sets whose bits are given. -/
def unionGo : List Nat → Nat → Nat → Nat → Nat
  | [], _, _, acc => acc
  | s :: r, i, sel, acc => unionGo r (i + 1) sel (if sel.testBit i then acc ||| s else acc)
def unionW (ws : List Nat) (sel : Nat) : Nat := unionGo ws 0 sel 0
theorem unionGo_test (ws : List Nat) : ∀ (i sel acc b : Nat), (unionGo ws i sel acc).testBit b = (acc.testBit b || (List.range ws.length).any fun k => sel.testBit (i + k) && (ws.getD k 0).testBit b) := by
  induction ws with
  | nil => intro i sel acc b; simp [unionGo]
  | cons s r ih =>
    intro i sel acc b
    unfold unionGo
    rw [ih, List.length_cons, List.range_succ_eq_map, List.any_cons, List.any_map]
    have e : ((List.range r.length).any fun k => sel.testBit (i + 1 + k) && (r.getD k 0).testBit b) = (List.range r.length).any ((fun k => sel.testBit (i + k) && ((s :: r).getD k 0).testBit b) ∘ Nat.succ) := by
      congr 1
      funext k
      simp only [Function.comp, Nat.succ_eq_add_one, List.getD_cons_succ]
      rw [show i + 1 + k = i + (k + 1) from by omega]
    rw [e, Nat.add_zero, List.getD_cons_zero]
    cases h : sel.testBit i <;> simp [Bool.or_assoc]
theorem unionW_test (ws : List Nat) (sel b : Nat) : (unionW ws sel).testBit b = (List.range ws.length).any fun k => sel.testBit k && (ws.getD k 0).testBit b := by
  unfold unionW
  rw [unionGo_test]
  simp
/-- An element that a set which is not left out has: covered, or of a free set. -/
theorem gap_same (ws : List Nat) (taken out b : Nat) (hd : taken &&& out = 0) :
    ((List.range ws.length).any fun k => !out.testBit k && (ws.getD k 0).testBit b) = ((unionW ws taken).testBit b || (List.range ws.length).any fun k => !(taken ||| out).testBit k && (ws.getD k 0).testBit b) := by
  rw [unionW_test, Bool.eq_iff_iff]
  simp only [Bool.or_eq_true, List.any_eq_true, List.mem_range, Bool.and_eq_true, Bool.not_eq_true']
  constructor
  · rintro ⟨k, hk, h1, h2⟩
    cases ht : taken.testBit k with
    | true => exact .inl ⟨k, hk, ht, h2⟩
    | false => exact .inr ⟨k, hk, by rw [Nat.testBit_or, ht, h1]; rfl, h2⟩
  · rintro (⟨k, hk, h1, h2⟩ | ⟨k, hk, h1, h2⟩)
    · exact ⟨k, hk, (and_zero_iff _ _).1 hd k h1, h2⟩
    · rw [Nat.testBit_or] at h1
      simp at h1
      exact ⟨k, hk, h1.2, h2⟩
theorem union_or (ws : List Nat) (taken p : Nat) (hp : p < ws.length) : unionW ws (taken ||| bit p) = unionW ws taken ||| ws.getD p 0 := ext fun b => by
  rw [Nat.testBit_or, unionW_test, unionW_test, Bool.eq_iff_iff]
  simp only [Bool.or_eq_true, List.any_eq_true, List.mem_range, Bool.and_eq_true, Nat.testBit_or, bit_test, decide_eq_true_eq]
  constructor
  · rintro ⟨k, hk, h1 | h1, h2⟩
    · exact .inl ⟨k, hk, h1, h2⟩
    · subst h1; exact .inr h2
  · rintro (⟨k, hk, h1, h2⟩ | h)
    · exact ⟨k, hk, .inl h1, h2⟩
    · exact ⟨p, hp, .inr rfl, h⟩
theorem disj_or {taken out p : Nat} (h : taken &&& out = 0) (ho : out.testBit p = false) : (taken ||| bit p) &&& out = 0 := (and_zero_iff _ _).2 fun i hi => by
  rw [Nat.testBit_or, bit_test] at hi
  simp at hi
  rcases hi with hi | hi
  · exact (and_zero_iff _ _).1 h i hi
  · subst hi; exact ho
theorem disj_or' {taken out p : Nat} (h : taken &&& out = 0) (ht : taken.testBit p = false) : taken &&& (out ||| bit p) = 0 := by
  rw [Nat.and_comm] at h ⊢
  exact disj_or h ht
/-- The bound of a node at a state. -/
def sumI : List Int → Int
  | [] => 0
  | w :: r => w + sumI r
def weighF (weights : List Int) (s : Nat) : Int := sumI ((members s).map fun k => weights.getD k 0)
def boundF (ws : List Nat) (cs : List Int) (n : Nat) (least : Int) (taken out : Nat) (cost : Int) (x : TNode) : Bool :=
  decide (x.weights.length = n) && (x.weights.all fun w => decide (0 ≤ w) && decide (w ≤ 1000000)) &&
    ((List.range n).all fun i => !(decide (0 < x.weights.getD i 0) && (unionW ws taken).testBit i)) &&
    ((List.range ws.length).all fun i => !(!(taken ||| out).testBit i && decide (cs.getD i 0 < weighF x.weights (ws.getD i 0)))) &&
    decide (x.bound = cost + sumI x.weights) && decide (cost + sumI x.weights ≥ least)
/-- A proof of a least cover: the states of the nodes, and those that are seen. -/
structure CSt where
  taken : Nat
  out : Nat
  cost : Int
def cst0 : CSt := ⟨0, 0, 0⟩
def provesGo (ws : List Nat) (cs : List Int) (n : Nat) (least : Int) (len : Nat) : List TNode → Nat → List CSt → List Bool → Bool
  | [], _, _, _ => true
  | x :: r, i, at_, seen =>
    if seen.getD i false = false then false
    else if x.pick ≥ 0 then
      if x.pick ≥ ws.length ∨ ((at_.getD i cst0).taken ||| (at_.getD i cst0).out).testBit x.pick.toNat = true then false
      else if x.yes ≤ i ∨ x.yes ≥ len ∨ seen.getD x.yes.toNat false = true then false
      else if x.no ≤ i ∨ x.no ≥ len ∨ (seen.set x.yes.toNat true).getD x.no.toNat false = true then false
      else provesGo ws cs n least len r (i + 1)
        ((at_.set x.yes.toNat ⟨(at_.getD i cst0).taken ||| bit x.pick.toNat, (at_.getD i cst0).out, (at_.getD i cst0).cost + cs.getD x.pick.toNat 0⟩).set x.no.toNat ⟨(at_.getD i cst0).taken, (at_.getD i cst0).out ||| bit x.pick.toNat, (at_.getD i cst0).cost⟩)
        ((seen.set x.yes.toNat true).set x.no.toNat true)
    else if x.pick = -1 then boundF ws cs n least (at_.getD i cst0).taken (at_.getD i cst0).out (at_.getD i cst0).cost x && provesGo ws cs n least len r (i + 1) at_ seen
    else if x.pick ≠ -2 ∨ x.bound < 0 ∨ x.bound ≥ n ∨ ((List.range ws.length).any fun k => !(at_.getD i cst0).out.testBit k && (ws.getD k 0).testBit x.bound.toNat) = true then false
    else provesGo ws cs n least len r (i + 1) at_ seen
end Hit
end Go.Proofs.YtnphdmiondccgaaDoor
namespace Go.Proofs.YtnphdmiondccgaaDoor
namespace Hit
def cnt (n x : Nat) : Nat := ((List.range n).filter fun i => x.testBit i).length
theorem cnt_add (k m x : Nat) : cnt (k + m) x = cnt k x + cnt m (x >>> k) := by
  unfold cnt
  rw [List.range_add, List.filter_append, List.length_append, List.filter_map, List.length_map]
  congr 2
  refine List.filter_congr fun i _ => ?_
  simp only [Function.comp, Nat.testBit_shiftRight]
theorem cnt_mod (k x : Nat) : cnt k (x % 2 ^ k) = cnt k x := by
  unfold cnt
  congr 1
  refine List.filter_congr fun i hi => ?_
  have : i < k := by simpa using hi
  rw [Nat.testBit_mod_two_pow]; simp [this]
theorem cnt_big (k m x : Nat) (h : x < 2 ^ k) (hm : k ≤ m) : cnt m x = cnt k x := by
  obtain ⟨d, rfl⟩ := Nat.exists_eq_add_of_le hm
  rw [cnt_add]
  have : x >>> k = 0 := by rw [Nat.shiftRight_eq_div_pow, Nat.div_eq_of_lt h]
  rw [this]
  have : cnt d 0 = 0 := by simp [cnt]
  omega
theorem pop_cnt {x k : Nat} (h : x < 2 ^ k) (hk : k ≤ 64) : pop x = cnt k x := by
  rw [← cnt_big k 64 x h hk]; rfl
theorem pop_split (x : Nat) (hx : x < 4294967296) : pop x = pop (x / 16777216) + pop (x / 65536 % 256) + pop (x / 256 % 256) + pop (x % 256) := by
  have e : pop x = cnt 8 x + (cnt 8 (x >>> 8) + (cnt 8 (x >>> 8 >>> 8) + cnt 8 (x >>> 8 >>> 8 >>> 8))) := by
    rw [pop_cnt (k := 8 + (8 + (8 + 8))) (by omega) (by omega), cnt_add, cnt_add, cnt_add]
  rw [e]
  simp only [Nat.shiftRight_eq_div_pow, Nat.div_div_eq_div_mul]
  have a0 : pop (x % 256) = cnt 8 x := by rw [pop_cnt (k := 8) (by omega) (by omega)]; exact cnt_mod 8 x
  have a1 : pop (x / 256 % 256) = cnt 8 (x / 256) := by rw [pop_cnt (k := 8) (by omega) (by omega)]; exact cnt_mod 8 _
  have a2 : pop (x / 65536 % 256) = cnt 8 (x / 65536) := by rw [pop_cnt (k := 8) (by omega) (by omega)]; exact cnt_mod 8 _
  have a3 : pop (x / 16777216) = cnt 8 (x / 16777216) := pop_cnt (by omega) (by omega)
  rw [a0, a1, a2, a3]
  show cnt 8 x + (cnt 8 (x / 256) + (cnt 8 (x / 65536) + cnt 8 (x / 16777216))) = _
  omega
theorem pop_byte : ∀ n : Fin 256, Lib.pop8 (n.val : Int) = (pop n.val : Int) ∧ pop n.val ≤ 8 := by decide +kernel
theorem pop8_pop (b : Nat) (h : b < 256) : Lib.pop8 (b : Int) = (pop b : Int) ∧ pop b ≤ 8 := pop_byte ⟨b, h⟩
theorem low_form (n x : Nat) (h0 : x ≠ 0) (h : x < 2 ^ n) : ∃ m, x = 2 ^ Lib.ctz n x * (2 * m + 1) ∧ Lib.ctz n x < n := by
  obtain ⟨m, hm, hk⟩ := Lib.ctzFrom_spec n x (by omega) h
  have e : Lib.ctz n x = Lib.ctzFrom n x := by simp [Lib.ctz, h0]
  rw [e]
  exact ⟨m, hm, hk⟩
theorem odd_test (m i : Nat) : (2 * m + 1).testBit i = (decide (i = 0) || (2 * m).testBit i) := by
  cases i with
  | zero => simp
  | succ i =>
    rw [Nat.testBit_succ, Nat.testBit_succ, show (2 * m + 1) / 2 = m from by omega, show 2 * m / 2 = m from by omega]
    simp
/-- The lowest bit comes first; w & (w - 1) has the others. -/
theorem members_step (n x : Nat) (hn : n ≤ 64) (h0 : x ≠ 0) (h : x < 2 ^ n) : members x = Lib.ctz n x :: members (x &&& (x - 1)) ∧ x &&& (x - 1) < x := by
  obtain ⟨m, hm, hk⟩ := low_form n x h0 h
  generalize Lib.ctz n x = k at *
  have hp : 0 < 2 ^ k := Nat.two_pow_pos k
  have hx1 : x - 1 = 2 ^ k * (2 * m) + (2 ^ k - 1) := by
    have : 2 ^ k * (2 * m + 1) = 2 ^ k * (2 * m) + 2 ^ k := by rw [Nat.mul_add, Nat.mul_one]
    omega
  have hr : x &&& (x - 1) = 2 ^ k * (2 * m) := ext fun i => by
    rw [hx1, Nat.testBit_and, Nat.testBit_two_pow_mul_add _ (by omega), hm, Nat.testBit_two_pow_mul, Nat.testBit_two_pow_mul]
    rcases Nat.lt_or_ge i k with hi | hi
    · have : ¬ k ≤ i := by omega
      simp [this]
    · have h2 : ¬ i < k := by omega
      simp only [hi, h2, if_false, decide_true, Bool.true_and, odd_test]
      cases (2 * m).testBit (i - k) <;> simp
  have hlt : 2 ^ k * (2 * m) < x := by rw [hm, Nat.mul_add, Nat.mul_one]; omega
  rw [hr]
  refine ⟨inc_ext (inc_members x) ⟨fun y hy => ?_, inc_members _⟩ fun i => ?_, hlt⟩
  · have hb := (mem_members.1 hy).2
    rw [Nat.testBit_two_pow_mul] at hb
    simp only [Bool.and_eq_true, decide_eq_true_eq] at hb
    rcases Nat.eq_or_lt_of_le hb.1 with e | e
    · subst e; simp at hb
    · exact e
  · simp only [List.mem_cons, mem_members]
    rw [hm, Nat.testBit_two_pow_mul, Nat.testBit_two_pow_mul, odd_test]
    simp only [Bool.and_eq_true, decide_eq_true_eq, Bool.or_eq_true]
    constructor
    · rintro ⟨a, b, c | c⟩
      · exact .inl (by omega)
      · exact .inr ⟨a, b, c⟩
    · rintro (rfl | ⟨a, b, c⟩)
      · exact ⟨by omega, by omega, .inl (by omega)⟩
      · exact ⟨a, b, .inr c⟩
theorem tz_ctz (n x : Nat) (hn : n ≤ 64) (h0 : x ≠ 0) (h : x < 2 ^ n) : tz x = Lib.ctz n x := by
  unfold tz
  rw [(members_step n x hn h0 h).1]; rfl
theorem low_bit (n x : Nat) (hn : n ≤ 64) (h0 : x ≠ 0) (h : x < 2 ^ n) : x &&& (2 ^ n - x) = bit (tz x) ∧ tz x < n := by
  rw [tz_ctz n x hn h0 h]
  exact Lib.lowest_bit n x h0 h
end Hit
end Go.Proofs.YtnphdmiondccgaaDoor
