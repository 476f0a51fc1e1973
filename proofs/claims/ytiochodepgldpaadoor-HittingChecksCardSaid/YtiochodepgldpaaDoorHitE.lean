/- Plain: all irreducible lists in order; the first one is the least one. -/
import Derived.Test.YtiochodepgldpaaDoorHitD
namespace Go.Proofs.YtiochodepgldpaaDoor
namespace Hit
def lexLt : List Nat → List Nat → Bool
  | x :: a, y :: b => if x ≠ y then decide (x < y) else lexLt a b
  | _, _ => false
/-- Shorter ones come first. -/
def before (a b : List Nat) : Bool := if a.length ≠ b.length then decide (a.length < b.length) else lexLt a b
def insertF (l : List (List Nat)) (x : List Nat) : List (List Nat) := l.takeWhile (fun y => before y x) ++ x :: l.dropWhile (fun y => before y x)
def irr (ws : List Nat) (n b : Nat) : Bool := (List.range n).all fun i => !(b.testBit i && hit ws (andn b (bit i)))
def allGo (ws : List Nat) (n : Nat) : List Nat → List (List Nat) × Nat → List (List Nat) × Nat
  | [], r => r
  | b :: l, r => allGo ws n l (if hit ws b then (if irr ws n b then insertF r.1 (members b) else r.1, r.2 + 1) else r)
def allF (ws : List Nat) (n : Nat) : List (List Nat) × Nat := allGo ws n (List.range (2 ^ n)) ([], 0)
theorem lexLt_asymm : ∀ a b, lexLt a b = true → lexLt b a = false
  | [], _, h => by simp [lexLt] at h
  | _ :: _, [], h => by simp [lexLt] at h
  | x :: a, y :: b, h => by
    unfold lexLt at h ⊢
    by_cases e : x = y
    · subst e
      simp at h ⊢
      exact lexLt_asymm a b h
    · simp [e] at h
      simp [Ne.symm e]
      omega
theorem lexLt_conn : ∀ a b, a.length = b.length → lexLt a b = false → lexLt b a = false → a = b
  | [], [], _, _, _ => rfl
  | [], _ :: _, h, _, _ => by simp at h
  | _ :: _, [], h, _, _ => by simp at h
  | x :: a, y :: b, h, h1, h2 => by
    unfold lexLt at h1 h2
    by_cases e : x = y
    · subst e
      simp at h1 h2
      rw [lexLt_conn a b (by simpa using h) h1 h2]
    · simp [e] at h1
      simp [Ne.symm e] at h2
      omega
theorem lexLt_trans : ∀ a b c, lexLt a b = true → lexLt b c = true → lexLt a c = true
  | [], _, _, h, _ => by simp [lexLt] at h
  | _ :: _, [], _, h, _ => by simp [lexLt] at h
  | _ :: _, _ :: _, [], _, h => by simp [lexLt] at h
  | x :: a, y :: b, z :: c, h1, h2 => by
    unfold lexLt at h1 h2 ⊢
    by_cases e : x = y
    · subst e
      by_cases e2 : x = z
      · subst e2
        simp at h1 h2 ⊢
        exact lexLt_trans a b c h1 h2
      · simp [e2] at h2 ⊢
        exact h2
    · simp [e] at h1
      by_cases e2 : y = z
      · subst e2
        simp [e]; exact h1
      · simp [e2] at h2
        have : x ≠ z := by omega
        simp [this]
        omega
theorem before_asymm (a b : List Nat) (h : before a b = true) : before b a = false := by
  unfold before at h ⊢
  by_cases e : a.length = b.length
  · simp [e] at h ⊢
    exact lexLt_asymm _ _ h
  · simp [e] at h
    simp [Ne.symm e]
    omega
theorem before_conn (a b : List Nat) (h1 : before a b = false) (h2 : before b a = false) : a = b := by
  unfold before at h1 h2
  by_cases e : a.length = b.length
  · simp [e] at h1 h2
    exact lexLt_conn a b e h1 h2
  · simp [e] at h1
    simp [Ne.symm e] at h2
    omega
theorem before_trans (a b c : List Nat) (h1 : before a b = true) (h2 : before b c = true) : before a c = true := by
  unfold before at h1 h2 ⊢
  by_cases e : a.length = b.length
  · simp [e] at h1
    by_cases e2 : b.length = c.length
    · simp [e2] at h2
      simp [e, e2]
      exact lexLt_trans _ _ _ h1 h2
    · simp [e2] at h2
      simp [e, e2]
      exact h2
  · simp [e] at h1
    by_cases e2 : b.length = c.length
    · have : a.length ≠ c.length := by omega
      simp [this]
      omega
    · simp [e2] at h2
      have : a.length ≠ c.length := by omega
      simp [this]
      omega
/-- a is not before b, and b not before c: then a is not before c. -/
theorem before_neg (a b c : List Nat) (h1 : before a b = false) (h2 : before b c = false) : before a c = false := by
  cases h : before a c with
  | false => rfl
  | true =>
    cases h3 : before c b with
    | true => rw [before_trans a c b h h3] at h1; cases h1
    | false =>
      have := before_conn b c h2 h3
      subst this
      rw [h] at h1; cases h1
/-- Sorted: what comes later is not before. -/
def Sorted : List (List Nat) → Prop
  | [] => True
  | x :: l => (∀ y ∈ l, before y x = false) ∧ Sorted l
theorem mem_insertF (l : List (List Nat)) (x y : List Nat) : y ∈ insertF l x ↔ y = x ∨ y ∈ l := by
  have : y ∈ l ↔ y ∈ l.takeWhile (fun y => before y x) ++ l.dropWhile (fun y => before y x) := by rw [List.takeWhile_append_dropWhile]
  rw [this]
  unfold insertF
  simp only [List.mem_append, List.mem_cons]
  constructor
  · rintro (h | h | h)
    · exact .inr (.inl h)
    · exact .inl h
    · exact .inr (.inr h)
  · rintro (h | h | h)
    · exact .inr (.inl h)
    · exact .inl h
    · exact .inr (.inr h)
theorem insertF_cons (z : List Nat) (l : List (List Nat)) (x : List Nat) : insertF (z :: l) x = if before z x then z :: insertF l x else x :: z :: l := by
  unfold insertF
  cases h : before z x <;> simp [h]
theorem sorted_insertF (l : List (List Nat)) (x : List Nat) (h : Sorted l) : Sorted (insertF l x) := by
  induction l with
  | nil => exact ⟨by simp, trivial⟩
  | cons z l ih =>
    rw [insertF_cons]
    cases hz : before z x with
    | true =>
      refine ⟨fun y hy => ?_, ih h.2⟩
      rcases (mem_insertF _ _ _).1 hy with rfl | hy
      · exact before_asymm _ _ hz
      · exact h.1 y hy
    | false =>
      refine ⟨fun y hy => ?_, h⟩
      simp only [List.mem_cons] at hy
      rcases hy with rfl | hy
      · exact hz
      · exact before_neg y z x (h.1 y hy) hz
theorem allGo_spec (ws : List Nat) (n : Nat) : ∀ (l : List Nat) (r : List (List Nat) × Nat), Sorted r.1 → Sorted (allGo ws n l r).1 ∧
    (∀ y, y ∈ (allGo ws n l r).1 ↔ y ∈ r.1 ∨ ∃ b ∈ l, hit ws b = true ∧ irr ws n b = true ∧ y = members b) ∧ (allGo ws n l r).2 = r.2 + (l.filter fun b => hit ws b).length := by
  intro l
  induction l with
  | nil => intro r h; exact ⟨h, fun y => by simp [allGo], by simp [allGo]⟩
  | cons b l ih =>
    intro r h
    unfold allGo
    cases hb : hit ws b with
    | false =>
      obtain ⟨q1, q2, q3⟩ := ih r h
      refine ⟨by simpa using q1, fun y => ?_, ?_⟩
      · simp only [Bool.false_eq_true, if_false]
        rw [q2]
        constructor
        · rintro (h | ⟨c, hc, h⟩)
          · exact .inl h
          · exact .inr ⟨c, by simp [hc], h⟩
        · rintro (h | ⟨c, hc, h⟩)
          · exact .inl h
          · simp only [List.mem_cons] at hc
            rcases hc with rfl | hc
            · rw [hb] at h; cases h.1
            · exact .inr ⟨c, hc, h⟩
      · simp only [Bool.false_eq_true, if_false]
        rw [q3, List.filter_cons, hb]; rfl
    | true =>
      cases hi : irr ws n b with
      | false =>
        obtain ⟨q1, q2, q3⟩ := ih (r.1, r.2 + 1) h
        refine ⟨by simpa using q1, fun y => ?_, ?_⟩
        · simp only [if_true, Bool.false_eq_true, if_false]
          rw [q2]
          constructor
          · rintro (h | ⟨c, hc, h⟩)
            · exact .inl h
            · exact .inr ⟨c, by simp [hc], h⟩
          · rintro (h | ⟨c, hc, h⟩)
            · exact .inl h
            · simp only [List.mem_cons] at hc
              rcases hc with rfl | hc
              · rw [hi] at h; cases h.2.1
              · exact .inr ⟨c, hc, h⟩
        · simp only [if_true, Bool.false_eq_true, if_false]
          rw [q3, List.filter_cons, hb]
          simp
          omega
      | true =>
        obtain ⟨q1, q2, q3⟩ := ih (insertF r.1 (members b), r.2 + 1) (sorted_insertF _ _ h)
        refine ⟨by simpa using q1, fun y => ?_, ?_⟩
        · simp only [if_true]
          rw [q2]
          simp only [mem_insertF]
          constructor
          · rintro ((h | h) | ⟨c, hc, h⟩)
            · exact .inr ⟨b, by simp, hb, hi, h⟩
            · exact .inl h
            · exact .inr ⟨c, by simp [hc], h⟩
          · rintro (h | ⟨c, hc, h⟩)
            · exact .inl (.inr h)
            · simp only [List.mem_cons] at hc
              rcases hc with rfl | hc
              · exact .inl (.inl h.2.2)
              · exact .inr ⟨c, hc, h⟩
        · simp only [if_true]
          rw [q3, List.filter_cons, hb]
          simp
          omega
theorem inc_not_mem {x : Nat} {l : List Nat} (h : Inc (x :: l)) : x ∉ l := fun hx => by have := h.1 x hx; omega
/-- Without one of its numbers a list is shorter. -/
theorem erase_word (X : List Nat) (i : Nat) (h : Inc X) (hi : i ∈ X) : ∃ Y, Inc Y ∧ (∀ y ∈ Y, y ∈ X) ∧ Y.length + 1 = X.length ∧ word Y = andn (word X) (bit i) := by
  refine ⟨X.filter fun y => y != i, inc_filter _ _ h, fun y hy => (List.mem_filter.1 hy).1, ?_, ext fun j => ?_⟩
  · induction X with
    | nil => simp at hi
    | cons x X ih =>
      rw [List.filter_cons]
      by_cases e : x = i
      · subst e
        have hn := inc_not_mem h
        have : X.filter (fun y => y != x) = X := List.filter_eq_self.2 fun y hy => by simp; rintro rfl; exact hn hy
        simp [this]
      · have hi' : i ∈ X := by simp only [List.mem_cons] at hi; rcases hi with h | h; exact absurd h.symm e; exact h
        have := ih h.2 hi'
        simp [e]
        omega
  · rw [word_test, andn_test, word_test, bit_test, Bool.eq_iff_iff]
    simp
    intro _
    exact ⟨fun h e => h e.symm, fun h e => h e.symm⟩
theorem lexLe_lt : ∀ a b, a.length = b.length → LexLe a b → lexLt b a = false
  | [], [], _, _ => rfl
  | [], _ :: _, h, _ => by simp at h
  | _ :: _, [], h, _ => by simp at h
  | x :: a, y :: b, h, hl => by
    unfold lexLt
    rcases hl with hl | ⟨rfl, hl⟩
    · have : y ≠ x := by omega
      simp [this]; omega
    · simp; exact lexLe_lt a b (by simpa using h) hl
theorem isLeast_irr {ws : List Nat} {n w : Nat} {X : List Nat} (h : IsLeast ws n w X) : hit ws (word X) = true ∧ irr ws n (word X) = true := by
  have h1 := h.ok.hits
  rw [Nat.zero_or] at h1
  refine ⟨h1, ?_⟩
  unfold irr
  rw [List.all_eq_true]
  intro i _
  rw [Bool.not_eq_true', Bool.and_eq_false_iff]
  cases hb : (word X).testBit i with
  | false => exact .inl rfl
  | true =>
    right
    rw [word_test] at hb
    have hi : i ∈ X := by simpa using hb
    obtain ⟨Y, y1, y2, y3, y4⟩ := erase_word X i h.ok.inc hi
    cases hh : hit ws (andn (word X) (bit i)) with
    | false => rfl
    | true =>
      have := h.short Y ⟨y1, fun y hy => h.ok.lo y (y2 y hy), by omega, by rw [Nat.zero_or, y4]; exact hh⟩
      omega
/-- The first list of all is the first shortest one. -/
theorem all_head {ws : List Nat} {n w : Nat} {X : List Nat} (hn : n ≤ 64) (h : IsLeast ws n w X) : ∃ l, (allF ws n).1 = X :: l := by
  obtain ⟨q1, q2, _⟩ := allGo_spec ws n (List.range (2 ^ n)) ([], 0) trivial
  have hlt : ∀ {Y : List Nat}, (∀ y ∈ Y, 0 ≤ y ∧ y < n) → word Y < 2 ^ n := fun hY => word_lt fun y hy => (hY y hy).2
  have hX : X ∈ (allF ws n).1 := (q2 X).2 (.inr ⟨word X, by simpa using hlt h.ok.lo, (isLeast_irr h).1, (isLeast_irr h).2, (members_word h.ok.inc fun x hx => by have := h.ok.lo x hx; omega).symm⟩)
  cases hl : (allF ws n).1 with
  | nil => rw [hl] at hX; simp at hX
  | cons Z l =>
    refine ⟨l, ?_⟩
    congr 1
    have hs : Sorted (Z :: l) := by rw [← hl]; exact q1
    have hZ : Z ∈ (allF ws n).1 := by rw [hl]; simp
    obtain hZ | ⟨b, hb, hb1, hb2, rfl⟩ := (q2 Z).1 hZ
    · simp at hZ
    · have hb' : b < 2 ^ n := by simpa using hb
      have h64 : b < 2 ^ 64 := Nat.lt_of_lt_of_le hb' (Nat.pow_le_pow_right (by decide) hn)
      have hok : Ok ws 0 0 n (members b).length (members b) := by
        refine ⟨inc_members _, fun x hx => ?_, by omega, by rw [Nat.zero_or, word_members h64]; exact hb1⟩
        have hx2 := (mem_members.1 hx).2
        rcases Nat.lt_or_ge x n with hl | hl
        · omega
        · rw [test_of_lt hb' hl] at hx2; cases hx2
      have hlen := h.short _ hok
      rw [hl] at hX
      have hbX : before X (members b) = false := by
        simp only [List.mem_cons] at hX
        rcases hX with e | hX
        · rw [e]
          cases hbb : before (members b) (members b) with
          | false => rfl
          | true => rw [before_asymm _ _ hbb] at hbb; cases hbb
        · exact hs.1 X hX
      have hle : X.length = (members b).length := by
        unfold before at hbX
        by_cases e : X.length = (members b).length
        · exact e
        · simp [e] at hbX; omega
      have hfirst := h.first _ ⟨hok.inc, hok.lo, by omega, hok.hits⟩
      refine (before_conn _ _ hbX ?_).symm
      unfold before
      simp [hle]
      exact lexLe_lt _ _ hle hfirst
end Hit
end Go.Proofs.YtiochodepgldpaaDoor
