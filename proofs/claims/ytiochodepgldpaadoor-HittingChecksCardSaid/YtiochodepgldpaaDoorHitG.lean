/- Plain: the verifier accepts what the reference calls a proof tree. -/
import Derived.Test.YtiochodepgldpaaDoorHitF
namespace Go.Proofs.YtiochodepgldpaaDoor
namespace Hit
def wsI (ws : List Nat) (i : Int) : Nat := ws.getD i.toNat 0
/-- The verifier's test of a leaf. -/
def leafGo (ws : List Nat) (size : Int) (len taken out : Nat) : List Int → List Int → Nat → Bool
  | _, [], _ => decide ((len : Int) + pop taken ≥ size)
  | prev, i :: r, used =>
    if i < 0 ∨ i ≥ ws.length ∨ wsI ws i &&& taken ≠ 0 ∨ prev.contains i = true then false
    else if andn (wsI ws i) out = 0 ∧ len = 1 then true
    else if andn (wsI ws i) out &&& used ≠ 0 then false
    else leafGo ws size len taken out (prev ++ [i]) r (used ||| andn (wsI ws i) out)
def leafP (ws : List Nat) (size : Int) (l : List Int) (taken out : Nat) : Bool := leafGo ws size l.length taken out [] l 0
def ValidI (ws : List Nat) (taken : Nat) (i : Int) : Prop := 0 ≤ i ∧ i < ws.length ∧ wsI ws i &&& taken = 0
theorem andn_and_zero (a b o : Nat) : andn a o &&& andn b o = 0 ↔ andn (a &&& b) o = 0 := by
  rw [and_zero_iff, zero_iff]
  constructor
  · intro h i
    have := h i
    rw [andn_test, andn_test] at this
    rw [andn_test, Nat.testBit_and]
    cases ha : a.testBit i <;> cases hb : b.testBit i <;> cases ho : o.testBit i <;> simp_all
  · intro h i hi
    have := h i
    rw [andn_test] at hi ⊢
    rw [andn_test, Nat.testBit_and] at this
    cases ha : a.testBit i <;> cases hb : b.testBit i <;> cases ho : o.testBit i <;> simp_all
theorem and_or_zero (a b c : Nat) : a &&& (b ||| c) = 0 ↔ a &&& b = 0 ∧ a &&& c = 0 := by
  rw [and_zero_iff, and_zero_iff, and_zero_iff]
  constructor
  · intro h
    refine ⟨fun i hi => ?_, fun i hi => ?_⟩ <;>
      · have := h i hi
        rw [Nat.testBit_or] at this
        simp at this
        first | exact this.1 | exact this.2
  · rintro ⟨h1, h2⟩ i hi
    rw [Nat.testBit_or, h1 i hi, h2 i hi]; rfl
/-- Different sets without a common number. -/
def Apt (ws : List Nat) (out : Nat) (a b : Int) : Prop := a ≠ b ∧ andn (wsI ws a &&& wsI ws b) out = 0
theorem leafGo_iff (ws : List Nat) (size : Int) (len taken out : Nat) (hl : len ≠ 1) : ∀ (r prev : List Int) (used : Nat), leafGo ws size len taken out prev r used = true ↔
    (∀ i ∈ r, ValidI ws taken i ∧ i ∉ prev ∧ andn (wsI ws i) out &&& used = 0) ∧ r.Pairwise (Apt ws out) ∧ (len : Int) + pop taken ≥ size := by
  intro r
  induction r with
  | nil => intro prev used; simp [leafGo]
  | cons i r ih =>
    intro prev used
    unfold leafGo
    by_cases h1 : i < 0 ∨ i ≥ ws.length ∨ wsI ws i &&& taken ≠ 0 ∨ prev.contains i = true
    · rw [if_pos h1]
      constructor
      · intro h; cases h
      · rintro ⟨h, _⟩
        obtain ⟨⟨q1, q2, q3⟩, q4, _⟩ := h i (by simp)
        rcases h1 with h1 | h1 | h1 | h1
        · omega
        · omega
        · exact absurd q3 h1
        · exact absurd (by simpa using h1) q4
    · rw [if_neg h1, if_neg (fun h => hl h.2)]
      have hv : ValidI ws taken i := ⟨by omega, by omega, by
        by_cases e : wsI ws i &&& taken = 0
        · exact e
        · exact absurd (.inr (.inr (.inl e))) h1⟩
      have hp : i ∉ prev := fun h => h1 (.inr (.inr (.inr (by simpa using h))))
      by_cases h2 : andn (wsI ws i) out &&& used ≠ 0
      · rw [if_pos h2]
        constructor
        · intro h; cases h
        · rintro ⟨h, _⟩
          exact absurd (h i (by simp)).2.2 h2
      · rw [if_neg h2, ih]
        have h2' : andn (wsI ws i) out &&& used = 0 := by simpa using h2
        constructor
        · rintro ⟨q1, q2, q3⟩
          refine ⟨fun k hk => ?_, List.pairwise_cons.2 ⟨fun k hk => ?_, q2⟩, q3⟩
          · simp only [List.mem_cons] at hk
            rcases hk with rfl | hk
            · exact ⟨hv, hp, h2'⟩
            · obtain ⟨a1, a2, a3⟩ := q1 k hk
              exact ⟨a1, fun h => a2 (by simp [h]), ((and_or_zero _ _ _).1 a3).1⟩
          · obtain ⟨a1, a2, a3⟩ := q1 k hk
            refine ⟨fun e => a2 (by simp [e]), ?_⟩
            rw [Nat.and_comm (wsI ws i)]
            exact (andn_and_zero _ _ _).1 ((and_or_zero _ _ _).1 a3).2
        · rintro ⟨q1, q2, q3⟩
          obtain ⟨p1, p2⟩ := List.pairwise_cons.1 q2
          refine ⟨fun k hk => ?_, p2, q3⟩
          obtain ⟨a1, a2, a3⟩ := q1 k (by simp [hk])
          obtain ⟨b1, b2⟩ := p1 k hk
          refine ⟨a1, fun h => ?_, (and_or_zero _ _ _).2 ⟨a3, ?_⟩⟩
          · simp only [List.mem_append, List.mem_singleton] at h
            rcases h with h | h
            · exact a2 h
            · exact b1 h.symm
          · rw [andn_and_zero, Nat.and_comm]; exact b2
theorem apartR_pair (ws : List Nat) (l : List Int) (out : Nat) : apartR ws l out = true ↔ l.Pairwise (Apt ws out) := by
  rw [List.pairwise_iff_getElem]
  unfold apartR
  simp only [List.all_eq_true, List.mem_range, Bool.and_eq_true, bne_iff_ne, beq_iff_eq]
  have e : ∀ i (h : i < l.length), l.getD i 0 = l[i] := fun i h => by rw [List.getD_eq_getElem?_getD, List.getElem?_eq_getElem h]; rfl
  constructor
  · intro h a b ha hb hab
    obtain ⟨q1, q2⟩ := h b hb a hab
    rw [e a ha, e b hb] at q1 q2
    exact ⟨fun h => q1 h.symm, by rw [Nat.and_comm]; exact q2⟩
  · intro h a ha b hab
    obtain ⟨q1, q2⟩ := h b a (by omega) ha hab
    rw [e a ha, e b (by omega)]
    exact ⟨fun h => q1 h.symm, by rw [Nat.and_comm]; exact q2⟩
theorem leafR_all (ws : List Nat) (taken : Nat) (l : List Int) : (l.all fun i => decide (0 ≤ i) && decide (i < ws.length) && (ws.getD i.toNat 0 &&& taken == 0)) = true ↔ ∀ i ∈ l, ValidI ws taken i := by
  simp only [List.all_eq_true, Bool.and_eq_true, decide_eq_true_eq, beq_iff_eq]
  exact ⟨fun h i hi => ⟨(h i hi).1.1, (h i hi).1.2, (h i hi).2⟩, fun h i hi => ⟨⟨(h i hi).1, (h i hi).2.1⟩, (h i hi).2.2⟩⟩
theorem leaf_same (ws : List Nat) (size : Int) (l : List Int) (taken out : Nat) : leafP ws size l taken out = leafR ws size l taken out := by
  rw [Bool.eq_iff_iff]
  by_cases h1 : l.length = 1
  · match l, h1 with
    | [i], _ =>
      unfold leafP leafGo leafR
      rw [Bool.and_eq_true, leafR_all]
      by_cases hv : i < 0 ∨ i ≥ ws.length ∨ wsI ws i &&& taken ≠ 0 ∨ ([] : List Int).contains i = true
      · rw [if_pos hv]
        constructor
        · intro h; cases h
        · rintro ⟨h, _⟩
          obtain ⟨q1, q2, q3⟩ := h i (by simp)
          rcases hv with hv | hv | hv | hv
          · omega
          · omega
          · exact absurd q3 hv
          · simp at hv
      · rw [if_neg hv]
        have hval : ∀ k ∈ [i], ValidI ws taken k := fun k hk => by
          simp only [List.mem_singleton] at hk
          subst hk
          refine ⟨by omega, by omega, ?_⟩
          by_cases e : wsI ws k &&& taken = 0
          · exact e
          · exact absurd (.inr (.inr (.inl e))) hv
        by_cases h0 : andn (wsI ws i) out = 0
        · rw [if_pos ⟨h0, rfl⟩]
          simp only [true_iff]
          refine ⟨hval, ?_⟩
          simp only [List.length_singleton, List.headD_cons, Bool.or_eq_true, Bool.and_eq_true, beq_iff_eq]
          exact .inl ⟨trivial, h0⟩
        · rw [if_neg (fun h => h0 h.1), if_neg (by simp)]
          simp only [leafGo, decide_eq_true_eq, List.length_singleton, List.headD_cons, Bool.or_eq_true, Bool.and_eq_true, beq_iff_eq]
          have hap : apartR ws [i] out = true := (apartR_pair _ _ _).2 (List.pairwise_singleton _ _)
          constructor
          · intro h; exact ⟨hval, .inr ⟨hap, by omega⟩⟩
          · rintro ⟨_, h | h⟩
            · exact absurd h.2 h0
            · omega
  · unfold leafP
    rw [leafGo_iff _ _ _ _ _ h1]
    unfold leafR
    rw [Bool.and_eq_true, leafR_all, Bool.or_eq_true, Bool.and_eq_true, Bool.and_eq_true, apartR_pair]
    simp only [decide_eq_true_eq, beq_iff_eq]
    constructor
    · rintro ⟨q1, q2, q3⟩
      exact ⟨fun i hi => (q1 i hi).1, .inr ⟨q2, by omega⟩⟩
    · rintro ⟨q1, q2 | ⟨q2, q3⟩⟩
      · exact absurd q2.1 h1
      · exact ⟨fun i hi => ⟨q1 i hi, by simp, by simp⟩, q2, by omega⟩
def node0 : TNode := ⟨0, 0, 0, 0, []⟩
/-- A node is right, with all below it: the places that are seen. -/
def rightF (ws : List Nat) (n : Nat) (size : Int) (t : List TNode) : Nat → Nat → Nat → Nat → List Bool → Option (List Bool)
  | 0, _, _, _, _ => none
  | d + 1, at_, taken, out, seen =>
    if seen.getD at_ false = true then none
    else
      let x := t.getD at_ node0
      if x.yes = 0 ∧ x.no = 0 then (if leafP ws size x.weights taken out then some (seen.set at_ true) else none)
      else if x.pick < 0 ∨ x.pick ≥ n ∨ (taken ||| out).testBit x.pick.toNat = true ∨ x.yes ≤ at_ ∨ x.no ≤ at_ ∨ x.yes ≥ t.length ∨ x.no ≥ t.length then none
      else match rightF ws n size t d x.yes.toNat (taken ||| bit x.pick.toNat) out (seen.set at_ true) with
        | none => none
        | some s => rightF ws n size t d x.no.toNat taken (out ||| bit x.pick.toNat) s
/-- The nodes below one are a tree on some places. -/
inductive TR (ws : List Nat) (n : Nat) (size : Int) (t : List TNode) : Nat → Nat → Nat → (Nat → Prop) → Prop where
  | leaf (at_ taken out : Nat) (h1 : (t.getD at_ node0).yes = 0 ∧ (t.getD at_ node0).no = 0) (h2 : leafR ws size (t.getD at_ node0).weights taken out = true) : TR ws n size t at_ taken out (fun j => j = at_)
  | node (at_ taken out : Nat) (S1 S2 : Nat → Prop) (h1 : ¬ ((t.getD at_ node0).yes = 0 ∧ (t.getD at_ node0).no = 0))
    (h2 : ¬ ((t.getD at_ node0).pick < 0 ∨ (t.getD at_ node0).pick ≥ n ∨ (taken ||| out).testBit (t.getD at_ node0).pick.toNat = true ∨ (t.getD at_ node0).yes ≤ at_ ∨ (t.getD at_ node0).no ≤ at_ ∨ (t.getD at_ node0).yes ≥ t.length ∨ (t.getD at_ node0).no ≥ t.length))
    (h3 : TR ws n size t (t.getD at_ node0).yes.toNat (taken ||| bit (t.getD at_ node0).pick.toNat) out S1) (h4 : TR ws n size t (t.getD at_ node0).no.toNat taken (out ||| bit (t.getD at_ node0).pick.toNat) S2) (h5 : ∀ j, ¬ (S1 j ∧ S2 j)) :
    TR ws n size t at_ taken out (fun j => j = at_ ∨ S1 j ∨ S2 j)
theorem TR.ge {ws : List Nat} {n : Nat} {size : Int} {t : List TNode} {at_ taken out : Nat} {S : Nat → Prop} (h : TR ws n size t at_ taken out S) : ∀ j, S j → at_ ≤ j := by
  induction h with
  | leaf => intro j hj; omega
  | node a tk o S1 S2 h1 h2 h3 h4 h5 i1 i2 =>
    intro j hj
    rcases hj with hj | hj | hj
    · omega
    · have := i1 j hj; omega
    · have := i2 j hj; omega
theorem TR.self {ws : List Nat} {n : Nat} {size : Int} {t : List TNode} {at_ taken out : Nat} {S : Nat → Prop} (h : TR ws n size t at_ taken out S) : S at_ := by
  cases h with
  | leaf => rfl
  | node => exact .inl rfl
theorem right_iff (ws : List Nat) (n : Nat) (size : Int) (t : List TNode) : ∀ (d at_ taken out : Nat) (seen : List Bool), t.length ≤ at_ + d → at_ < t.length → seen.length = t.length →
    (∀ s, rightF ws n size t d at_ taken out seen = some s → ∃ S, TR ws n size t at_ taken out S ∧ s.length = t.length ∧ ∀ j, (S j → seen.getD j false = false) ∧ (s.getD j false = true ↔ seen.getD j false = true ∨ S j)) ∧
    (∀ S, TR ws n size t at_ taken out S → (∀ j, S j → seen.getD j false = false) → ∃ s, rightF ws n size t d at_ taken out seen = some s ∧ s.length = t.length ∧ ∀ j, s.getD j false = true ↔ seen.getD j false = true ∨ S j) := by
  intro d
  induction d with
  | zero => intro at_ taken out seen h1 h2; omega
  | succ d ih =>
    intro at_ taken out seen hd hat hsl
    have hset : ∀ j, (seen.set at_ true).getD j false = true ↔ seen.getD j false = true ∨ j = at_ := fun j => by
      by_cases e : j = at_
      · subst e; rw [getD_set_eq _ _ _ _ (by omega)]; simp
      · rw [getD_set_ne _ _ _ _ _ (Ne.symm e)]; simp [e]
    unfold rightF
    by_cases hs : seen.getD at_ false = true
    · rw [if_pos hs]
      refine ⟨fun s h => (by cases h), fun S h hS => ?_⟩
      have := hS _ h.self
      rw [hs] at this; cases this
    · rw [if_neg hs]
      have hs' : seen.getD at_ false = false := by simpa using hs
      simp only
      by_cases hl : (t.getD at_ node0).yes = 0 ∧ (t.getD at_ node0).no = 0
      · rw [if_pos hl, leaf_same]
        constructor
        · intro s h
          split at h
          · rename_i hleaf
            injection h with h
            subst h
            refine ⟨_, .leaf at_ taken out hl hleaf, by simpa using hsl, fun j => ⟨fun e => by rw [e]; exact hs', hset j⟩⟩
          · cases h
        · intro S h hS
          cases h with
          | leaf _ _ _ q1 q2 => exact ⟨_, by rw [if_pos q2], by simpa using hsl, hset⟩
          | node _ _ _ S1 S2 q1 => exact absurd hl q1
      · rw [if_neg hl]
        by_cases hb : (t.getD at_ node0).pick < 0 ∨ (t.getD at_ node0).pick ≥ n ∨ (taken ||| out).testBit (t.getD at_ node0).pick.toNat = true ∨ (t.getD at_ node0).yes ≤ at_ ∨ (t.getD at_ node0).no ≤ at_ ∨ (t.getD at_ node0).yes ≥ t.length ∨ (t.getD at_ node0).no ≥ t.length
        · rw [if_pos hb]
          refine ⟨fun s h => (by cases h), fun S h hS => ?_⟩
          cases h with
          | leaf _ _ _ q1 => exact absurd q1 hl
          | node _ _ _ S1 S2 q1 q2 => exact absurd hb q2
        · rw [if_neg hb]
          obtain ⟨y1, y2⟩ := ih (t.getD at_ node0).yes.toNat (taken ||| bit (t.getD at_ node0).pick.toNat) out (seen.set at_ true) (by omega) (by omega) (by simpa using hsl)
          constructor
          · intro s h
            cases hy : rightF ws n size t d (t.getD at_ node0).yes.toNat (taken ||| bit (t.getD at_ node0).pick.toNat) out (seen.set at_ true) with
            | none => rw [hy] at h; cases h
            | some s1 =>
              rw [hy] at h
              obtain ⟨S1, a1, a2, a3⟩ := y1 s1 hy
              obtain ⟨z1, _⟩ := ih (t.getD at_ node0).no.toNat taken (out ||| bit (t.getD at_ node0).pick.toNat) s1 (by omega) (by omega) a2
              obtain ⟨S2, b1, b2, b3⟩ := z1 s h
              refine ⟨_, .node at_ taken out S1 S2 hl hb a1 b1 (fun j hj => ?_), b2, fun j => ⟨fun hj => ?_, ?_⟩⟩
              · have := (b3 j).1 hj.2
                rw [(a3 j).2.2 (.inr hj.1)] at this; cases this
              · rcases hj with rfl | hj | hj
                · exact hs'
                · have := (a3 j).1 hj
                  cases h0 : seen.getD j false with
                  | false => rfl
                  | true => rw [(hset j).2 (.inl h0)] at this; cases this
                · have := (b3 j).1 hj
                  cases h0 : seen.getD j false with
                  | false => rfl
                  | true => rw [(a3 j).2.2 (.inl ((hset j).2 (.inl h0)))] at this; cases this
              · rw [(b3 j).2, (a3 j).2, hset j]
                constructor
                · rintro (((h | h) | h) | h)
                  · exact .inl h
                  · exact .inr (.inl h)
                  · exact .inr (.inr (.inl h))
                  · exact .inr (.inr (.inr h))
                · rintro (h | h | h | h)
                  · exact .inl (.inl (.inl h))
                  · exact .inl (.inl (.inr h))
                  · exact .inl (.inr h)
                  · exact .inr h
          · intro S h hS
            cases h with
            | leaf _ _ _ q1 => exact absurd q1 hl
            | node _ _ _ S1 S2 q1 q2 q3 q4 q5 =>
              have d1 : ∀ j, S1 j → (seen.set at_ true).getD j false = false := fun j hj => by
                cases h0 : (seen.set at_ true).getD j false with
                | false => rfl
                | true =>
                  rcases (hset j).1 h0 with h | h
                  · rw [hS j (.inr (.inl hj))] at h; cases h
                  · have := q3.ge j hj; omega
              obtain ⟨s1, e1, e2, e3⟩ := y2 S1 q3 d1
              obtain ⟨_, z2⟩ := ih (t.getD at_ node0).no.toNat taken (out ||| bit (t.getD at_ node0).pick.toNat) s1 (by omega) (by omega) e2
              have d2 : ∀ j, S2 j → s1.getD j false = false := fun j hj => by
                cases h0 : s1.getD j false with
                | false => rfl
                | true =>
                  rcases (e3 j).1 h0 with h | h
                  · rcases (hset j).1 h with h | h
                    · rw [hS j (.inr (.inr hj))] at h; cases h
                    · have := q4.ge j hj; omega
                  · exact absurd ⟨h, hj⟩ (q5 j)
              obtain ⟨s2, f1, f2, f3⟩ := z2 S2 q4 d2
              refine ⟨s2, by rw [e1]; exact f1, f2, fun j => ?_⟩
              rw [f3, e3, hset j]
              constructor
              · rintro (((h | h) | h) | h)
                · exact .inl h
                · exact .inr (.inl h)
                · exact .inr (.inr (.inl h))
                · exact .inr (.inr (.inr h))
              · rintro (h | h | h | h)
                · exact .inl (.inl (.inl h))
                · exact .inl (.inl (.inr h))
                · exact .inl (.inr h)
                · exact .inr h
theorem tree_iff (ws : List Nat) (n : Nat) (size : Int) (t : List TNode) : ∀ (r : List TNode) (i : Nat) (tk ot : List Nat) (re : List Bool), r = t.drop i → i ≤ t.length → tk.length = t.length → ot.length = t.length → re.length = t.length →
    (treeGo ws n size t.length r i tk ot re = true ↔ ∃ S : Nat → Nat → Prop, (∀ j, i ≤ j → re.getD j false = true → TR ws n size t j (tk.getD j 0) (ot.getD j 0) (S j)) ∧ ∀ j k, i ≤ j → i ≤ k → re.getD j false = true → re.getD k false = true → j ≠ k → ∀ x, ¬ (S j x ∧ S k x)) := by
  intro r
  induction r with
  | nil =>
    intro i tk ot re hr hi l1 l2 l3
    have hi' : t.length ≤ i := by have := congrArg List.length hr; simp at this; omega
    simp only [treeGo, true_iff]
    have hno : ∀ j, i ≤ j → re.getD j false = true → False := fun j hj h => by
      rw [List.getD_eq_getElem?_getD, List.getElem?_eq_none (by omega)] at h; cases h
    exact ⟨fun _ _ => True, fun j hj h => (hno j hj h).elim, fun j k hj _ h => (hno j hj h).elim⟩
  | cons x r ih =>
    intro i tk ot re hr hi l1 l2 l3
    have hil : i < t.length := by have := congrArg List.length hr; simp at this; omega
    have hx : t.getD i node0 = x := by
      rw [List.getD_eq_getElem?_getD, List.getElem?_eq_getElem hil]
      have := List.drop_eq_getElem_cons hil
      rw [← hr] at this
      injection this with h1 h2
      exact h1.symm
    have hr' : r = t.drop (i + 1) := by
      have := List.drop_eq_getElem_cons hil
      rw [← hr] at this
      injection this
    unfold treeGo
    by_cases h0 : re.getD i false = false
    · rw [if_pos h0, ih (i + 1) tk ot re hr' (by omega) l1 l2 l3]
      have up : ∀ j, i ≤ j → re.getD j false = true → i + 1 ≤ j := fun j hj h => by
        rcases Nat.eq_or_lt_of_le hj with e | e
        · subst e; rw [h0] at h; cases h
        · exact e
      constructor
      · rintro ⟨S, q1, q2⟩
        exact ⟨S, fun j hj h => q1 j (up j hj h) h, fun j k hj hk h1 h2 => q2 j k (up j hj h1) (up k hk h2) h1 h2⟩
      · rintro ⟨S, q1, q2⟩
        exact ⟨S, fun j hj h => q1 j (by omega) h, fun j k hj hk h1 h2 => q2 j k (by omega) (by omega) h1 h2⟩
    · rw [if_neg h0]
      have h0' : re.getD i false = true := by simpa using h0
      by_cases hl : x.yes = 0 ∧ x.no = 0
      · rw [if_pos hl, Bool.and_eq_true, ih (i + 1) tk ot re hr' (by omega) l1 l2 l3]
        constructor
        · rintro ⟨hleaf, S, q1, q2⟩
          refine ⟨fun j => if j = i then (fun z => z = i) else S j, fun j hj h => ?_, fun j k hj hk h1 h2 hne z => ?_⟩
          · by_cases e : j = i
            · subst e
              simp only [if_true]
              exact .leaf _ _ _ (by rw [hx]; exact hl) (by rw [hx]; exact hleaf)
            · simp only [e, if_false]
              exact q1 j (by omega) h
          · by_cases e : j = i
            · subst e
              have e2 : k ≠ j := fun h => hne h.symm
              simp only [if_true, e2, if_false]
              rintro ⟨rfl, h⟩
              have := (q1 k (by omega) h2).ge _ h
              omega
            · by_cases e2 : k = i
              · subst e2
                simp only [e, if_false, if_true]
                rintro ⟨h, rfl⟩
                have := (q1 j (by omega) h1).ge _ h
                omega
              · simp only [e, e2, if_false]
                exact q2 j k (by omega) (by omega) h1 h2 hne z
        · rintro ⟨S, q1, q2⟩
          refine ⟨?_, S, fun j hj h => q1 j (by omega) h, fun j k hj hk h1 h2 => q2 j k (by omega) (by omega) h1 h2⟩
          have := q1 i (by omega) h0'
          generalize S i = Si at this
          cases this with
          | leaf _ _ _ p1 p2 => rw [hx] at p2; exact p2
          | node _ _ _ _ _ p1 => rw [hx] at p1; exact absurd hl p1
      · rw [if_neg hl]
        by_cases hb : x.yes ≤ i ∨ x.no ≤ i ∨ x.yes ≥ t.length ∨ x.no ≥ t.length ∨ x.yes = x.no ∨ re.getD x.yes.toNat false = true ∨ re.getD x.no.toNat false = true
        · rw [if_pos hb]
          constructor
          · intro h; cases h
          · rintro ⟨S, q1, q2⟩
            exfalso
            have h1 := q1 i (by omega) h0'
            have h2 := fun k hk hre hne => q2 i k (by omega) hk h0' hre hne
            have hk' := fun k hk hre => q1 k hk hre
            generalize S i = Si at h1 h2
            cases h1 with
            | leaf _ _ _ p1 => rw [hx] at p1; exact hl p1
            | node _ _ _ S1 S2 p1 p2 p3 p4 p5 =>
              rw [hx] at p2 p3 p4
              rcases hb with h | h | h | h | h | h | h
              · exact p2 (.inr (.inr (.inr (.inl h))))
              · exact p2 (.inr (.inr (.inr (.inr (.inl h)))))
              · exact p2 (.inr (.inr (.inr (.inr (.inr (.inl h))))))
              · exact p2 (.inr (.inr (.inr (.inr (.inr (.inr h))))))
              · have a := p3.self
                have b := p4.self
                rw [h] at a
                exact p5 _ ⟨a, b⟩
              · have hgt : i < x.yes.toNat := by omega
                exact h2 x.yes.toNat (by omega) h (by omega) x.yes.toNat ⟨.inr (.inl p3.self), (hk' _ (by omega) h).self⟩
              · have hgt : i < x.no.toNat := by omega
                exact h2 x.no.toNat (by omega) h (by omega) x.no.toNat ⟨.inr (.inr p4.self), (hk' _ (by omega) h).self⟩
        · rw [if_neg hb]
          by_cases hc : x.pick < 0 ∨ x.pick ≥ n ∨ (tk.getD i 0 ||| ot.getD i 0).testBit x.pick.toNat = true
          · rw [if_pos hc]
            constructor
            · intro h; cases h
            · rintro ⟨S, q1, _⟩
              exfalso
              have h1 := q1 i (by omega) h0'
              generalize S i = Si at h1
              cases h1 with
              | leaf _ _ _ p1 => rw [hx] at p1; exact hl p1
              | node _ _ _ S1 S2 p1 p2 =>
                rw [hx] at p2
                rcases hc with h | h | h
                · exact p2 (.inl h)
                · exact p2 (.inr (.inl h))
                · exact p2 (.inr (.inr (.inl h)))
          · rw [if_neg hc, ih (i + 1) _ _ _ hr' (by omega) (by simpa using l1) (by simpa using l2) (by simpa using l3)]
            have hy : x.yes.toNat < t.length := by omega
            have hn : x.no.toNat < t.length := by omega
            have hyn : x.yes.toNat ≠ x.no.toNat := by omega
            have hyi : i < x.yes.toNat := by omega
            have hni : i < x.no.toNat := by omega
            have gy : ∀ (l : List Nat) (a b : Nat), l.length = t.length → ((l.set x.yes.toNat a).set x.no.toNat b).getD x.yes.toNat 0 = a := fun l a b hl => by
              rw [getD_set_ne _ _ _ _ _ (Ne.symm hyn), getD_set_eq _ _ _ _ (by omega)]
            have gn : ∀ (l : List Nat) (a b : Nat), l.length = t.length → ((l.set x.yes.toNat a).set x.no.toNat b).getD x.no.toNat 0 = b := fun l a b hl => by
              rw [getD_set_eq _ _ _ _ (by simp; omega)]
            have go : ∀ (l : List Nat) (a b j : Nat), j ≠ x.yes.toNat → j ≠ x.no.toNat → ((l.set x.yes.toNat a).set x.no.toNat b).getD j 0 = l.getD j 0 := fun l a b j h1 h2 => by
              rw [getD_set_ne _ _ _ _ _ (Ne.symm h2), getD_set_ne _ _ _ _ _ (Ne.symm h1)]
            have ry : ((re.set x.yes.toNat true).set x.no.toNat true).getD x.yes.toNat false = true := by
              rw [getD_set_ne _ _ _ _ _ (Ne.symm hyn), getD_set_eq _ _ _ _ (by omega)]
            have rn : ((re.set x.yes.toNat true).set x.no.toNat true).getD x.no.toNat false = true := by
              rw [getD_set_eq _ _ _ _ (by simp; omega)]
            have ro : ∀ j, j ≠ x.yes.toNat → j ≠ x.no.toNat → ((re.set x.yes.toNat true).set x.no.toNat true).getD j false = re.getD j false := fun j h1 h2 => by
              rw [getD_set_ne _ _ _ _ _ (Ne.symm h2), getD_set_ne _ _ _ _ _ (Ne.symm h1)]
            have hry : re.getD x.yes.toNat false = false := by
              cases h : re.getD x.yes.toNat false with
              | false => rfl
              | true => exact absurd (.inr (.inr (.inr (.inr (.inr (.inl h)))))) hb
            have hrn : re.getD x.no.toNat false = false := by
              cases h : re.getD x.no.toNat false with
              | false => rfl
              | true => exact absurd (.inr (.inr (.inr (.inr (.inr (.inr h)))))) hb
            constructor
            · rintro ⟨S, q1, q2⟩
              have t1 := q1 _ (by omega) ry
              have t2 := q1 _ (by omega) rn
              rw [gy _ _ _ l1, gy _ _ _ l2] at t1
              rw [gn _ _ _ l1, gn _ _ _ l2] at t2
              have old : ∀ j, i ≤ j → re.getD j false = true → j ≠ i → i + 1 ≤ j ∧ j ≠ x.yes.toNat ∧ j ≠ x.no.toNat := fun j hj h hne =>
                ⟨by omega, fun e => (by rw [e, hry] at h; cases h), fun e => (by rw [e, hrn] at h; cases h)⟩
              refine ⟨fun j => if j = i then (fun z => z = i ∨ S x.yes.toNat z ∨ S x.no.toNat z) else S j, fun j hj h => ?_, ?_⟩
              · by_cases e : j = i
                · subst e
                  simp only [if_true]
                  refine .node _ _ _ _ _ (by rw [hx]; exact hl) (by rw [hx]; intro h; rcases h with h | h | h | h | h | h | h <;> first | exact hc (.inl h) | exact hc (.inr (.inl h)) | exact hc (.inr (.inr h)) | omega) (by rw [hx]; exact t1) (by rw [hx]; exact t2) (q2 _ _ (by omega) (by omega) ry rn hyn)
                · simp only [e, if_false]
                  obtain ⟨o1, o2, o3⟩ := old j hj h e
                  have := q1 j o1 (by rw [ro j o2 o3]; exact h)
                  rw [go _ _ _ j o2 o3, go _ _ _ j o2 o3] at this
                  exact this
              · have main : ∀ k, i ≤ k → re.getD k false = true → k ≠ i → ∀ z, ¬ ((z = i ∨ S x.yes.toNat z ∨ S x.no.toNat z) ∧ S k z) := by
                  rintro k hk h hne z ⟨hz, hk2⟩
                  obtain ⟨o1, o2, o3⟩ := old k hk h hne
                  have hrk : ((re.set x.yes.toNat true).set x.no.toNat true).getD k false = true := by rw [ro k o2 o3]; exact h
                  rcases hz with rfl | hz | hz
                  · have := (q1 k o1 hrk).ge _ hk2; omega
                  · exact q2 _ k (by omega) o1 ry hrk (Ne.symm o2) z ⟨hz, hk2⟩
                  · exact q2 _ k (by omega) o1 rn hrk (Ne.symm o3) z ⟨hz, hk2⟩
                intro j k hj hk h1 h2 hne z
                by_cases e : j = i
                · have e2 : k ≠ i := fun h => hne (by rw [e, h])
                  simp only [e, e2, if_true, if_false]
                  exact main k hk h2 e2 z
                · by_cases e2 : k = i
                  · simp only [e, e2, if_true, if_false]
                    exact fun h => main j hj h1 e z ⟨h.2, h.1⟩
                  · simp only [e, e2, if_false]
                    obtain ⟨o1, o2, o3⟩ := old j hj h1 e
                    obtain ⟨p1, p2, p3⟩ := old k hk h2 e2
                    exact q2 j k o1 p1 (by rw [ro j o2 o3]; exact h1) (by rw [ro k p2 p3]; exact h2) hne z
            · rintro ⟨S, q1, q2⟩
              have h1 := q1 i (by omega) h0'
              have h2 := fun k hk hre hne => q2 i k (by omega) hk h0' hre hne
              generalize hSi : S i = Si at h1 h2
              cases h1 with
              | leaf _ _ _ p1 => rw [hx] at p1; exact absurd p1 hl
              | node _ _ _ S1 S2 p1 p2 p3 p4 p5 =>
                rw [hx] at p3 p4
                have cas : ∀ j, i + 1 ≤ j → ((re.set x.yes.toNat true).set x.no.toNat true).getD j false = true → j = x.yes.toNat ∨ j = x.no.toNat ∨ (j ≠ x.yes.toNat ∧ j ≠ x.no.toNat ∧ re.getD j false = true) := fun j hj h => by
                  by_cases e1 : j = x.yes.toNat
                  · exact .inl e1
                  · by_cases e2 : j = x.no.toNat
                    · exact .inr (.inl e2)
                    · exact .inr (.inr ⟨e1, e2, by rw [← ro j e1 e2]; exact h⟩)
                refine ⟨fun j => if j = x.yes.toNat then S1 else if j = x.no.toNat then S2 else S j, fun j hj h => ?_, ?_⟩
                · rcases cas j hj h with e | e | ⟨e1, e2, h⟩
                  · subst e
                    simp only [if_true]
                    rw [gy _ _ _ l1, gy _ _ _ l2]
                    exact p3
                  · subst e
                    simp only [Ne.symm hyn, if_false, if_true]
                    rw [gn _ _ _ l1, gn _ _ _ l2]
                    exact p4
                  · simp only [e1, e2, if_false]
                    rw [go _ _ _ j e1 e2, go _ _ _ j e1 e2]
                    exact q1 j (by omega) h
                · have m1 : ∀ k, i + 1 ≤ k → re.getD k false = true → ∀ z, ¬ (S1 z ∧ S k z) := fun k hk h z hz => h2 k (by omega) h (by omega) z ⟨.inr (.inl hz.1), hz.2⟩
                  have m2 : ∀ k, i + 1 ≤ k → re.getD k false = true → ∀ z, ¬ (S2 z ∧ S k z) := fun k hk h z hz => h2 k (by omega) h (by omega) z ⟨.inr (.inr hz.1), hz.2⟩
                  intro j k hj hk h1 h2' hne z
                  rcases cas j hj h1 with e | e | ⟨e1, e2, h⟩
                  · subst e
                    simp only [if_true]
                    rcases cas k hk h2' with f | f | ⟨f1, f2, h'⟩
                    · exact absurd f.symm hne
                    · subst f
                      simp only [Ne.symm hyn, if_false, if_true]
                      exact p5 z
                    · simp only [f1, f2, if_false]
                      exact m1 k hk h' z
                  · subst e
                    simp only [Ne.symm hyn, if_false, if_true]
                    rcases cas k hk h2' with f | f | ⟨f1, f2, h'⟩
                    · subst f
                      simp only [if_true]
                      exact fun h => p5 z ⟨h.2, h.1⟩
                    · exact absurd f.symm hne
                    · simp only [f1, f2, if_false]
                      exact m2 k hk h' z
                  · simp only [e1, e2, if_false]
                    rcases cas k hk h2' with f | f | ⟨f1, f2, h'⟩
                    · subst f
                      simp only [if_true]
                      exact fun hh => m1 j hj h z ⟨hh.2, hh.1⟩
                    · subst f
                      simp only [Ne.symm hyn, if_false, if_true]
                      exact fun hh => m2 j hj h z ⟨hh.2, hh.1⟩
                    · simp only [f1, f2, if_false]
                      exact q2 j k (by omega) (by omega) h h' hne z
/-- The verifier and the reference agree on every list of nodes. -/
theorem verify_same (ws : List Nat) (n : Nat) (size : Int) (t : List TNode) (ht : 0 < t.length) : (rightF ws n size t t.length 0 0 0 (List.replicate t.length false)).isSome = treeF ws n size t := by
  have rep : ∀ j, (List.replicate t.length false).getD j false = false := fun j => by
    rw [List.getD_eq_getElem?_getD, List.getElem?_replicate]; split <;> rfl
  have repN : ∀ j, (List.replicate t.length 0).getD j 0 = 0 := fun j => by
    rw [List.getD_eq_getElem?_getD, List.getElem?_replicate]; split <;> rfl
  obtain ⟨r1, r2⟩ := right_iff ws n size t t.length 0 0 0 (List.replicate t.length false) (by omega) ht (by simp)
  have hT := tree_iff ws n size t t 0 (List.replicate t.length 0) (List.replicate t.length 0) ((List.replicate t.length false).set 0 true) rfl (by omega) (by simp) (by simp) (by simp)
  have hre : ∀ j, ((List.replicate t.length false).set 0 true).getD j false = true ↔ j = 0 := fun j => by
    by_cases e : j = 0
    · subst e; rw [getD_set_eq _ _ _ _ (by simpa using ht)]; simp
    · rw [getD_set_ne _ _ _ _ _ (Ne.symm e), rep]; simp [e]
  rw [Bool.eq_iff_iff]
  unfold treeF
  rw [hT]
  constructor
  · intro h
    obtain ⟨s, hs⟩ := Option.isSome_iff_exists.1 h
    obtain ⟨S, q1, _⟩ := r1 s hs
    refine ⟨fun _ => S, fun j _ hj => ?_, fun j k _ _ hj hk hne => ?_⟩
    · rw [(hre j).1 hj, repN]; exact q1
    · rw [(hre j).1 hj, (hre k).1 hk] at hne; exact absurd rfl hne
  · rintro ⟨S, q1, _⟩
    have := q1 0 (by omega) ((hre 0).2 rfl)
    rw [repN] at this
    obtain ⟨s, hs, _⟩ := r2 _ this fun j _ => rep j
    rw [hs]; rfl
end Hit
end Go.Proofs.YtiochodepgldpaaDoor
