/- Plain: the most disjoint sets, and the first list of them. -/
import Derived.Test.YtiochodepgldpaaDoorHitE
namespace Go.Proofs.YtiochodepgldpaaDoor
namespace Hit
def countF : List Nat → Nat → Nat
  | [], _ => 0
  | s :: r, used => if s &&& used = 0 then max (countF r used) (1 + countF r (used ||| s)) else countF r used
def disjGo : List Nat → Nat → Nat → List Nat
  | [], _, _ => []
  | s :: r, i, used => if s &&& used = 0 ∧ 1 + countF r (used ||| s) = countF (s :: r) used then i :: disjGo r (i + 1) (used ||| s) else disjGo r (i + 1) used
/-- The reference's: all lists of indices, as bits. -/
def disjR (ws : List Nat) : List Nat :=
  (List.range (2 ^ ws.length)).foldl (fun best b => if apartR ws ((members b).map fun x : Nat => (x : Int)) 0 && (decide ((members b).length > best.length) || (decide ((members b).length = best.length) && before (members b) best)) then members b else best) []
theorem countF_cons (s : Nat) (r : List Nat) (used : Nat) : countF (s :: r) used = if s &&& used = 0 then max (countF r used) (1 + countF r (used ||| s)) else countF r used := rfl
/-- Indices of disjoint sets. -/
def DisS : List Nat → Nat → Nat → List Nat → Prop
  | [], _, _, L => L = []
  | s :: r, i, used, L => DisS r (i + 1) used L ∨ ∃ L', L = i :: L' ∧ s &&& used = 0 ∧ DisS r (i + 1) (used ||| s) L'
theorem DisS.ge : ∀ {ws : List Nat} {i used : Nat} {L : List Nat}, DisS ws i used L → ∀ x ∈ L, i ≤ x
  | [], _, _, L, h, x, hx => by rw [show L = [] from h] at hx; simp at hx
  | s :: r, i, used, L, h, x, hx => by
    rcases h with h | ⟨L', rfl, _, h⟩
    · have := DisS.ge h x hx; omega
    · simp only [List.mem_cons] at hx
      rcases hx with rfl | hx
      · omega
      · have := DisS.ge h x hx; omega
theorem countF_max : ∀ (ws : List Nat) (i used : Nat) (L : List Nat), DisS ws i used L → L.length ≤ countF ws used
  | [], _, _, L, h => by rw [show L = [] from h]; simp [countF]
  | s :: r, i, used, L, h => by
    unfold countF
    rcases h with h | ⟨L', rfl, h1, h⟩
    · have := countF_max r (i + 1) used L h
      split <;> omega
    · have := countF_max r (i + 1) (used ||| s) L' h
      rw [if_pos h1]
      simp only [List.length_cons]
      omega
theorem disjGo_spec : ∀ (ws : List Nat) (i used : Nat), DisS ws i used (disjGo ws i used) ∧ (disjGo ws i used).length = countF ws used ∧ ∀ L, DisS ws i used L → L.length = countF ws used → LexLe (disjGo ws i used) L
  | [], i, used => ⟨rfl, rfl, fun L _ _ => trivial⟩
  | s :: r, i, used => by
    unfold disjGo
    by_cases hc : s &&& used = 0 ∧ 1 + countF r (used ||| s) = countF (s :: r) used
    · rw [if_pos hc]
      obtain ⟨q1, q2, q3⟩ := disjGo_spec r (i + 1) (used ||| s)
      refine ⟨.inr ⟨_, rfl, hc.1, q1⟩, by simp only [List.length_cons]; omega, fun L hL hlen => ?_⟩
      rcases hL with hL | ⟨L', rfl, h1, hL⟩
      · cases L with
        | nil => simp only [List.length_nil] at hlen; omega
        | cons x L => exact .inl (by have := hL.ge x (by simp); omega)
      · simp only [List.length_cons] at hlen
        exact .inr ⟨rfl, q3 L' hL (by omega)⟩
    · rw [if_neg hc]
      obtain ⟨q1, q2, q3⟩ := disjGo_spec r (i + 1) used
      have he : countF (s :: r) used = countF r used := by
        rw [countF_cons] at hc ⊢
        split
        · rename_i h
          rw [if_pos h] at hc
          have : ¬ (1 + countF r (used ||| s) = max (countF r used) (1 + countF r (used ||| s))) := fun e => hc ⟨h, e⟩
          omega
        · rfl
      refine ⟨.inl q1, by omega, fun L hL hlen => ?_⟩
      rcases hL with hL | ⟨L', rfl, h1, hL⟩
      · exact q3 L hL (by omega)
      · have hm := countF_max _ _ _ _ hL
        exfalso
        simp only [List.length_cons] at hlen
        have hc' : ¬ (1 + countF r (used ||| s) = countF (s :: r) used) := fun e => hc ⟨h1, e⟩
        have hmx : 1 + countF r (used ||| s) ≤ countF (s :: r) used := by rw [countF_cons, if_pos h1]; exact Nat.le_max_right _ _
        omega
theorem disS_iff : ∀ (ws : List Nat) (i used : Nat) (L : List Nat), DisS ws i used L ↔
    Inc L ∧ (∀ x ∈ L, i ≤ x ∧ x < i + ws.length ∧ ws.getD (x - i) 0 &&& used = 0) ∧ ∀ a ∈ L, ∀ b ∈ L, b < a → ws.getD (a - i) 0 &&& ws.getD (b - i) 0 = 0
  | [], i, used, L => by
    constructor
    · intro h; rw [show L = [] from h]; exact ⟨trivial, by simp, by simp⟩
    · rintro ⟨_, h, _⟩
      cases L with
      | nil => rfl
      | cons x L => have := h x (by simp); simp at this; omega
  | s :: r, i, used, L => by
    have sh : ∀ x, i + 1 ≤ x → (s :: r).getD (x - i) 0 = r.getD (x - (i + 1)) 0 := fun x hx => by
      rw [show x - i = (x - (i + 1)) + 1 from by omega, List.getD_cons_succ]
    constructor
    · rintro (h | ⟨L', rfl, h1, h⟩)
      · obtain ⟨q1, q2, q3⟩ := (disS_iff r (i + 1) used L).1 h
        refine ⟨q1, fun x hx => ?_, fun a ha b hb hba => ?_⟩
        · obtain ⟨p1, p2, p3⟩ := q2 x hx
          rw [sh x p1]
          exact ⟨by omega, by simp only [List.length_cons]; omega, p3⟩
        · rw [sh a (q2 a ha).1, sh b (q2 b hb).1]
          exact q3 a ha b hb hba
      · obtain ⟨q1, q2, q3⟩ := (disS_iff r (i + 1) (used ||| s) L').1 h
        have hu : ∀ x ∈ L', r.getD (x - (i + 1)) 0 &&& used = 0 ∧ r.getD (x - (i + 1)) 0 &&& s = 0 := fun x hx => by
          have := (q2 x hx).2.2
          constructor
          · refine (and_zero_iff _ _).2 fun j hj => ?_
            have := (and_zero_iff _ _).1 this j hj
            rw [Nat.testBit_or] at this
            simp at this; exact this.1
          · refine (and_zero_iff _ _).2 fun j hj => ?_
            have := (and_zero_iff _ _).1 this j hj
            rw [Nat.testBit_or] at this
            simp at this; exact this.2
        refine ⟨⟨fun y hy => by have := (q2 y hy).1; omega, q1⟩, fun x hx => ?_, fun a ha b hb hba => ?_⟩
        · simp only [List.mem_cons] at hx
          rcases hx with rfl | hx
          · rw [Nat.sub_self, List.getD_cons_zero]
            exact ⟨by omega, by simp only [List.length_cons]; omega, h1⟩
          · obtain ⟨p1, p2, p3⟩ := q2 x hx
            rw [sh x p1]
            exact ⟨by omega, by simp only [List.length_cons]; omega, (hu x hx).1⟩
        · simp only [List.mem_cons] at ha hb
          rcases hb with rfl | hb
          · rcases ha with rfl | ha
            · omega
            · rw [sh a (q2 a ha).1, Nat.sub_self, List.getD_cons_zero]
              exact (hu a ha).2
          · rcases ha with rfl | ha
            · have := (q2 b hb).1; omega
            · rw [sh a (q2 a ha).1, sh b (q2 b hb).1]
              exact q3 a ha b hb hba
    · rintro ⟨q1, q2, q3⟩
      have tail : ∀ L', Inc L' → (∀ x ∈ L', x ∈ L) → (∀ x ∈ L', i + 1 ≤ x) → ∀ u, (∀ x ∈ L', r.getD (x - (i + 1)) 0 &&& u = 0) → DisS r (i + 1) u L' := by
        intro L' hi hm hge u hu
        refine (disS_iff r (i + 1) u L').2 ⟨hi, fun x hx => ⟨hge x hx, ?_, hu x hx⟩, fun a ha b hb hba => ?_⟩
        · have := (q2 x (hm x hx)).2.1; simp only [List.length_cons] at this; omega
        · have := q3 a (hm a ha) b (hm b hb) hba
          rw [sh a (hge a ha), sh b (hge b hb)] at this
          exact this
      cases L with
      | nil => exact .inl (tail [] trivial (by simp) (by simp) used (by simp))
      | cons x L =>
        by_cases e : x = i
        · subst e
          have hge : ∀ y ∈ L, x + 1 ≤ y := fun y hy => q1.1 y hy
          refine .inr ⟨L, rfl, ?_, tail L q1.2 (fun y hy => by simp [hy]) hge _ fun y hy => ?_⟩
          · have := (q2 x (by simp)).2.2
            rw [Nat.sub_self, List.getD_cons_zero] at this
            exact this
          · have h1 := (q2 y (by simp [hy])).2.2
            have h2 := q3 y (by simp [hy]) x (by simp) (hge y hy)
            rw [sh y (hge y hy)] at h1 h2
            rw [Nat.sub_self, List.getD_cons_zero] at h2
            refine (and_zero_iff _ _).2 fun j hj => ?_
            rw [Nat.testBit_or, (and_zero_iff _ _).1 h1 j hj, (and_zero_iff _ _).1 h2 j hj]; rfl
        · have hge : ∀ y ∈ x :: L, i + 1 ≤ y := fun y hy => by
            have hx := (q2 x (by simp)).1
            simp only [List.mem_cons] at hy
            rcases hy with rfl | hy
            · omega
            · have := q1.1 y hy; omega
          refine .inl (tail (x :: L) q1 (fun y hy => hy) hge used fun y hy => ?_)
          have := (q2 y hy).2.2
          rw [sh y (hge y hy)] at this
          exact this
theorem inc_getD_lt {L : List Nat} (h : Inc L) : ∀ {a b : Nat}, b < a → a < L.length → L.getD b 0 < L.getD a 0 := by
  induction L with
  | nil => intro a b _ h; simp at h
  | cons x L ih =>
    intro a b hba ha
    cases a with
    | zero => omega
    | succ a =>
      simp only [List.length_cons] at ha
      rw [List.getD_cons_succ]
      cases b with
      | zero =>
        rw [List.getD_cons_zero]
        refine h.1 _ ?_
        rw [List.getD_eq_getElem?_getD, List.getElem?_eq_getElem (by omega)]; exact List.getElem_mem _
      | succ b =>
        rw [List.getD_cons_succ]
        exact ih h.2 (by omega) (by omega)
theorem apartR_iff (ws : List Nat) (L : List Nat) (h : Inc L) : apartR ws (L.map fun x : Nat => (x : Int)) 0 = true ↔ ∀ a ∈ L, ∀ b ∈ L, b < a → ws.getD a 0 &&& ws.getD b 0 = 0 := by
  unfold apartR
  simp only [List.all_eq_true, List.mem_range, List.length_map, getD_map_int, Int.toNat_natCast, Bool.and_eq_true, bne_iff_ne, beq_iff_eq, andn_zero]
  constructor
  · intro hh a ha b hb hba
    obtain ⟨ia, hia, rfl⟩ := List.getElem_of_mem ha
    obtain ⟨ib, hib, rfl⟩ := List.getElem_of_mem hb
    have e1 : L.getD ia 0 = L[ia] := by rw [List.getD_eq_getElem?_getD, List.getElem?_eq_getElem hia]; rfl
    have e2 : L.getD ib 0 = L[ib] := by rw [List.getD_eq_getElem?_getD, List.getElem?_eq_getElem hib]; rfl
    have hlt : ib < ia := by
      rcases Nat.lt_or_ge ib ia with h1 | h1
      · exact h1
      · exfalso
        rcases Nat.eq_or_lt_of_le h1 with e | h2
        · subst e; omega
        · have := inc_getD_lt h h2 hib
          omega
    have := (hh ia hia ib hlt).2
    rw [e1, e2] at this
    exact this
  · intro hh ia hia ib hlt
    have hlt2 := inc_getD_lt h hlt hia
    refine ⟨by omega, hh _ ?_ _ ?_ hlt2⟩
    · rw [List.getD_eq_getElem?_getD, List.getElem?_eq_getElem hia]; exact List.getElem_mem _
    · rw [List.getD_eq_getElem?_getD, List.getElem?_eq_getElem (by omega)]; exact List.getElem_mem _
/-- The best list of a sequence, as the reference finds it. -/
theorem best_fold (p : List Nat → Bool) (D : List Nat) (hD : p D = true) : ∀ (l : List Nat) (best : List Nat),
    (∀ b ∈ l, p (members b) = true → (members b).length ≤ D.length ∧ ((members b).length = D.length → LexLe D (members b))) →
    best.length ≤ D.length → (best.length = D.length → LexLe D best) → (D = best ∨ ∃ b ∈ l, members b = D) →
    l.foldl (fun best b => if p (members b) && (decide ((members b).length > best.length) || (decide ((members b).length = best.length) && before (members b) best)) then members b else best) best = D := by
  intro l
  induction l with
  | nil => intro best _ _ _ h; rcases h with h | ⟨b, hb, _⟩; exact h.symm; simp at hb
  | cons b l ih =>
    intro best hl hb1 hb2 hex
    simp only [List.foldl_cons]
    have hl' : ∀ c ∈ l, p (members c) = true → (members c).length ≤ D.length ∧ ((members c).length = D.length → LexLe D (members c)) := fun c hc => hl c (by simp [hc])
    by_cases hc : (p (members b) && (decide ((members b).length > best.length) || (decide ((members b).length = best.length) && before (members b) best))) = true
    · rw [if_pos hc]
      simp only [Bool.and_eq_true, Bool.or_eq_true, decide_eq_true_eq] at hc
      obtain ⟨h1, h2⟩ := hl b (by simp) hc.1
      refine ih _ hl' h1 h2 ?_
      rcases hex with rfl | ⟨c, hcm, hcD⟩
      · left
        have hlen : (members b).length = D.length := by rcases hc.2 with h | h <;> omega
        have hbe : before (members b) D = true := by rcases hc.2 with h | h; omega; exact h.2
        have := lexLe_lt _ _ hlen.symm (h2 hlen)
        unfold before at hbe
        simp [hlen] at hbe
        rw [hbe] at this; cases this
      · simp only [List.mem_cons] at hcm
        rcases hcm with rfl | hcm
        · exact .inl hcD.symm
        · exact .inr ⟨c, hcm, hcD⟩
    · rw [if_neg hc]
      refine ih _ hl' hb1 hb2 ?_
      rcases hex with rfl | ⟨c, hcm, hcD⟩
      · exact .inl rfl
      · simp only [List.mem_cons] at hcm
        rcases hcm with rfl | hcm
        · left
          rw [hcD] at hc
          simp only [hD, Bool.true_and, Bool.or_eq_true, Bool.and_eq_true, decide_eq_true_eq, not_or, not_and] at hc
          have hlen : D.length = best.length := by omega
          have h3 : before D best = false := by simpa using hc.2 hlen
          have h4 : before best D = false := by
            unfold before
            simp [hlen]
            exact lexLe_lt _ _ hlen (hb2 hlen.symm)
          exact before_conn _ _ h3 h4
        · exact .inr ⟨c, hcm, hcD⟩
theorem disj_same (ws : List Nat) (hw : ws.length ≤ 64) : disjR ws = disjGo ws 0 0 := by
  obtain ⟨q1, q2, q3⟩ := disjGo_spec ws 0 0
  obtain ⟨i1, i2, i3⟩ := (disS_iff ws 0 0 _).1 q1
  simp only [Nat.sub_zero] at i2 i3
  have h64 : ∀ x ∈ disjGo ws 0 0, x < 64 := fun x hx => by have := (i2 x hx).2.1; omega
  unfold disjR
  refine best_fold (fun l => apartR ws (l.map fun x : Nat => (x : Int)) 0) (disjGo ws 0 0) ((apartR_iff ws _ i1).2 i3) _ [] (fun b hb hp => ?_) (by simp) (fun h => ?_) ?_
  · have hb' : b < 2 ^ ws.length := by simpa using hb
    have hin : ∀ x ∈ members b, x < ws.length := fun x hx => by
      have hx2 := (mem_members.1 hx).2
      rcases Nat.lt_or_ge x ws.length with hl | hl
      · exact hl
      · rw [test_of_lt hb' hl] at hx2; cases hx2
    have hD : DisS ws 0 0 (members b) := (disS_iff ws 0 0 _).2 ⟨inc_members b, fun x hx => ⟨by omega, by have := hin x hx; omega, by simp⟩, by simpa using (apartR_iff ws _ (inc_members b)).1 hp⟩
    exact ⟨by rw [q2]; exact countF_max _ _ _ _ hD, fun e => q3 _ hD (by omega)⟩
  · have : disjGo ws 0 0 = [] := List.eq_nil_of_length_eq_zero (by simpa using h.symm)
    rw [this]; trivial
  · right
    exact ⟨word (disjGo ws 0 0), by simpa using word_lt fun x hx => by have := (i2 x hx).2.1; omega, members_word i1 h64⟩
/-- As many disjoint sets need as many numbers. -/
theorem disj_le {ws : List Nat} {n w : Nat} {X : List Nat} (h : IsLeast ws n w X) : (disjGo ws 0 0).length ≤ X.length := by
  obtain ⟨q1, _, _⟩ := disjGo_spec ws 0 0
  have hits := (hit_iff _ _).1 h.ok.hits
  rw [Nat.zero_or] at hits
  have key : ∀ (ws : List Nat) (i used : Nat) (L : List Nat), (∀ s ∈ ws, s &&& word X ≠ 0) → DisS ws i used L → L.length ≤ (X.filter fun x => !used.testBit x).length := by
    intro ws
    induction ws with
    | nil => intro i used L _ hL; rw [show L = [] from hL]; simp
    | cons s r ih =>
      intro i used L hh hL
      rcases hL with hL | ⟨L', rfl, h1, hL⟩
      · exact ih _ _ _ (fun t ht => hh t (by simp [ht])) hL
      · have := ih _ _ _ (fun t ht => hh t (by simp [ht])) hL
        obtain ⟨k, k1, k2⟩ := hit_bit (hh s (by simp))
        rw [word_test] at k2
        have h4 := (and_zero_iff s used).1 h1 k k1
        have hd := filter_drop X (fun x => !used.testBit x) (fun x => !(used ||| s).testBit x) k (by simpa using k2) (by simp [h4]) (by simp [k1]) (fun y hy => by simp at hy ⊢; exact hy.1)
        simp only [List.length_cons]
        omega
  have := key ws 0 0 _ hits q1
  have e : (X.filter fun x => !Nat.testBit 0 x) = X := List.filter_eq_self.2 fun x _ => by simp
  rw [e] at this
  exact this
end Hit
end Go.Proofs.YtiochodepgldpaaDoor
