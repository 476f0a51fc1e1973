/- Plain: the tree that is made is a proof tree to the reference. -/
import Derived.Test.YtiochodepgldpaaDoorHitC
namespace Go.Proofs.YtiochodepgldpaaDoor
namespace Hit
theorem apartGo_mem (ws : List Nat) : ∀ (i taken out used : Nat), ∀ x ∈ apartGo ws i taken out used, i ≤ x ∧ x < i + ws.length ∧ ws.getD (x - i) 0 &&& taken = 0 ∧ andn (ws.getD (x - i) 0) out &&& used = 0 := by
  induction ws with
  | nil => intro i taken out used x hx; simp [apartGo] at hx
  | cons s r ih =>
    intro i taken out used x hx
    unfold apartGo at hx
    have go : ∀ u, (∀ j, used.testBit j = true → u.testBit j = true) → x ∈ apartGo r (i + 1) taken out u → i ≤ x ∧ x < i + (s :: r).length ∧ (s :: r).getD (x - i) 0 &&& taken = 0 ∧ andn ((s :: r).getD (x - i) 0) out &&& used = 0 := by
      intro u hu h
      obtain ⟨h1, h2, h3, h4⟩ := ih _ _ _ _ x h
      refine ⟨by omega, by simp only [List.length_cons]; omega, ?_⟩
      rw [show x - i = (x - (i + 1)) + 1 from by omega, List.getD_cons_succ]
      refine ⟨h3, (and_zero_iff _ _).2 fun j hj => ?_⟩
      have := (and_zero_iff _ _).1 h4 j hj
      cases hb : used.testBit j with
      | false => rfl
      | true => rw [hu j hb] at this; cases this
    split at hx
    · rename_i hs
      simp only [List.mem_cons] at hx
      rcases hx with rfl | hx
      · simp; exact hs
      · exact go _ (fun j hj => by rw [Nat.testBit_or, hj]; rfl) hx
    · exact go _ (fun j hj => hj) hx
/-- Pairs of what is found have no number in common. -/
theorem apartGo_pairs (ws : List Nat) : ∀ (i taken out used : Nat), ∀ a b, b < a → a < (apartGo ws i taken out used).length →
    (apartGo ws i taken out used).getD b 0 < (apartGo ws i taken out used).getD a 0 ∧
      andn (ws.getD ((apartGo ws i taken out used).getD a 0 - i) 0 &&& ws.getD ((apartGo ws i taken out used).getD b 0 - i) 0) out = 0 := by
  induction ws with
  | nil => intro i taken out used a b _ ha; simp [apartGo] at ha
  | cons s r ih =>
    intro i taken out used a b hba ha
    unfold apartGo at ha ⊢
    have sh : ∀ (l : List Nat) (k : Nat), (∀ x ∈ l, i + 1 ≤ x) → k < l.length → (s :: r).getD (l.getD k 0 - i) 0 = r.getD (l.getD k 0 - (i + 1)) 0 ∧ i < l.getD k 0 := by
      intro l k hl hk
      have hm : l.getD k 0 ∈ l := by rw [List.getD_eq_getElem?_getD, List.getElem?_eq_getElem hk]; exact List.getElem_mem _
      have := hl _ hm
      refine ⟨?_, by omega⟩
      rw [show l.getD k 0 - i = (l.getD k 0 - (i + 1)) + 1 from by omega, List.getD_cons_succ]
    split
    · rename_i hs
      rw [if_pos hs] at ha
      have hmem := apartGo_mem r (i + 1) taken out (used ||| andn s out)
      have hl : ∀ x ∈ apartGo r (i + 1) taken out (used ||| andn s out), i + 1 ≤ x := fun x hx => (hmem x hx).1
      cases a with
      | zero => omega
      | succ a =>
        simp only [List.length_cons] at ha
        rw [List.getD_cons_succ]
        obtain ⟨e1, l1⟩ := sh _ a hl (by omega)
        cases b with
        | zero =>
          rw [List.getD_cons_zero, e1]
          refine ⟨l1, ?_⟩
          have hm : (apartGo r (i + 1) taken out (used ||| andn s out)).getD a 0 ∈ apartGo r (i + 1) taken out (used ||| andn s out) := by
            rw [List.getD_eq_getElem?_getD, List.getElem?_eq_getElem (by omega)]; exact List.getElem_mem _
          have h4 := (hmem _ hm).2.2.2
          rw [Nat.sub_self, List.getD_cons_zero]
          refine (zero_iff _).2 fun j => ?_
          rw [andn_test, Nat.testBit_and]
          cases h1 : (r.getD ((apartGo r (i + 1) taken out (used ||| andn s out)).getD a 0 - (i + 1)) 0).testBit j with
          | false => rfl
          | true =>
            cases h2 : s.testBit j with
            | false => rfl
            | true =>
              cases h3 : out.testBit j with
              | true => rfl
              | false =>
                have := (and_zero_iff _ _).1 h4 j (by rw [andn_test, h1, h3]; rfl)
                rw [Nat.testBit_or, andn_test, h2, h3] at this
                simp at this
        | succ b =>
          rw [List.getD_cons_succ]
          obtain ⟨e2, _⟩ := sh _ b hl (by omega)
          rw [e1, e2]
          exact ih _ _ _ _ a b (by omega) (by omega)
    · rename_i hs
      rw [if_neg hs] at ha
      have hl : ∀ x ∈ apartGo r (i + 1) taken out used, i + 1 ≤ x := fun x hx => (apartGo_mem r (i + 1) taken out used x hx).1
      obtain ⟨e1, _⟩ := sh _ a hl ha
      obtain ⟨e2, _⟩ := sh _ b hl (by omega)
      rw [e1, e2]
      exact ih _ _ _ _ a b hba ha
theorem bestGo_inl (ws : List Nat) : ∀ (i taken out best k : Nat), bestGo ws i taken out best = .inl k → i ≤ k ∧ k < i + ws.length ∧ ws.getD (k - i) 0 &&& taken = 0 ∧ andn (ws.getD (k - i) 0) out = 0 := by
  induction ws with
  | nil => intro i taken out best k h; cases h
  | cons s r ih =>
    intro i taken out best k h
    unfold bestGo at h
    have go : ∀ b, bestGo r (i + 1) taken out b = .inl k → i ≤ k ∧ k < i + (s :: r).length ∧ (s :: r).getD (k - i) 0 &&& taken = 0 ∧ andn ((s :: r).getD (k - i) 0) out = 0 := by
      intro b hb
      obtain ⟨h1, h2, h3, h4⟩ := ih _ _ _ _ _ hb
      refine ⟨by omega, by simp only [List.length_cons]; omega, ?_⟩
      rw [show k - i = (k - (i + 1)) + 1 from by omega, List.getD_cons_succ]
      exact ⟨h3, h4⟩
    split at h
    · exact go _ h
    · rename_i h1
      split at h
      · rename_i h2
        injection h with h
        subst h
        simp
        exact ⟨by simpa using h1, h2⟩
      · exact go _ h
theorem bestGo_inr (ws : List Nat) : ∀ (i taken out best b : Nat), bestGo ws i taken out best = .inr b →
    (b = best ∨ ∃ s ∈ ws, s &&& taken = 0 ∧ b = andn s out ∧ b ≠ 0) ∧ (b = 0 → best = 0 ∧ ∀ s ∈ ws, s &&& taken ≠ 0) := by
  induction ws with
  | nil => intro i taken out best b h; injection h with h; subst h; exact ⟨.inl rfl, fun h => ⟨h, by simp⟩⟩
  | cons s r ih =>
    intro i taken out best b h
    unfold bestGo at h
    split at h
    · rename_i h1
      obtain ⟨q1, q2⟩ := ih _ _ _ _ _ h
      refine ⟨?_, fun hb => ⟨(q2 hb).1, fun t ht => ?_⟩⟩
      · rcases q1 with q | ⟨t, ht, q⟩
        · exact .inl q
        · exact .inr ⟨t, by simp [ht], q⟩
      · simp only [List.mem_cons] at ht
        rcases ht with rfl | ht
        · exact h1
        · exact (q2 hb).2 t ht
    · rename_i h1
      split at h
      · cases h
      · rename_i h2
        obtain ⟨q1, q2⟩ := ih _ _ _ _ _ h
        refine ⟨?_, fun hb => ?_⟩
        · rcases q1 with q | ⟨t, ht, q⟩
          · split at q
            · exact .inr ⟨s, by simp, by simpa using h1, q, by rw [q]; exact h2⟩
            · exact .inl q
          · exact .inr ⟨t, by simp [ht], q⟩
        · have := (q2 hb).1
          split at this
          · exact absurd this h2
          · rename_i h3
            exact absurd (.inl this) h3
theorem tz_test {w : Nat} (h0 : w ≠ 0) (h : w < 2 ^ 64) : w.testBit (tz w) = true := by
  have hne : members w ≠ [] := by
    intro e
    refine h0 ((zero_iff w).2 fun i => ?_)
    rw [← members_contains h, e]; rfl
  unfold tz
  cases hm : members w with
  | nil => exact absurd hm hne
  | cons x l =>
    have : x ∈ members w := by rw [hm]; simp
    exact (mem_members.1 this).2
theorem free_lt {n w p : Nat} (hp : p < n) (h : w.testBit p = false) : free n (w ||| bit p) + 1 ≤ free n w :=
  filter_drop _ _ _ p (by simpa using hp) (by simp [h]) (by simp [bit_test]) fun y hy => by simp at hy ⊢; exact hy.1
theorem leaf_one {ws : List Nat} {size : Int} {taken out i : Nat} (h1 : i < ws.length) (h2 : ws.getD i 0 &&& taken = 0) (h3 : andn (ws.getD i 0) out = 0) : leafR ws size ([i].map fun x : Nat => (x : Int)) taken out = true := by
  rw [List.getD_eq_getElem?_getD] at h2 h3
  simp [leafR, h2, h3]
  omega
theorem getD_map_int (l : List Nat) (i : Nat) : (l.map fun x : Nat => (x : Int)).getD i 0 = (l.getD i 0 : Int) := by
  induction l generalizing i with
  | nil => simp
  | cons x l ih =>
    cases i with
    | zero => rfl
    | succ i => rw [List.map_cons, List.getD_cons_succ, List.getD_cons_succ]; exact ih i
theorem leaf_apart {ws : List Nat} {size : Int} {taken out : Nat} (h : ((apart ws taken out).length : Int) + pop taken ≥ size) : leafR ws size ((apart ws taken out).map fun x : Nat => (x : Int)) taken out = true := by
  have hm := apartGo_mem ws 0 taken out 0
  have hp := apartGo_pairs ws 0 taken out 0
  unfold leafR
  rw [Bool.and_eq_true]
  constructor
  · rw [List.all_map, List.all_eq_true]
    intro x hx
    obtain ⟨_, h2, h3, _⟩ := hm x hx
    simp only [Nat.sub_zero] at h3
    rw [List.getD_eq_getElem?_getD] at h3
    simp [h3]
    omega
  · rw [Bool.or_eq_true]
    right
    rw [Bool.and_eq_true]
    constructor
    · unfold apartR
      simp only [List.all_eq_true, List.mem_range, List.length_map, getD_map_int, Int.toNat_natCast, Bool.and_eq_true, bne_iff_ne, beq_iff_eq]
      intro a ha b hb
      obtain ⟨q1, q2⟩ := hp a b hb ha
      simp only [Nat.sub_zero] at q2
      exact ⟨by unfold apart; omega, q2⟩
    · simp only [List.length_map, decide_eq_true_eq]
      omega
theorem getD_set_ne {α : Type} (l : List α) (i j : Nat) (x d : α) (h : i ≠ j) : (l.set i x).getD j d = l.getD j d := by
  rw [List.getD_eq_getElem?_getD, List.getD_eq_getElem?_getD, List.getElem?_set_ne h]
theorem getD_set_eq {α : Type} (l : List α) (i : Nat) (x d : α) (h : i < l.length) : (l.set i x).getD i d = x := by
  rw [List.getD_eq_getElem?_getD, List.getElem?_set_self h]; rfl
/-- Arrays that are the same but for places from a to less than b. -/
def Same (a b : Nat) (tk ot : List Nat) (re : List Bool) (tk' ot' : List Nat) (re' : List Bool) : Prop :=
  (tk'.length = tk.length ∧ ot'.length = ot.length ∧ re'.length = re.length) ∧ ∀ j, j < a ∨ b ≤ j → tk'.getD j 0 = tk.getD j 0 ∧ ot'.getD j 0 = ot.getD j 0 ∧ re'.getD j false = re.getD j false
theorem nodeF_pos (ws : List Nat) (size : Int) (d at_ taken out : Nat) : 0 < (nodeF ws size (d + 1) at_ taken out).length := by
  unfold nodeF
  split
  · simp
  · split <;> simp
theorem node_tree {ws : List Nat} {n : Nat} {size : Int} (hg : Good ws n) (hn : n ≤ 64) (hsz : ∀ Y, Ok ws 0 0 n Y.length Y → size ≤ Y.length) (len : Nat) :
    ∀ (d at_ taken out : Nat) (post : List TNode) (tk ot : List Nat) (re : List Bool), free n (taken ||| out) < d → taken < 2 ^ n → out < 2 ^ n → at_ + (nodeF ws size d at_ taken out).length ≤ len →
      tk.length = len → ot.length = len → re.length = len → tk.getD at_ 0 = taken → ot.getD at_ 0 = out → re.getD at_ false = true → (∀ j, at_ < j → j < at_ + (nodeF ws size d at_ taken out).length → re.getD j false = false) →
      ∃ tk' ot' re', Same (at_ + 1) (at_ + (nodeF ws size d at_ taken out).length) tk ot re tk' ot' re' ∧
        treeGo ws n size len (nodeF ws size d at_ taken out ++ post) at_ tk ot re = treeGo ws n size len post (at_ + (nodeF ws size d at_ taken out).length) tk' ot' re' := by
  intro d
  induction d with
  | zero => intro at_ taken out post tk ot re h; omega
  | succ d ih =>
    intro at_ taken out post tk ot re hfr ht ho hlen l1 l2 l3 e1 e2 e3 hre
    have one : ∀ l : List Nat, nodeF ws size (d + 1) at_ taken out = [leafN l] → leafR ws size (l.map fun x : Nat => (x : Int)) taken out = true → ∃ tk' ot' re', Same (at_ + 1) (at_ + (nodeF ws size (d + 1) at_ taken out).length) tk ot re tk' ot' re' ∧
        treeGo ws n size len (nodeF ws size (d + 1) at_ taken out ++ post) at_ tk ot re = treeGo ws n size len post (at_ + (nodeF ws size (d + 1) at_ taken out).length) tk' ot' re' := by
      intro l hl hleaf
      refine ⟨tk, ot, re, ⟨⟨rfl, rfl, rfl⟩, fun j _ => ⟨rfl, rfl, rfl⟩⟩, ?_⟩
      rw [hl]
      simp only [List.cons_append, List.nil_append, List.length_cons, List.length_nil]
      rw [treeGo, if_neg (by rw [e3]; simp), if_pos ⟨rfl, rfl⟩, e1, e2]
      simp only [leafN, hleaf, Bool.true_and, Nat.zero_add]
    cases hb : bestGo ws 0 taken out 0 with
    | inl i =>
      obtain ⟨_, q2, q3, q4⟩ := bestGo_inl ws 0 taken out 0 i hb
      simp only [Nat.sub_zero] at q3 q4
      exact one [i] (by unfold nodeF; rw [hb]) (leaf_one (by omega) q3 q4)
    | inr best =>
      obtain ⟨hb1, hb2⟩ := bestGo_inr ws 0 taken out 0 best hb
      by_cases hc : ((apart ws taken out).length : Int) + pop taken ≥ size ∨ best = 0
      · refine one (apart ws taken out) (by unfold nodeF; rw [hb]; simp only [hc, if_true]) (leaf_apart ?_)
        rcases hc with hc | hc
        · exact hc
        · have hall := (hb2 hc).2
          have h64 : taken < 2 ^ 64 := Nat.lt_of_lt_of_le ht (Nat.pow_le_pow_right (by decide) hn)
          have hok : Ok ws 0 0 n (members taken).length (members taken) := by
            refine ⟨inc_members _, fun x hx => ?_, by omega, by rw [Nat.zero_or, word_members h64, hit_iff]; exact hall⟩
            have hx2 := (mem_members.1 hx).2
            rcases Nat.lt_or_ge x n with hl | hl
            · omega
            · rw [test_of_lt ht hl] at hx2; cases hx2
          have := hsz _ hok
          unfold pop
          omega
      · have hbest : best ≠ 0 := fun e => hc (.inr e)
        obtain ⟨s, hs, hst, hse, _⟩ : ∃ s ∈ ws, s &&& taken = 0 ∧ best = andn s out ∧ best ≠ 0 := by
          rcases hb1 with h | h
          · exact absurd h hbest
          · exact h
        have hsn := (hg s hs).2
        have hbn : best < 2 ^ n := by rw [hse]; exact andn_lt hsn
        have hp := tz_test hbest (Nat.lt_of_lt_of_le hbn (Nat.pow_le_pow_right (by decide) hn))
        have hpn : tz best < n := by
          rcases Nat.lt_or_ge (tz best) n with hl | hl
          · exact hl
          · rw [test_of_lt hbn hl] at hp; cases hp
        rw [hse, andn_test] at hp
        simp only [Bool.and_eq_true, Bool.not_eq_true'] at hp
        rw [← hse] at hp
        have hpt := (and_zero_iff _ _).1 hst _ hp.1
        have hpo := hp.2
        have hfree : (taken ||| out).testBit (tz best) = false := by rw [Nat.testBit_or, hpt, hpo]; rfl
        have hf2 := free_lt hpn hfree
        have eN : nodeF ws size (d + 1) at_ taken out = ⟨tz best, (at_ + 1 : Nat), (at_ + 1 + (nodeF ws size d (at_ + 1) (taken ||| bit (tz best)) out).length : Nat), 0, []⟩ :: (nodeF ws size d (at_ + 1) (taken ||| bit (tz best)) out ++ nodeF ws size d (at_ + 1 + (nodeF ws size d (at_ + 1) (taken ||| bit (tz best)) out).length) taken (out ||| bit (tz best))) := by
          conv => lhs; unfold nodeF
          rw [hb]
          simp only [hc, if_false]
        generalize hpk : tz best = p at *
        have f1 : free n (taken ||| bit p ||| out) < d := by
          rw [Nat.or_assoc, Nat.or_comm (bit p), ← Nat.or_assoc]; omega
        have f2 : free n (taken ||| (out ||| bit p)) < d := by
          rw [← Nat.or_assoc]; omega
        have hd : 0 < d := by omega
        have hy0 : 0 < (nodeF ws size d (at_ + 1) (taken ||| bit p) out).length := by obtain ⟨d', rfl⟩ := Nat.exists_eq_add_of_lt hd; simp only [Nat.zero_add]; exact nodeF_pos _ _ _ _ _ _
        rw [eN] at hlen hre ⊢
        have ihY := ih (at_ + 1) (taken ||| bit p) out
        generalize nodeF ws size d (at_ + 1) (taken ||| bit p) out = ys at *
        have ihN := ih (at_ + 1 + ys.length) taken (out ||| bit p)
        have hn0 : 0 < (nodeF ws size d (at_ + 1 + ys.length) taken (out ||| bit p)).length := by obtain ⟨d', rfl⟩ := Nat.exists_eq_add_of_lt hd; simp only [Nat.zero_add]; exact nodeF_pos _ _ _ _ _ _
        generalize nodeF ws size d (at_ + 1 + ys.length) taken (out ||| bit p) = ns at *
        simp only [List.length_cons, List.length_append] at hlen hre ⊢
        have hbit : bit p < 2 ^ n := bit_lt hpn
        have t1 : ∀ l : List Nat, l.length = len → ∀ x y : Nat, ((l.set (at_ + 1) x).set (at_ + 1 + ys.length) y).getD (at_ + 1) 0 = x := fun l hl x y => by
          rw [getD_set_ne _ _ _ _ _ (by omega), getD_set_eq _ _ _ _ (by omega)]
        have t2 : ∀ l : List Nat, l.length = len → ∀ x y : Nat, ((l.set (at_ + 1) x).set (at_ + 1 + ys.length) y).getD (at_ + 1 + ys.length) 0 = y := fun l hl x y => by
          rw [getD_set_eq _ _ _ _ (by simp; omega)]
        have t3 : ∀ l : List Nat, ∀ x y : Nat, ∀ j, j ≠ at_ + 1 → j ≠ at_ + 1 + ys.length → ((l.set (at_ + 1) x).set (at_ + 1 + ys.length) y).getD j 0 = l.getD j 0 := fun l x y j h1 h2 => by
          rw [getD_set_ne _ _ _ _ _ (by omega), getD_set_ne _ _ _ _ _ (by omega)]
        have t4 : ∀ j, j ≠ at_ + 1 → j ≠ at_ + 1 + ys.length → ((re.set (at_ + 1) true).set (at_ + 1 + ys.length) true).getD j false = re.getD j false := fun j h1 h2 => by
          rw [getD_set_ne _ _ _ _ _ (by omega), getD_set_ne _ _ _ _ _ (by omega)]
        obtain ⟨tk1, ot1, re1, S1, g1⟩ := ihY (ns ++ post) ((tk.set (at_ + 1) (taken ||| bit p)).set (at_ + 1 + ys.length) taken) ((ot.set (at_ + 1) out).set (at_ + 1 + ys.length) (out ||| bit p)) ((re.set (at_ + 1) true).set (at_ + 1 + ys.length) true)
          f1 (or_lt ht hbit) ho (by omega) (by simpa using l1) (by simpa using l2) (by simpa using l3) (t1 _ l1 _ _) (t1 _ l2 _ _) (by rw [getD_set_ne _ _ _ _ _ (by omega), getD_set_eq _ _ _ _ (by omega)])
          (fun j h1 h2 => by rw [t4 j (by omega) (by omega)]; exact hre j (by omega) (by omega))
        obtain ⟨⟨m1, m2, m3⟩, S1⟩ := S1
        simp only [List.length_set] at m1 m2 m3
        obtain ⟨tk2, ot2, re2, S2, g2⟩ := ihN post tk1 ot1 re1 f2 ht (or_lt ho hbit) (by omega) (by omega) (by omega) (by omega)
          (by rw [(S1 _ (.inr (Nat.le_refl _))).1, t2 _ l1]) (by rw [(S1 _ (.inr (Nat.le_refl _))).2.1, t2 _ l2]) (by rw [(S1 _ (.inr (Nat.le_refl _))).2.2, getD_set_eq _ _ _ _ (by simp; omega)])
          (fun j h1 h2 => by rw [(S1 j (.inr (by omega))).2.2, t4 j (by omega) (by omega)]; exact hre j (by omega) (by omega))
        obtain ⟨⟨k1, k2, k3⟩, S2⟩ := S2
        refine ⟨tk2, ot2, re2, ⟨⟨by omega, by omega, by omega⟩, fun j hj => ?_⟩, ?_⟩
        · obtain ⟨a1, a2, a3⟩ := S2 j (by omega)
          obtain ⟨b1, b2, b3⟩ := S1 j (by omega)
          rw [a1, a2, a3, b1, b2, b3]
          exact ⟨t3 _ _ _ j (by omega) (by omega), t3 _ _ _ j (by omega) (by omega), t4 j (by omega) (by omega)⟩
        · simp only [List.cons_append, List.append_assoc]
          rw [treeGo, if_neg (by rw [e3]; simp), if_neg (by simp only [not_and]; omega), if_neg, if_neg]
          · simp only [Int.toNat_natCast, e1, e2]
            rw [g1, g2]
            congr 1
            omega
          · simp only [Int.toNat_natCast, e1, e2, hfree]
            simp
            omega
          · simp only [Int.toNat_natCast]
            rw [hre (at_ + 1) (by omega) (by omega), hre (at_ + 1 + ys.length) (by omega) (by omega)]
            simp
            omega
theorem prove_tree {ws : List Nat} {n : Nat} {size : Int} (hg : Good ws n) (hn : n ≤ 64) (hsz : ∀ Y, Ok ws 0 0 n Y.length Y → size ≤ Y.length) (d : Nat) (hd : n < d) : treeF ws n size (nodeF ws size d 0 0 0) = true := by
  have hd0 : 0 < (nodeF ws size d 0 0 0).length := by obtain ⟨d', rfl⟩ := Nat.exists_eq_add_of_lt (Nat.lt_of_le_of_lt (Nat.zero_le n) hd); simp only [Nat.zero_add]; exact nodeF_pos _ _ _ _ _ _
  have hfr : free n (0 ||| 0) < d := Nat.lt_of_le_of_lt (by unfold free; exact Nat.le_trans (List.length_filter_le _ _) (by simp)) hd
  have h := node_tree hg hn hsz (nodeF ws size d 0 0 0).length d 0 0 0 [] (List.replicate (nodeF ws size d 0 0 0).length 0) (List.replicate (nodeF ws size d 0 0 0).length 0) ((List.replicate (nodeF ws size d 0 0 0).length false).set 0 true) hfr (Nat.two_pow_pos n) (Nat.two_pow_pos n) (by omega) (by simp) (by simp) (by simp)
    (by simp [List.getD_eq_getElem?_getD, hd0]) (by simp [List.getD_eq_getElem?_getD, hd0]) (by rw [getD_set_eq _ _ _ _ (by simpa using hd0)])
    (fun j h1 h2 => by rw [getD_set_ne _ _ _ _ _ (by omega)]; simp [List.getD_eq_getElem?_getD, List.getElem?_replicate]; split <;> rfl)
  obtain ⟨tk', ot', re', _, h⟩ := h
  unfold treeF
  rw [List.append_nil] at h
  rw [h]
  rfl
end Hit
end Go.Proofs.YtiochodepgldpaaDoor
