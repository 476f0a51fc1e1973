/- Plain: the order of chains; all chains, in order. -/
import Derived.Test.YtahlfndlkfoikaaDoorEp
namespace Go.Proofs.YtahlfndlkfoikaaDoor
open Go Go.RowKit
namespace Cha
open Cou
def lexF : List Int → List Int → Bool
  | x :: a, y :: b => if x = y then lexF a b else decide (x < y)
  | _, _ => false
/-- Does a list of couplers come before another one? -/
def lessF (a b : List Int) : Bool := if a.length = b.length then lexF a b else decide (a.length < b.length)
theorem lexF_irrefl : ∀ a : List Int, lexF a a = false
  | [] => rfl
  | x :: a => by rw [lexF, if_pos rfl]; exact lexF_irrefl a
theorem lexF_trans : ∀ a b c : List Int, lexF a b = true → lexF b c = true → lexF a c = true
  | [], _, _, h, _ => by cases h
  | _ :: _, [], _, h, _ => by cases h
  | _ :: _, _ :: _, [], _, h => by cases h
  | x :: a, y :: b, z :: c, h1, h2 => by
    rw [lexF] at h1 h2 ⊢
    split at h1
    · rename_i e
      subst e
      split at h2
      · rename_i e
        rw [if_pos e]
        exact lexF_trans a b c h1 h2
      · rename_i e
        rw [if_neg e]; exact h2
    · rename_i e
      have h1 := of_decide_eq_true h1
      split at h2
      · rename_i e2
        subst e2
        rw [if_neg e]; exact decide_eq_true h1
      · have h2 := of_decide_eq_true h2
        rw [if_neg (by omega)]
        exact decide_eq_true (by omega)
theorem lexF_tri : ∀ a b : List Int, a.length = b.length → lexF a b = true ∨ a = b ∨ lexF b a = true
  | [], [], _ => .inr (.inl rfl)
  | [], _ :: _, h => by cases h
  | _ :: _, [], h => by cases h
  | x :: a, y :: b, h => by
    rw [lexF, lexF]
    by_cases e : x = y
    · subst e
      rw [if_pos rfl, if_pos rfl]
      rcases lexF_tri a b (by simpa using h) with q | q | q
      · exact .inl q
      · exact .inr (.inl (by rw [q]))
      · exact .inr (.inr q)
    · rw [if_neg e, if_neg (fun h => e h.symm)]
      by_cases l : x < y
      · exact .inl (decide_eq_true l)
      · exact .inr (.inr (decide_eq_true (by omega)))
theorem lexF_snoc : ∀ (a b : List Int) (x y : Int), a.length = b.length → lexF (a ++ [x]) (b ++ [y]) = if a = b then decide (x < y) else lexF a b
  | [], [], x, y, _ => by
    rw [if_pos rfl, List.nil_append, List.nil_append, lexF]
    by_cases e : x = y
    · subst e; rw [if_pos rfl, decide_eq_false (by omega)]; rfl
    · rw [if_neg e]
  | [], _ :: _, _, _, h => by cases h
  | _ :: _, [], _, _, h => by cases h
  | u :: a, v :: b, x, y, h => by
    rw [List.cons_append, List.cons_append, lexF, lexF, lexF_snoc a b x y (by simpa using h)]
    by_cases e : u = v
    · subst e
      simp only [if_true, List.cons.injEq, true_and]
    · rw [if_neg e, if_neg e, if_neg (fun h => e (List.cons.inj h).1)]
theorem lessF_irrefl (a : List Int) : lessF a a = false := by unfold lessF; rw [if_pos rfl]; exact lexF_irrefl a
theorem lessF_trans {a b c : List Int} (h1 : lessF a b = true) (h2 : lessF b c = true) : lessF a c = true := by
  unfold lessF at *
  split at h1 <;> split at h2 <;> rename_i e1 e2
  · rw [if_pos (e1.trans e2)]; exact lexF_trans a b c h1 h2
  · have := of_decide_eq_true h2
    rw [if_neg (by omega)]; exact decide_eq_true (by omega)
  · have := of_decide_eq_true h1
    rw [if_neg (by omega)]; exact decide_eq_true (by omega)
  · have := of_decide_eq_true h1
    have := of_decide_eq_true h2
    rw [if_neg (by omega)]; exact decide_eq_true (by omega)
theorem lessF_tri (a b : List Int) : lessF a b = true ∨ a = b ∨ lessF b a = true := by
  unfold lessF
  by_cases e : a.length = b.length
  · rw [if_pos e, if_pos e.symm]; exact lexF_tri a b e
  · rw [if_neg e, if_neg (fun h => e h.symm)]
    by_cases l : a.length < b.length
    · exact .inl (decide_eq_true l)
    · exact .inr (.inr (decide_eq_true (by omega)))
theorem lessF_asymm {a b : List Int} (h1 : lessF a b = true) : lessF b a = false := by
  cases h2 : lessF b a with
  | false => rfl
  | true => have := lessF_trans h1 h2; rw [lessF_irrefl] at this; cases this
theorem lessF_len {a b : List Int} (h : a.length < b.length) : lessF a b = true := by
  unfold lessF; rw [if_neg (by omega)]; exact decide_eq_true h
theorem lessF_snoc {a b : List Int} (h : lessF a b = true) (x y : Int) : lessF (a ++ [x]) (b ++ [y]) = true := by
  unfold lessF at *
  rw [List.length_append, List.length_append]
  split at h
  · rename_i e
    rw [if_pos (by simp [e]), lexF_snoc a b x y e, if_neg (fun e2 => by subst e2; rw [lexF_irrefl] at h; cases h)]
    exact h
  · rename_i e
    have := of_decide_eq_true h
    rw [if_neg (by simp; omega)]; exact decide_eq_true (by simp; omega)
theorem lessF_same (a : List Int) {x y : Int} (h : x < y) : lessF (a ++ [x]) (a ++ [y]) = true := by
  unfold lessF
  rw [if_pos (by simp), lexF_snoc a a x y rfl, if_pos rfl]
  exact decide_eq_true h
/-- A chain of a key, and the contacts that it reaches. -/
inductive IsCh (a : Ac) (key : Ct) : List Int → List Ct → Prop
  | one {i : Nat} {t : Ct} : a.drawn.testBit i = true → stepF a i key = some t → IsCh a key [(i : Int)] [t]
  | snoc {cs : List Int} {ts : List Ct} {i : Nat} {t : Ct} : IsCh a key cs ts → a.drawn.testBit i = true → thruF a i = true → stepF a i (lastF ts) = some t → t ∉ ts → IsCh a key (cs ++ [(i : Int)]) (ts ++ [t])
theorem stepF_lt {a : Ac} {i : Nat} {c t : Ct} (h : stepF a i c = some t) : i < a.cps.length := by
  unfold stepF at h
  cases hx : a.cps[i]? with
  | none => rw [hx] at h; cases h
  | some x => exact (List.getElem?_eq_some_iff.1 hx).1
theorem oneMoreF_of {a : Ac} {x : Lk} {at_ t : Ct} {i : Nat} (h1 : a.drawn.testBit i = true) (h2 : x.1 = [] ∨ thruF a i = true) (h3 : stepF a i at_ = some t) (h4 : t ∉ x.2) : oneMoreF a x at_ i = some (x.1 ++ [(i : Int)], x.2 ++ [t]) := by
  unfold oneMoreF
  rw [if_pos ⟨h1, h2⟩, h3]
  simp only
  rw [if_neg h4]
theorem moreF_mem {a : Ac} {x y : Lk} {at_ : Ct} : y ∈ moreF a x at_ ↔ ∃ i t, a.drawn.testBit i = true ∧ (x.1 = [] ∨ thruF a i = true) ∧ stepF a i at_ = some t ∧ t ∉ x.2 ∧ y = (x.1 ++ [(i : Int)], x.2 ++ [t]) := by
  unfold moreF
  rw [List.mem_filterMap]
  constructor
  · rintro ⟨i, _, h⟩
    exact ⟨i, oneMoreF_eq h⟩
  · rintro ⟨i, t, h1, h2, h3, h4, rfl⟩
    exact ⟨i, List.mem_range.2 (stepF_lt h3), oneMoreF_of h1 h2 h3 h4⟩
/-- Chains in order. -/
abbrev SrtL (q : List Lk) : Prop := q.Pairwise fun x y => lessF x.1 y.1 = true
theorem moreF_srt (a : Ac) (x : Lk) (at_ : Ct) : SrtL (moreF a x at_) := by
  unfold moreF SrtL
  rw [List.pairwise_filterMap]
  refine List.Pairwise.imp ?_ (List.pairwise_lt_range (n := a.cps.length))
  intro i j hij y hy z hz
  obtain ⟨_, _, _, _, _, rfl⟩ := oneMoreF_eq hy
  obtain ⟨_, _, _, _, _, rfl⟩ := oneMoreF_eq hz
  exact lessF_same _ (by omega)
def extF (a : Ac) (x : Lk) : List Lk := moreF a x (lastF x.2)
def begF (a : Ac) (key : Ct) : List Lk := moreF a ([], []) key
/-- The queue behind i of its own. -/
structure QI (a : Ac) (key : Ct) (i : Nat) (q : List Lk) : Prop where
  eq : q = begF a key ++ (q.take i).flatMap (extF a)
  srt : SrtL q
  le : i ≤ q.length
theorem begF_mem {a : Ac} {key : Ct} {y : Lk} (h : y ∈ begF a key) : IsCh a key y.1 y.2 ∧ y.1.length = 1 := by
  obtain ⟨i, t, h1, _, h3, _, rfl⟩ := moreF_mem.1 h
  exact ⟨.one h1 h3, rfl⟩
theorem IsCh.ne {a : Ac} {key : Ct} {cs : List Int} {ts : List Ct} (h : IsCh a key cs ts) : cs ≠ [] := by
  cases h <;> simp
theorem IsCh.len {a : Ac} {key : Ct} {cs : List Int} {ts : List Ct} (h : IsCh a key cs ts) : cs.length = ts.length := by
  induction h with
  | one _ _ => rfl
  | snoc _ _ _ _ _ ih => simp [ih]
theorem extF_mem {a : Ac} {key : Ct} {x y : Lk} (hx : IsCh a key x.1 x.2) (h : y ∈ extF a x) : IsCh a key y.1 y.2 ∧ ∃ c : Int, y.1 = x.1 ++ [c] := by
  obtain ⟨i, t, h1, h2, h3, h4, rfl⟩ := moreF_mem.1 h
  rcases h2 with h2 | h2
  · exact absurd h2 hx.ne
  · exact ⟨.snoc hx h1 h2 h3 h4, _, rfl⟩
theorem QI.ch {a : Ac} {key : Ct} : ∀ {i : Nat} {q : List Lk}, QI a key i q → ∀ y ∈ q, IsCh a key y.1 y.2 := by
  intro i q h
  -- by the place of y in q
  have hk : ∀ n, ∀ k, k ≤ n → ∀ hk : k < q.length, IsCh a key q[k].1 q[k].2 := by
    intro n
    induction n with
    | zero =>
      intro k hk0 hkq
      have hm : q[k] ∈ begF a key ++ (q.take i).flatMap (extF a) := h.eq ▸ List.getElem_mem hkq
      rcases List.mem_append.1 hm with e | e
      · exact (begF_mem e).1
      · exfalso
        obtain ⟨x, hx, hy⟩ := List.mem_flatMap.1 e
        have hxq : x ∈ q := List.mem_of_mem_take hx
        obtain ⟨i2, t2, _, _, _, _, e2⟩ := moreF_mem.1 hy
        have hl : lessF x.1 q[k].1 = true := by rw [e2]; exact lessF_len (by simp)
        obtain ⟨j, hj, rfl⟩ := List.getElem_of_mem hxq
        have hk00 : k = 0 := by omega
        subst hk00
        rcases Nat.eq_zero_or_pos j with rfl | hj0
        · rw [lessF_irrefl] at hl; cases hl
        · have := List.pairwise_iff_getElem.1 h.srt 0 j hkq hj hj0
          rw [lessF_asymm hl] at this; cases this
    | succ n ih =>
      intro k hkn hkq
      have hm : q[k] ∈ begF a key ++ (q.take i).flatMap (extF a) := h.eq ▸ List.getElem_mem hkq
      rcases List.mem_append.1 hm with e | e
      · exact (begF_mem e).1
      · obtain ⟨x, hx, hy⟩ := List.mem_flatMap.1 e
        have hxq : x ∈ q := List.mem_of_mem_take hx
        obtain ⟨i2, t2, _, _, _, _, e2⟩ := moreF_mem.1 hy
        have hl : lessF x.1 q[k].1 = true := by rw [e2]; exact lessF_len (by simp)
        obtain ⟨j, hj, rfl⟩ := List.getElem_of_mem hxq
        have hjk : j < k := by
          rcases Nat.lt_trichotomy j k with q1 | q1 | q1
          · exact q1
          · subst q1; rw [lessF_irrefl] at hl; cases hl
          · have := List.pairwise_iff_getElem.1 h.srt k j hkq hj q1
            rw [lessF_asymm hl] at this; cases this
        exact (extF_mem (ih j (by omega) hj) hy).1
  intro y hy
  obtain ⟨k, hkq, rfl⟩ := List.getElem_of_mem hy
  exact hk k k (Nat.le_refl _) hkq
theorem QI.start (a : Ac) (key : Ct) : QI a key 0 (begF a key) := ⟨by simp, moreF_srt _ _ _, Nat.zero_le _⟩
theorem QI.next {a : Ac} {key : Ct} {i : Nat} {q : List Lk} (h : QI a key i q) (hi : i < q.length) : QI a key (i + 1) (q ++ extF a q[i]) := by
  refine ⟨?_, ?_, by simp; omega⟩
  · rw [List.take_append_of_le_length (by omega), List.take_add_one, List.getElem?_eq_getElem hi, Option.toList_some, List.flatMap_append]
    rw [← List.append_assoc, ← h.eq]
    simp
  · unfold SrtL
    rw [List.pairwise_append]
    refine ⟨h.srt, moreF_srt _ _ _, fun y hy z hz => ?_⟩
    have hqi := h.ch q[i] (List.getElem_mem hi)
    obtain ⟨_, c, hc⟩ := extF_mem hqi hz
    rw [hc]
    have hm : y ∈ begF a key ++ (q.take i).flatMap (extF a) := h.eq ▸ hy
    rcases List.mem_append.1 hm with e | e
    · refine lessF_len ?_
      rw [(begF_mem e).2, List.length_append]
      have := List.length_pos_iff.2 hqi.ne
      simp
      omega
    · obtain ⟨x, hx, hy2⟩ := List.mem_flatMap.1 e
      obtain ⟨j, hj, hxe⟩ := List.getElem_of_mem hx
      have hj1 : j < i := by simp at hj; omega
      have hj2 : j < q.length := by omega
      have hxe2 : q[j] = x := by rw [← hxe, List.getElem_take]
      obtain ⟨_, d, hd⟩ := extF_mem (h.ch x (hxe2 ▸ List.getElem_mem hj2)) hy2
      rw [hd, ← hxe2]
      exact lessF_snoc (List.pairwise_iff_getElem.1 h.srt j i hj2 hi hj1) _ _
theorem queF_spec (a : Ac) (key : Ct) : ∀ (f i : Nat) (q : List Lk), QI a key i q → ∀ Q, queF a f i q = some Q → QI a key Q.length Q
  | 0, _, _, _, _, h => by cases h
  | f + 1, i, q, hq, Q, h => by
    unfold queF at h
    cases hx : q[i]? with
    | none =>
      rw [hx] at h
      injection h with h
      subst h
      have : q.length ≤ i := List.getElem?_eq_none_iff.1 hx
      have e : i = q.length := by have := hq.le; omega
      rw [← e]; exact hq
    | some x =>
      rw [hx] at h
      obtain ⟨hi, rfl⟩ := List.getElem?_eq_some_iff.1 hx
      simp only at h
      split at h
      · cases h
      · exact queF_spec a key f (i + 1) _ (hq.next hi) Q h
/-- The queue at its end holds all chains. -/
theorem QI.all {a : Ac} {key : Ct} {Q : List Lk} (h : QI a key Q.length Q) {cs : List Int} {ts : List Ct} (hc : IsCh a key cs ts) : (cs, ts) ∈ Q := by
  have he := h.eq
  rw [List.take_length] at he
  induction hc with
  | one h1 h2 =>
    rw [he]
    exact List.mem_append.2 (.inl (moreF_mem.2 ⟨_, _, h1, .inl rfl, h2, by simp, rfl⟩))
  | snoc _ h1 h2 h3 h4 ih =>
    rw [he]
    exact List.mem_append.2 (.inr (List.mem_flatMap.2 ⟨_, ih, moreF_mem.2 ⟨_, _, h1, .inr h2, h3, h4, rfl⟩⟩))
theorem nodup_le : ∀ (l A : List (List Int)), l.Nodup → (∀ x ∈ l, x ∈ A) → l.length ≤ A.length
  | [], _, _, _ => Nat.zero_le _
  | x :: l, A, hn, h => by
    have hx := h x (by simp)
    have hn' := List.nodup_cons.1 hn
    have := nodup_le l (A.erase x) hn'.2 fun y hy => (List.mem_erase_of_ne (fun e => by subst e; exact hn'.1 hy)).2 (h y (by simp [hy]))
    rw [List.length_erase_of_mem hx] at this
    have := List.length_pos_of_mem hx
    simp only [List.length_cons]
    omega
/-- Where there are few chains the queue comes to its end. -/
theorem queF_some (a : Ac) (key : Ct) (A : List (List Int)) (hA : ∀ cs ts, IsCh a key cs ts → cs ∈ A) (hl : A.length ≤ 2000) : ∀ (f i : Nat) (q : List Lk), QI a key i q → 2002 ≤ f + i → ∃ Q, queF a f i q = some Q
  | f, i, q, hq, hf => by
    have hlen : q.length ≤ A.length := by
      have hnd : (q.map Prod.fst).Nodup := by
        unfold List.Nodup
        rw [List.pairwise_map]
        exact hq.srt.imp fun hab e => by rw [e, lessF_irrefl] at hab; cases hab
      have hsub : ∀ x ∈ q.map Prod.fst, x ∈ A := fun x hx => by
        obtain ⟨y, hy, rfl⟩ := List.mem_map.1 hx
        exact hA _ _ (hq.ch y hy)
      have := nodup_le _ _ hnd hsub
      simpa using this
    cases f with
    | zero => have := hq.le; omega
    | succ f =>
      unfold queF
      cases hx : q[i]? with
      | none => exact ⟨q, rfl⟩
      | some x =>
        obtain ⟨hi, rfl⟩ := List.getElem?_eq_some_iff.1 hx
        simp only
        rw [if_neg (by omega)]
        exact queF_some a key A hA hl f (i + 1) _ (hq.next hi) (by omega)
end Cha
end Go.Proofs.YtahlfndlkfoikaaDoor
