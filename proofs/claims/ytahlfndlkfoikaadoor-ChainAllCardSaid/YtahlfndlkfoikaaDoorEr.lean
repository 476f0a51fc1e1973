/- Plain: the first chain to each contact. -/
import Derived.Test.YtahlfndlkfoikaaDoorQ1
namespace Go.Proofs.YtahlfndlkfoikaaDoor
open Go Go.RowKit
namespace Cha
open Cou
theorem lastF_snoc (l : List Ct) (t : Ct) : lastF (l ++ [t]) = t := by unfold lastF; simp [List.getLastD_eq_getLast?]
theorem IsCh.cases_ {a : Ac} {key : Ct} {cs : List Int} {ts : List Ct} (h : IsCh a key cs ts) :
    (∃ i t, cs = [((i : Nat) : Int)] ∧ ts = [t] ∧ a.drawn.testBit i = true ∧ stepF a i key = some t) ∨
    (∃ ds us i t, cs = ds ++ [((i : Nat) : Int)] ∧ ts = us ++ [t] ∧ IsCh a key ds us ∧ a.drawn.testBit i = true ∧ thruF a i = true ∧ stepF a i (lastF us) = some t ∧ t ∉ us) := by
  cases h with
  | one h1 h2 => exact .inl ⟨_, _, rfl, rfl, h1, h2⟩
  | snoc h0 h1 h2 h3 h4 => exact .inr ⟨_, _, _, _, rfl, rfl, h0, h1, h2, h3, h4⟩
theorem IsCh.fn {a : Ac} {key : Ct} {cs : List Int} {ts : List Ct} (h : IsCh a key cs ts) : ∀ {us : List Ct}, IsCh a key cs us → us = ts := by
  induction h with
  | @one i t h1 h2 =>
    intro us h
    rcases h.cases_ with ⟨j, t', e1, rfl, _, e2⟩ | ⟨ds, vs, j, t', e1, _, h0, _⟩
    · have e : i = j := by
        injection e1 with e1 _
        omega
      subst e
      rw [h2] at e2
      injection e2 with e2
      rw [e2]
    · exfalso
      have := congrArg List.length e1
      have h3 := List.length_pos_iff.2 h0.ne
      simp at this
      exact h0.ne this
  | @snoc cs ts i t h0 h1 h2 h3 h4 ih =>
    intro us h
    rcases h.cases_ with ⟨j, t', e1, _, _, e2⟩ | ⟨ds, vs, j, t', e1, rfl, k0, k1, k2, k3, k4⟩
    · exfalso
      have := congrArg List.length e1
      have h5 := List.length_pos_iff.2 h0.ne
      simp at this
      exact h0.ne this
    · obtain ⟨e2, e3⟩ := List.append_inj' e1 rfl
      subst e2
      have e : i = j := by
        injection e3 with e3 _
        omega
      subst e
      have := ih k0
      subst this
      rw [h3] at k3
      injection k3 with k3
      rw [k3]
theorem lastF_mem {l : List Ct} (h : l ≠ []) : lastF l ∈ l := by
  unfold lastF
  rw [List.getLastD_eq_getLast?, List.getLast?_eq_some_getLast h]
  exact List.getLast_mem h
theorem IsCh.ne2 {a : Ac} {key : Ct} {cs : List Int} {ts : List Ct} (h : IsCh a key cs ts) : ts ≠ [] := by
  cases h <;> simp
theorem IsCh.inA {a : Ac} {key : Ct} (hok : Ok a) {cs : List Int} {ts : List Ct} (h : IsCh a key cs ts) : ∀ t ∈ ts, InA a t := by
  induction h with
  | one h1 h2 => intro t ht; simp only [List.mem_singleton] at ht; subst ht; exact stepF_in hok h2
  | snoc h0 h1 h2 h3 h4 ih =>
    intro t ht
    rcases List.mem_append.1 ht with e | e
    · exact ih t e
    · simp only [List.mem_singleton] at e; subst e; exact stepF_in hok h3
/-- A part of a chain ends at each of its contacts. -/
theorem IsCh.part {a : Ac} {key : Ct} {cs : List Int} {ts : List Ct} (h : IsCh a key cs ts) : ∀ t ∈ ts, ∃ ds us, IsCh a key ds us ∧ lastF us = t ∧ ds <+: cs ∧ us <+: ts := by
  induction h with
  | one h1 h2 => intro t ht; simp only [List.mem_singleton] at ht; subst ht; exact ⟨_, _, .one h1 h2, rfl, List.prefix_rfl, List.prefix_rfl⟩
  | snoc h0 h1 h2 h3 h4 ih =>
    intro t ht
    rcases List.mem_append.1 ht with e | e
    · obtain ⟨ds, us, q1, q2, q3, q4⟩ := ih t e
      exact ⟨ds, us, q1, q2, q3.trans (List.prefix_append _ _), q4.trans (List.prefix_append _ _)⟩
    · simp only [List.mem_singleton] at e
      subst e
      exact ⟨_, _, .snoc h0 h1 h2 h3 h4, lastF_snoc _ _, List.prefix_rfl, List.prefix_rfl⟩
/-- What is reached is what chains end at. -/
theorem hop_ch {a : Ac} {key t : Ct} : Hop a [key] t ↔ ∃ cs ts, IsCh a key cs ts ∧ lastF ts = t := by
  constructor
  · intro h
    induction h with
    | first h1 h2 h3 =>
      simp only [List.mem_singleton] at h1
      subst h1
      exact ⟨_, _, .one h2 h3, rfl⟩
    | @more c t i h1 h2 h3 h4 ih =>
      obtain ⟨cs, ts, q1, q2⟩ := ih
      by_cases hm : t ∈ ts
      · obtain ⟨ds, us, r1, r2, _⟩ := q1.part t hm
        exact ⟨ds, us, r1, r2⟩
      · exact ⟨_, _, .snoc q1 h2 h3 (by rw [q2]; exact h4) hm, lastF_snoc _ _⟩
  · rintro ⟨cs, ts, h, rfl⟩
    induction h with
    | one h1 h2 => exact .first (by simp) h1 h2
    | snoc h0 h1 h2 h3 h4 ih => rw [lastF_snoc]; exact .more ih h1 h2 h3
/-- The contacts of a queue. -/
abbrev ends (Q : List Ch) : List Ct := Q.map Prod.snd
/-- What the queue of Least holds behind i of its own, and behind k couplers of the next one. -/
structure LI (a : Ac) (key : Ct) (i k : Nat) (Q : List Ch) : Prop where
  srt : Q.Pairwise fun x y => lessF x.1 y.1 = true
  nd : (ends Q).Nodup
  ch : ∀ x ∈ Q, ∃ ts, IsCh a key x.1 ts ∧ lastF ts = x.2 ∧ ∀ t ∈ ts, t ∈ ends Q
  fst : ∀ c t, a.drawn.testBit c = true → stepF a c key = some t → t ∈ ends Q
  cl : ∀ x ∈ Q.take i, ∀ c t, a.drawn.testBit c = true → thruF a c = true → stepF a c x.2 = some t → t ∈ ends Q
  here : ∀ x, Q[i]? = some x → ∀ c t, c < k → a.drawn.testBit c = true → thruF a c = true → stepF a c x.2 = some t → t ∈ ends Q
  min : ∀ x ∈ Q, ∀ cs ts, IsCh a key cs ts → lastF ts = x.2 → lessF cs x.1 = false
  par : ∀ x ∈ Q, x.1.length = 1 ∨ (∃ p ∈ Q.take i, ∃ c : Int, x.1 = p.1 ++ [c]) ∨ (∃ p, Q[i]? = some p ∧ ∃ c : Nat, c < k ∧ x.1 = p.1 ++ [(c : Int)])
  le : i ≤ Q.length
theorem mem_take {Q : List Ch} {i j : Nat} (hj : j < Q.length) (h : j < i) : Q[j] ∈ Q.take i := by
  have : Q[j] = (Q.take i)[j]'(by simp; omega) := by rw [List.getElem_take]
  rw [this]
  exact List.getElem_mem _
/-- Chains before the next one end at contacts that have been handled. -/
theorem LI.before {a : Ac} {key : Ct} {i k : Nat} {Q : List Ch} (h : LI a key i k Q) {x : Ch} (hx : Q[i]? = some x) {cs : List Int} {ts : List Ct} (hc : IsCh a key cs ts) : lessF cs x.1 = true → lastF ts ∈ ends (Q.take i) := by
  have hfin : ∀ {cs : List Int} {ts : List Ct}, IsCh a key cs ts → lessF cs x.1 = true → lastF ts ∈ ends Q → lastF ts ∈ ends (Q.take i) := by
    intro cs ts hc hl hm
    obtain ⟨y, hy, he⟩ := List.mem_map.1 hm
    obtain ⟨j, hj, rfl⟩ := List.getElem_of_mem hy
    have hmin := h.min _ hy cs ts hc he.symm
    obtain ⟨hi, hxe⟩ := List.getElem?_eq_some_iff.1 hx
    have hji : j < i := by
      rcases Nat.lt_or_ge j i with q | q
      · exact q
      · exfalso
        have : lessF cs Q[j].1 = true := by
          rcases Nat.lt_or_ge i j with q2 | q2
          · have := List.pairwise_iff_getElem.1 h.srt i j hi hj q2
            rw [hxe] at this
            exact lessF_trans hl this
          · have e : i = j := by omega
            subst e
            rw [hxe]; exact hl
        rw [this] at hmin; cases hmin
    exact List.mem_map.2 ⟨Q[j], mem_take hj hji, he⟩
  induction hc with
  | one h1 h2 =>
    intro hl
    exact hfin (.one h1 h2) hl (h.fst _ _ h1 h2)
  | @snoc cs ts c t h0 h1 h2 h3 h4 ih =>
    intro hl
    have hl2 : lessF cs x.1 = true := lessF_trans (lessF_len (by simp)) hl
    obtain ⟨y, hy, he⟩ := List.mem_map.1 (ih hl2)
    refine hfin (.snoc h0 h1 h2 h3 h4) hl ?_
    rw [lastF_snoc]
    exact h.cl y hy c t h1 h2 (by rw [he]; exact h3)
theorem ends_snoc (Q : List Ch) (y : Ch) : ends (Q ++ [y]) = ends Q ++ [y.2] := by simp [ends]
/-- One coupler of the next one: a step that adds. -/
theorem LI.put {a : Ac} {key : Ct} {i k : Nat} {Q : List Ch} (h : LI a key i k Q) {x : Ch} {t : Ct} (hx : Q[i]? = some x) (h1 : a.drawn.testBit k = true) (h2 : thruF a k = true) (h3 : stepF a k x.2 = some t) (hn : t ∉ ends Q) : LI a key i (k + 1) (Q ++ [(x.1 ++ [(k : Int)], t)]) := by
  obtain ⟨hi, hxe⟩ := List.getElem?_eq_some_iff.1 hx
  have hxm : x ∈ Q := hxe ▸ List.getElem_mem hi
  obtain ⟨ts, hc, hl, hs⟩ := h.ch x hxm
  have htk : (Q ++ [(x.1 ++ [(k : Int)], t)]).take i = Q.take i := List.take_append_of_le_length (by omega)
  have hgi : (Q ++ [(x.1 ++ [(k : Int)], t)])[i]? = some x := by rw [List.getElem?_append_left hi]; exact hx
  have hnew : IsCh a key (x.1 ++ [(k : Int)]) (ts ++ [t]) := .snoc hc h1 h2 (by rw [hl]; exact h3) fun hm => hn (hs t hm)
  refine ⟨?_, ?_, ?_, ?_, ?_, ?_, ?_, ?_, by simp; omega⟩
  · rw [List.pairwise_append]
    refine ⟨h.srt, List.pairwise_singleton _ _, fun y hy z hz => ?_⟩
    simp only [List.mem_singleton] at hz
    subst hz
    rcases h.par y hy with e | ⟨p, hp, c, e⟩ | ⟨p, hp, c, hck, e⟩
    · refine lessF_len ?_
      have := List.length_pos_iff.2 hc.ne
      simp only [List.length_append, List.length_cons, List.length_nil, e]
      omega
    · simp only
      rw [e]
      obtain ⟨j, hj, hpe⟩ := List.getElem_of_mem hp
      have hj1 : j < i := by simp at hj; omega
      rw [List.getElem_take] at hpe
      have := List.pairwise_iff_getElem.1 h.srt j i (by omega) hi hj1
      rw [hpe, hxe] at this
      exact lessF_snoc this _ _
    · rw [hx] at hp
      injection hp with hp
      subst hp
      simp only
      rw [e]
      exact lessF_same _ (by omega)
  · rw [ends_snoc, List.nodup_append]
    refine ⟨h.nd, by simp, fun u hu v hv => ?_⟩
    simp only [List.mem_singleton] at hv
    subst hv
    rintro rfl
    exact hn hu
  · intro y hy
    rw [ends_snoc]
    rcases List.mem_append.1 hy with e | e
    · obtain ⟨us, q1, q2, q3⟩ := h.ch y e
      exact ⟨us, q1, q2, fun t ht => List.mem_append.2 (.inl (q3 t ht))⟩
    · simp only [List.mem_singleton] at e
      subst e
      refine ⟨_, hnew, lastF_snoc _ _, fun u hu => ?_⟩
      rcases List.mem_append.1 hu with e | e
      · exact List.mem_append.2 (.inl (hs u e))
      · exact List.mem_append.2 (.inr e)
  · intro c u q1 q2
    rw [ends_snoc]
    exact List.mem_append.2 (.inl (h.fst c u q1 q2))
  · intro y hy c u q1 q2 q3
    rw [htk] at hy
    rw [ends_snoc]
    exact List.mem_append.2 (.inl (h.cl y hy c u q1 q2 q3))
  · intro y hy c u hck q1 q2 q3
    rw [hgi] at hy
    injection hy with hy
    subst hy
    rw [ends_snoc]
    by_cases e : c = k
    · subst e
      rw [h3] at q3
      injection q3 with q3
      exact List.mem_append.2 (.inr (by simp [q3]))
    · exact List.mem_append.2 (.inl (h.here x hx c u (by omega) q1 q2 q3))
  · intro y hy cs us hcs hlu
    rcases List.mem_append.1 hy with e | e
    · exact h.min y e cs us hcs hlu
    · simp only [List.mem_singleton] at e
      subst e
      simp only at hlu ⊢
      cases hq : lessF cs (x.1 ++ [(k : Int)]) with
      | false => rfl
      | true =>
        exfalso
        rcases hcs.cases_ with ⟨c, u, rfl, rfl, q1, q2⟩ | ⟨ds, vs, c, u, rfl, rfl, q0, q1, q2, q3, q4⟩
        · have : u = t := hlu
          subst this
          exact hn (h.fst _ _ q1 q2)
        · rw [lastF_snoc] at hlu
          subst hlu
          rcases lessF_tri ds x.1 with r | r | r
          · obtain ⟨y, hy2, he⟩ := List.mem_map.1 (h.before hx q0 r)
            exact hn (h.cl y hy2 c u q1 q2 (by rw [he]; exact q3))
          · subst r
            have := hc.fn q0
            subst this
            rw [hl] at q3
            have hck : c < k := by
              unfold lessF at hq
              rw [if_pos (by simp), lexF_snoc _ _ _ _ rfl, if_pos rfl] at hq
              have := of_decide_eq_true hq
              omega
            exact hn (h.here x hx c u hck q1 q2 q3)
          · have := lessF_asymm (lessF_snoc r (k : Int) (c : Int))
            rw [this] at hq
            cases hq
  · intro y hy
    rw [htk, hgi]
    rcases List.mem_append.1 hy with e | e
    · rcases h.par y e with q | q | ⟨p, hp, c, hck, q⟩
      · exact .inl q
      · exact .inr (.inl q)
      · exact .inr (.inr ⟨p, by rw [← hp, hx], c, by omega, q⟩)
    · simp only [List.mem_singleton] at e
      subst e
      exact .inr (.inr ⟨x, rfl, k, by omega, rfl⟩)
/-- One that adds nothing. -/
theorem LI.skip {a : Ac} {key : Ct} {i k : Nat} {Q : List Ch} (h : LI a key i k Q) {x : Ch} (hx : Q[i]? = some x) (hn : ∀ t, a.drawn.testBit k = true → thruF a k = true → stepF a k x.2 = some t → t ∈ ends Q) : LI a key i (k + 1) Q := by
  refine ⟨h.srt, h.nd, h.ch, h.fst, h.cl, ?_, h.min, ?_, h.le⟩
  · intro y hy c u hck q1 q2 q3
    by_cases e : c = k
    · subst e
      rw [hx] at hy
      injection hy with hy
      subst hy
      exact hn u q1 q2 q3
    · exact h.here y hy c u (by omega) q1 q2 q3
  · intro y hy
    rcases h.par y hy with q | q | ⟨p, hp, c, hck, q⟩
    · exact .inl q
    · exact .inr (.inl q)
    · exact .inr (.inr ⟨p, hp, c, by omega, q⟩)
theorem LI.next {a : Ac} {key : Ct} {i : Nat} {Q : List Ch} (h : LI a key i a.cps.length Q) {x : Ch} (hx : Q[i]? = some x) : LI a key (i + 1) 0 Q := by
  obtain ⟨hi, hxe⟩ := List.getElem?_eq_some_iff.1 hx
  have htk : Q.take (i + 1) = Q.take i ++ [x] := by rw [List.take_add_one, hx]; rfl
  refine ⟨h.srt, h.nd, h.ch, h.fst, ?_, fun y hy c u hck => absurd hck (by omega), h.min, ?_, by omega⟩
  · intro y hy c u q1 q2 q3
    rw [htk] at hy
    rcases List.mem_append.1 hy with e | e
    · exact h.cl y e c u q1 q2 q3
    · simp only [List.mem_singleton] at e
      subst e
      exact h.here y hx c u (stepF_lt q3) q1 q2 q3
  · intro y hy
    rw [htk]
    rcases h.par y hy with q | ⟨p, hp, c, q⟩ | ⟨p, hp, c, hck, q⟩
    · exact .inl q
    · exact .inr (.inl ⟨p, List.mem_append.2 (.inl hp), c, q⟩)
    · rw [hx] at hp
      injection hp with hp
      subst hp
      exact .inr (.inl ⟨x, List.mem_append.2 (.inr (by simp)), c, q⟩)
end Cha
end Go.Proofs.YtahlfndlkfoikaaDoor
