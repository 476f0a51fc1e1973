/- Plain: what Least answers is the first chain. -/
import Derived.Test.YtahlfndlkfoikaaDoorEr
namespace Go.Proofs.YtahlfndlkfoikaaDoor
open Go Go.RowKit
namespace Cha
open Cou
theorem putF_old {Q : List Ch} {y : Lk} (h : lastF y.2 ∈ ends Q) : putF Q y = Q := by
  unfold putF; rw [if_pos (List.contains_iff_mem.2 h)]
theorem putF_new {Q : List Ch} {y : Lk} (h : lastF y.2 ∉ ends Q) : putF Q y = Q ++ [(y.1, lastF y.2)] := by
  unfold putF; rw [if_neg (fun q => h (List.contains_iff_mem.1 q))]
/-- The link of no real contacts. -/
theorem dum_not {a : Ac} (hok : Ok a) {i : Nat} {c t : Ct} (h : stepF a i c = some t) (n : Nat) : t ∉ List.replicate n ((-1, 0) : Ct) := fun hm => by
  have := (List.mem_replicate.1 hm).2
  have h2 := (stepF_in hok h).1
  rw [this] at h2
  exact absurd h2 (by decide)
theorem LI.fold {a : Ac} {key : Ct} (hok : Ok a) {i : Nat} {x : Ch} (hne : x.1 ≠ []) : ∀ (d k : Nat) (Q : List Ch), k + d = a.cps.length → LI a key i k Q → Q[i]? = some x → LI a key i a.cps.length ((moreD a (dumF x) x.2 k).foldl putF Q) ∧ Q <+: (moreD a (dumF x) x.2 k).foldl putF Q
  | 0, k, Q, hk, h, hx => by
    have : k = a.cps.length := by omega
    subst this
    rw [moreD_end]
    exact ⟨h, List.prefix_rfl⟩
  | d + 1, k, Q, hk, h, hx => by
    have hkl : k < a.cps.length := by omega
    cases ho : oneMoreF a (dumF x) x.2 k with
    | none =>
      rw [moreD_none hkl ho]
      refine LI.fold hok hne d (k + 1) Q (by omega) (h.skip hx fun t h1 h2 h3 => ?_) hx
      rw [oneMoreF_of h1 (.inr h2) h3 (dum_not hok h3 _)] at ho
      cases ho
    | some y =>
      obtain ⟨t, h1, h2, h3, h4, rfl⟩ := oneMoreF_eq ho
      have h2' : thruF a k = true := h2.resolve_left hne
      rw [moreD_some hkl ho, List.foldl_cons]
      by_cases hm : t ∈ ends Q
      · rw [putF_old (by rw [lastF_snoc]; exact hm)]
        exact LI.fold hok hne d (k + 1) Q (by omega) (h.skip hx fun u q1 q2 q3 => by rw [h3] at q3; injection q3 with q3; rw [← q3]; exact hm) hx
      · rw [putF_new (by rw [lastF_snoc]; exact hm), lastF_snoc]
        obtain ⟨r1, r2⟩ := LI.fold hok hne d (k + 1) (Q ++ [((dumF x).1 ++ [(k : Int)], t)]) (by omega) (h.put hx h1 h2' h3 hm) (by rw [List.getElem?_append_left (List.getElem?_eq_some_iff.1 hx).1]; exact hx)
        exact ⟨r1, (List.prefix_append _ _).trans r2⟩
/-- The queue while the first couplers are handled. -/
structure LS (a : Ac) (key : Ct) (k : Nat) (Q : List Ch) : Prop where
  srt : Q.Pairwise fun x y => lessF x.1 y.1 = true
  nd : (ends Q).Nodup
  ch : ∀ x ∈ Q, ∃ c : Nat, ∃ t, c < k ∧ x = ([(c : Int)], t) ∧ a.drawn.testBit c = true ∧ stepF a c key = some t
  fst : ∀ c t, c < k → a.drawn.testBit c = true → stepF a c key = some t → t ∈ ends Q
  min : ∀ x ∈ Q, ∀ cs ts, IsCh a key cs ts → lastF ts = x.2 → lessF cs x.1 = false
theorem LS.put {a : Ac} {key : Ct} {k : Nat} {Q : List Ch} (h : LS a key k Q) {t : Ct} (h1 : a.drawn.testBit k = true) (h3 : stepF a k key = some t) (hn : t ∉ ends Q) : LS a key (k + 1) (Q ++ [([(k : Int)], t)]) := by
  refine ⟨?_, ?_, ?_, ?_, ?_⟩
  · rw [List.pairwise_append]
    refine ⟨h.srt, List.pairwise_singleton _ _, fun y hy z hz => ?_⟩
    simp only [List.mem_singleton] at hz
    subst hz
    obtain ⟨c, u, hck, rfl, _, _⟩ := h.ch y hy
    exact lessF_same [] (by omega)
  · rw [ends_snoc, List.nodup_append]
    refine ⟨h.nd, by simp, fun u hu v hv => ?_⟩
    simp only [List.mem_singleton] at hv
    subst hv
    rintro rfl
    exact hn hu
  · intro y hy
    rcases List.mem_append.1 hy with e | e
    · obtain ⟨c, u, hck, r⟩ := h.ch y e
      exact ⟨c, u, by omega, r⟩
    · simp only [List.mem_singleton] at e
      exact ⟨k, t, by omega, e, h1, h3⟩
  · intro c u hck q1 q2
    rw [ends_snoc]
    by_cases e : c = k
    · subst e
      rw [h3] at q2
      injection q2 with q2
      exact List.mem_append.2 (.inr (by simp [q2]))
    · exact List.mem_append.2 (.inl (h.fst c u (by omega) q1 q2))
  · intro y hy cs us hcs hlu
    rcases List.mem_append.1 hy with e | e
    · exact h.min y e cs us hcs hlu
    · simp only [List.mem_singleton] at e
      subst e
      simp only at hlu ⊢
      cases hq : lessF cs [(k : Int)] with
      | false => rfl
      | true =>
        exfalso
        rcases hcs.cases_ with ⟨c, u, rfl, rfl, q1, q2⟩ | ⟨ds, vs, c, u, rfl, rfl, q0, _⟩
        · have : u = t := hlu
          subst this
          have hck : c < k := by
            unfold lessF at hq
            rw [if_pos (by simp), lexF] at hq
            split at hq
            · cases hq
            · have := of_decide_eq_true hq
              omega
          exact hn (h.fst c u hck q1 q2)
        · have := List.length_pos_iff.2 q0.ne
          have h5 : lessF [(k : Int)] (ds ++ [(c : Int)]) = true := lessF_len (by simp; omega)
          rw [lessF_asymm h5] at hq
          cases hq
theorem LS.skip {a : Ac} {key : Ct} {k : Nat} {Q : List Ch} (h : LS a key k Q) (hn : ∀ t, a.drawn.testBit k = true → stepF a k key = some t → t ∈ ends Q) : LS a key (k + 1) Q := by
  refine ⟨h.srt, h.nd, fun y hy => ?_, fun c u hck q1 q2 => ?_, h.min⟩
  · obtain ⟨c, u, hck, r⟩ := h.ch y hy
    exact ⟨c, u, by omega, r⟩
  · by_cases e : c = k
    · subst e; exact hn u q1 q2
    · exact h.fst c u (by omega) q1 q2
theorem LS.fold {a : Ac} {key : Ct} : ∀ (d k : Nat) (Q : List Ch), k + d = a.cps.length → LS a key k Q → LS a key a.cps.length ((moreD a ([], []) key k).foldl putF Q)
  | 0, k, Q, hk, h => by
    have : k = a.cps.length := by omega
    subst this
    rw [moreD_end]
    exact h
  | d + 1, k, Q, hk, h => by
    have hkl : k < a.cps.length := by omega
    cases ho : oneMoreF a ([], []) key k with
    | none =>
      rw [moreD_none hkl ho]
      refine LS.fold d (k + 1) Q (by omega) (h.skip fun t h1 h3 => ?_)
      rw [oneMoreF_of h1 (.inl rfl) h3 (by simp)] at ho
      cases ho
    | some y =>
      obtain ⟨t, h1, h2, h3, h4, rfl⟩ := oneMoreF_eq ho
      rw [moreD_some hkl ho, List.foldl_cons]
      by_cases hm : t ∈ ends Q
      · rw [putF_old (by rw [lastF_snoc]; exact hm)]
        exact LS.fold d (k + 1) Q (by omega) (h.skip fun u q1 q3 => by rw [h3] at q3; injection q3 with q3; rw [← q3]; exact hm)
      · rw [putF_new (by rw [lastF_snoc]; exact hm), lastF_snoc]
        exact LS.fold d (k + 1) _ (by omega) (h.put h1 h3 hm)
theorem LS.start (a : Ac) (key : Ct) : LS a key 0 [] := ⟨List.Pairwise.nil, by simp, by simp, fun c t h => absurd h (by omega), by simp⟩
theorem LS.li {a : Ac} {key : Ct} {Q : List Ch} (h : LS a key a.cps.length Q) : LI a key 0 0 Q :=
  ⟨h.srt, h.nd, fun x hx => by
    obtain ⟨c, t, _, rfl, h1, h3⟩ := h.ch x hx
    refine ⟨[t], .one h1 h3, rfl, fun u hu => ?_⟩
    simp only [List.mem_singleton] at hu
    subst hu
    exact List.mem_map.2 ⟨_, hx, rfl⟩, fun c t h1 h3 => h.fst c t (stepF_lt h3) h1 h3, by simp, fun x _ c t hc => absurd hc (by omega), h.min, fun x hx => by
    obtain ⟨c, t, _, rfl, _⟩ := h.ch x hx
    exact .inl rfl, Nat.zero_le _⟩
theorem least_start (a : Ac) (key : Ct) : LI a key 0 0 (addF a [] [] key) := (LS.fold a.cps.length 0 [] (by omega) (LS.start a key)).li
theorem LI.inA {a : Ac} {key : Ct} (hok : Ok a) {i k : Nat} {Q : List Ch} (h : LI a key i k Q) : ∀ t ∈ ends Q, InA a t := fun t ht => by
  obtain ⟨x, hx, rfl⟩ := List.mem_map.1 ht
  obtain ⟨ts, h1, h2, _⟩ := h.ch x hx
  rw [← h2]
  exact h1.inA hok _ (lastF_mem h1.ne2)
theorem LI.len {a : Ac} {key : Ct} (hok : Ok a) {i k : Nat} {Q : List Ch} (h : LI a key i k Q) : Q.length ≤ 1024 := by
  have := cts_short hok h.nd (h.inA hok)
  simpa using this
theorem LI.ne {a : Ac} {key : Ct} {i k : Nat} {Q : List Ch} (h : LI a key i k Q) {x : Ch} (hx : x ∈ Q) : x.1 ≠ [] := by
  obtain ⟨ts, h1, _⟩ := h.ch x hx
  exact h1.ne
theorem LI.step {a : Ac} {key : Ct} (hok : Ok a) {i : Nat} {Q : List Ch} (h : LI a key i 0 Q) {x : Ch} (hx : Q[i]? = some x) : LI a key (i + 1) 0 (addF a Q x.1 x.2) ∧ Q <+: addF a Q x.1 x.2 := by
  have hm : x ∈ Q := List.mem_of_getElem? hx
  obtain ⟨r1, r2⟩ := LI.fold hok (h.ne hm) a.cps.length 0 Q (by omega) h hx
  have hx2 : ((moreD a (dumF x) x.2 0).foldl putF Q)[i]? = some x := by
    obtain ⟨r, hr⟩ := r2
    rw [← hr, List.getElem?_append_left (List.getElem?_eq_some_iff.1 hx).1]
    exact hx
  exact ⟨r1.next hx2, r2⟩
/-- What Least answers. -/
def LeastP (a : Ac) (key c : Ct) : Option Ch → Prop
  | some x => x.2 = c ∧ (∃ ts, IsCh a key x.1 ts ∧ lastF ts = c) ∧ ∀ cs ts, IsCh a key cs ts → lastF ts = c → lessF cs x.1 = false
  | none => ∀ cs ts, IsCh a key cs ts → lastF ts ≠ c
theorem LI.closed {a : Ac} {key : Ct} {i : Nat} {Q : List Ch} (h : LI a key i 0 Q) (hi : Q.length ≤ i) {cs : List Int} {ts : List Ct} (hc : IsCh a key cs ts) : lastF ts ∈ ends Q := by
  induction hc with
  | one h1 h2 => exact h.fst _ _ h1 h2
  | snoc h0 h1 h2 h3 h4 ih =>
    rw [lastF_snoc]
    obtain ⟨y, hy, he⟩ := List.mem_map.1 ih
    exact h.cl y (by rw [List.take_of_length_le hi]; exact hy) _ _ h1 h2 (by rw [he]; exact h3)
theorem leastQ_spec {a : Ac} {key : Ct} (hok : Ok a) (c : Ct) : ∀ (f i : Nat) (Q : List Ch), LI a key i 0 Q → (∀ y ∈ Q.take i, y.2 ≠ c) → 1025 ≤ f + i → LeastP a key c (leastQ a c f i Q)
  | 0, i, Q, h, _, hf => by
    have := h.le
    have := h.len hok
    omega
  | f + 1, i, Q, h, hno, hf => by
    unfold leastQ
    cases hx : Q[i]? with
    | none =>
      have hi : Q.length ≤ i := List.getElem?_eq_none_iff.1 hx
      intro cs ts hc he
      obtain ⟨y, hy, hye⟩ := List.mem_map.1 (h.closed hi hc)
      exact hno y (by rw [List.take_of_length_le hi]; exact hy) (by rw [hye]; exact he)
    | some x =>
      simp only
      have hm : x ∈ Q := List.mem_of_getElem? hx
      by_cases hc : x.2 = c
      · rw [if_pos hc]
        obtain ⟨ts, h1, h2, _⟩ := h.ch x hm
        exact ⟨hc, ⟨ts, h1, h2.trans hc⟩, fun cs us q1 q2 => h.min x hm cs us q1 (q2.trans hc.symm)⟩
      · rw [if_neg hc]
        obtain ⟨r1, r2⟩ := h.step hok hx
        refine leastQ_spec hok c f (i + 1) _ r1 (fun y hy => ?_) (by omega)
        have hi := (List.getElem?_eq_some_iff.1 hx).1
        have htk : (addF a Q x.1 x.2).take (i + 1) = Q.take i ++ [x] := by
          obtain ⟨r, hr⟩ := r2
          rw [← hr, List.take_append_of_le_length (by omega), List.take_add_one, hx]
          rfl
        rw [htk] at hy
        rcases List.mem_append.1 hy with e | e
        · exact hno y e
        · simp only [List.mem_singleton] at e
          subst e
          exact hc
theorem leastF_spec {a : Ac} (hok : Ok a) (key c : Ct) : LeastP a key c (leastF a key c) := leastQ_spec hok c 1025 0 _ (least_start a key) (by simp) (by omega)
end Cha
end Go.Proofs.YtahlfndlkfoikaaDoor
