/- Plain: extend lists all chains, if they are not too many; put in order they are All's list. -/
import Derived.Test.YtahlfndlkfoikaaDoorQ4
import Derived.Test.YtahlfndlkfoikaaDoorJc
namespace Go.Proofs.YtahlfndlkfoikaaDoor
open Go Go.RowKit
namespace Cha
open Cou
theorem extL_ok {a : Ac} {key : Ct} {ext : List Int → List Ch → List Ch} (hpre : ∀ xs out, out <+: ext xs out) (xs : List Int)
    (hext : ∀ (i : Nat) (out : List Ch), (followF a key (xs ++ [(i : Int)])).1 = 0 → (ext (xs ++ [(i : Int)]) out).length ≤ 400 → ∃ new, ext (xs ++ [(i : Int)]) out = out ++ new ∧ (∀ y ∈ new, ∃ l ts, l ≠ [] ∧ y = (xs ++ [(i : Int)] ++ l, lastF ts) ∧ IsCh a key (xs ++ [(i : Int)] ++ l) ts) ∧ (∀ l ts, l ≠ [] → IsCh a key (xs ++ [(i : Int)] ++ l) ts → (xs ++ [(i : Int)] ++ l, lastF ts) ∈ new) ∧ (new.map Prod.fst).Nodup) :
    ∀ (is : List Nat) (out : List Ch), is.Nodup → (extL a key ext xs is out).length ≤ 400 → ∃ new, extL a key ext xs is out = out ++ new ∧ (∀ y ∈ new, ∃ i ∈ is, ∃ l ts, y = (xs ++ (i : Int) :: l, lastF ts) ∧ IsCh a key (xs ++ (i : Int) :: l) ts) ∧ (∀ i ∈ is, ∀ l ts, IsCh a key (xs ++ (i : Int) :: l) ts → (xs ++ (i : Int) :: l, lastF ts) ∈ new) ∧ (new.map Prod.fst).Nodup
  | [], out, _, _ => ⟨[], by simp [extL], by simp, by simp, by simp⟩
  | i :: is, out, hnd, hl => by
    rw [List.nodup_cons] at hnd
    unfold extL at hl ⊢
    split
    · rename_i h
      rw [if_pos h] at hl
      omega
    · rename_i h4
      rw [if_neg h4] at hl
      split
      · rename_i hz
        rw [if_pos hz] at hl
        have hch := follow_ch hz
        generalize (followF a key (xs ++ [(i : Int)])).2 = ts0 at *
        have hp := extL_pre a key ext hpre xs is (ext (xs ++ [(i : Int)]) (out ++ [(xs ++ [(i : Int)], lastF ts0)]))
        have hl1 := Nat.le_trans hp.length_le hl
        obtain ⟨n1, e1, a1, b1, c1⟩ := hext i _ hz hl1
        obtain ⟨n2, e2, a2, b2, c2⟩ := extL_ok hpre xs hext is _ hnd.2 hl
        refine ⟨(xs ++ [(i : Int)], lastF ts0) :: (n1 ++ n2), by rw [e2, e1]; simp, fun y hy => ?_, fun j hj l ts hc => ?_, ?_⟩
        · rcases List.mem_cons.1 hy with rfl | hy
          · exact ⟨i, by simp, [], ts0, rfl, hch⟩
          · rcases List.mem_append.1 hy with hy | hy
            · obtain ⟨l, ts, _, h2, h3⟩ := a1 y hy
              refine ⟨i, by simp, l, ts, ?_, ?_⟩
              · rw [h2]; simp
              · simpa using h3
            · obtain ⟨j, hj, r⟩ := a2 y hy
              exact ⟨j, by simp [hj], r⟩
        · rcases List.mem_cons.1 hj with rfl | hj
          · by_cases hn : l = []
            · subst hn
              have := hch.fn hc
              subst this
              simp
            · have := b1 l ts hn (by simpa using hc)
              simp at this ⊢
              exact .inr (.inl this)
          · have := b2 j hj l ts hc
            simp only [List.mem_cons, List.mem_append]
            exact .inr (.inr this)
        · rw [List.map_cons, List.map_append, List.nodup_cons]
          refine ⟨fun hm => ?_, ?_⟩
          · rcases List.mem_append.1 hm with hm | hm
            · obtain ⟨y, hy, e⟩ := List.mem_map.1 hm
              obtain ⟨l, ts, h1, h2, _⟩ := a1 y hy
              rw [h2] at e
              have := congrArg List.length e
              simp at this
              exact h1 this
            · obtain ⟨y, hy, e⟩ := List.mem_map.1 hm
              obtain ⟨j, hj, l, ts, h2, _⟩ := a2 y hy
              rw [h2] at e
              have := List.append_cancel_left e
              injection this with q _
              have : j = i := by omega
              subst this
              exact hnd.1 hj
          · unfold List.Nodup
            rw [List.pairwise_append]
            refine ⟨c1, c2, fun x hx y hy e => ?_⟩
            obtain ⟨x', hx', rfl⟩ := List.mem_map.1 hx
            obtain ⟨y', hy', rfl⟩ := List.mem_map.1 hy
            obtain ⟨l, ts, _, h2, _⟩ := a1 x' hx'
            obtain ⟨j, hj, l2, ts2, h3, _⟩ := a2 y' hy'
            rw [h2, h3, List.append_assoc] at e
            have := List.append_cancel_left e
            injection this with q _
            have : j = i := by omega
            subst this
            exact hnd.1 hj
      · rename_i hz
        rw [if_neg hz] at hl
        obtain ⟨n2, e2, a2, b2, c2⟩ := extL_ok hpre xs hext is out hnd.2 hl
        refine ⟨n2, e2, fun y hy => ?_, fun j hj l ts hc => ?_, c2⟩
        · obtain ⟨j, hj, r⟩ := a2 y hy
          exact ⟨j, by simp [hj], r⟩
        · rcases List.mem_cons.1 hj with rfl | hj
          · exfalso
            obtain ⟨us, hu⟩ := hc.begins (xs ++ [(j : Int)]) l (by simp) (by simp)
            have := ch_follow2 hu
            rw [this] at hz
            exact hz rfl
          · exact b2 j hj l ts hc
theorem extG_ok {a : Ac} (hok : Ok a) {key : Ct} : ∀ (d : Nat) (xs : List Int) (out : List Ch), (xs = [] ∨ ∃ ts, IsCh a key xs ts) → 1025 ≤ xs.length + d → (extG a key d xs out).length ≤ 400 →
    ∃ new, extG a key d xs out = out ++ new ∧ (∀ y ∈ new, ∃ l ts, l ≠ [] ∧ y = (xs ++ l, lastF ts) ∧ IsCh a key (xs ++ l) ts) ∧ (∀ l ts, l ≠ [] → IsCh a key (xs ++ l) ts → (xs ++ l, lastF ts) ∈ new) ∧ (new.map Prod.fst).Nodup
  | 0, xs, out, hx, hd, _ => by
    exfalso
    rcases hx with rfl | ⟨ts, h⟩
    · simp at hd
    · have h1 := h.len
      have h2 := h.short hok
      omega
  | d + 1, xs, out, hx, hd, hl => by
    obtain ⟨new, e, h1, h2, h3⟩ := extL_ok (a := a) (key := key) (extG_pre a key d) xs (fun i out hz hl => extG_ok hok d (xs ++ [(i : Int)]) out (.inr ⟨_, follow_ch hz⟩) (by rw [List.length_append, List.length_singleton]; omega) hl) (List.range a.cps.length) out List.nodup_range hl
    refine ⟨new, e, fun y hy => ?_, fun l ts hn hc => ?_, h3⟩
    · obtain ⟨i, _, l, ts, q1, q2⟩ := h1 y hy
      exact ⟨(i : Int) :: l, ts, by simp, q1, q2⟩
    · cases l with
      | nil => exact absurd rfl hn
      | cons c l =>
        obtain ⟨i, rfl, _, hi⟩ := hc.cpl c (by simp)
        exact h2 i (List.mem_range.2 hi) l ts hc
theorem sorted_ext {α : Type} {lt : α → α → Prop} (hir : ∀ x, ¬ lt x x) (has : ∀ x y, lt x y → ¬ lt y x) : ∀ (l m : List α), l.Pairwise lt → m.Pairwise lt → (∀ x, x ∈ l ↔ x ∈ m) → l = m
  | [], m, _, _, h => by
    cases m with
    | nil => rfl
    | cons y m => exact absurd ((h y).2 (by simp)) (by simp)
  | x :: l, [], _, _, h => absurd ((h x).1 (by simp)) (by simp)
  | x :: l, y :: m, hl, hm, h => by
    rw [List.pairwise_cons] at hl hm
    have hxy : x = y := by
      rcases List.mem_cons.1 ((h x).1 (by simp)) with e | e
      · exact e
      · rcases List.mem_cons.1 ((h y).2 (by simp)) with e2 | e2
        · exact e2.symm
        · exact absurd (hm.1 x e) (has _ _ (hl.1 y e2))
    subst hxy
    congr 1
    refine sorted_ext hir has l m hl.2 hm.2 fun z => ⟨fun hz => ?_, fun hz => ?_⟩
    · rcases List.mem_cons.1 ((h z).1 (by simp [hz])) with e | e
      · subst e; exact absurd (hl.1 z hz) (hir z)
      · exact e
    · rcases List.mem_cons.1 ((h z).2 (by simp [hz])) with e | e
      · subst e; exact absurd (hm.1 z hz) (hir z)
      · exact e
/-- What extend lists, in order, is All's list. -/
theorem ext_all {a : Ac} (hok : Ok a) (key : Ct) (hl : (extG a key 1025 [] []).length ≤ 400) : ∃ L, allF a key = some L ∧ L.Pairwise (fun x y => lessF x.1 y.1 = true) ∧ ((extG a key 1025 [] []).map Prod.fst).Nodup ∧ ∀ y, y ∈ extG a key 1025 [] [] ↔ y ∈ L := by
  obtain ⟨E, e, h1, h2, h3⟩ := extG_ok hok (key := key) 1025 [] [] (.inl rfl) (by simp) hl
  rw [List.nil_append] at e
  rw [e] at hl ⊢
  simp only [List.nil_append] at h1 h2
  have hA : ∀ cs ts, IsCh a key cs ts → cs ∈ E.map Prod.fst := fun cs ts hc => List.mem_map.2 ⟨_, h2 cs ts hc.ne hc, rfl⟩
  obtain ⟨Q, hQ⟩ := queF_some a key (E.map Prod.fst) hA (by rw [List.length_map]; omega) 2002 0 _ (QI.start a key) (by omega)
  have hqi := queF_spec a key 2002 0 _ (QI.start a key) Q hQ
  have hnd : (Q.map Prod.fst).Nodup := by
    unfold List.Nodup
    rw [List.pairwise_map]
    exact hqi.srt.imp fun hab e => by rw [e, lessF_irrefl] at hab; cases hab
  have hql : Q.length ≤ E.length := by
    have := nodup_le _ _ hnd (fun x hx => by
      obtain ⟨y, hy, rfl⟩ := List.mem_map.1 hx
      exact hA _ _ (hqi.ch y hy))
    simpa using this
  refine ⟨Q.map fun x => (x.1, lastF x.2), ?_, ?_, h3, fun y => ⟨fun hy => ?_, fun hy => ?_⟩⟩
  · unfold allF
    rw [show moreF a ([], []) key = begF a key from rfl, hQ]
    dsimp only
    rw [if_pos (by omega)]
  · rw [List.pairwise_map]
    exact hqi.srt
  · obtain ⟨l, ts, _, rfl, hc⟩ := h1 y hy
    exact List.mem_map.2 ⟨(l, ts), hqi.all hc, rfl⟩
  · obtain ⟨x, hx, rfl⟩ := List.mem_map.1 hy
    have hc := hqi.ch x hx
    exact h2 x.1 x.2 hc.ne hc
end Cha
end Go.Proofs.YtahlfndlkfoikaaDoor
