/- Plain: the row of eight couplers has too many chains, and a first one that ends three keys up. -/
import Derived.Test.YtahlfndlkfoikaaDoorEl
import Derived.Test.YtahlfndlkfoikaaDoorEi
namespace Go.Proofs.YtahlfndlkfoikaaDoor
open Go Go.RowKit
namespace Cha
open Cou
/-- The row of couplers. -/
def limC (i : Nat) : Cpl := ⟨⟨#[99, (48 + i).toUInt8]⟩, 0, 0, (i : Int) + 1, true⟩
def limA : Ac := ⟨[(0, 40)], (List.range 8).map limC, 255⟩
theorem lim_right : rightF limA = 0 := by decide +kernel
theorem lim_step0 (p : Nat) (h : p + 1 ≤ 40) : stepF limA 0 (0, (p : Int)) = some (0, (p : Int) + 1) := by
  unfold stepF
  show (if (0 : Int) = 0 ∧ inB (0, 40) ((p : Int) + ((0 : Nat) + 1)) = true then some ((0 : Int), (p : Int) + ((0 : Nat) + 1)) else none) = _
  rw [if_pos]
  · simp
  · refine ⟨rfl, ?_⟩
    unfold inB
    simp only [Bool.and_eq_true, decide_eq_true_eq]
    omega
theorem lim_step1 (p : Nat) (h : p + 2 ≤ 40) : stepF limA 1 (0, (p : Int)) = some (0, (p : Int) + 2) := by
  unfold stepF
  show (if (0 : Int) = 0 ∧ inB (0, 40) ((p : Int) + ((1 : Nat) + 1)) = true then some ((0 : Int), (p : Int) + ((1 : Nat) + 1)) else none) = _
  rw [if_pos]
  · simp
  · refine ⟨rfl, ?_⟩
    unfold inB
    simp only [Bool.and_eq_true, decide_eq_true_eq]
    omega
theorem lim_on (i : Nat) (h : i < 8) : limA.drawn.testBit i = true ∧ thruF limA i = true := by
  have : ∀ i < 8, limA.drawn.testBit i = true ∧ thruF limA i = true := by decide +kernel
  exact this i h
/-- All lists of n of the first two couplers. -/
def limV : Nat → List (List Int)
  | 0 => [[]]
  | n + 1 => (limV n).map (· ++ [0]) ++ (limV n).map (· ++ [1])
theorem limV_len (n : Nat) : ∀ l ∈ limV n, l.length = n := by
  induction n with
  | zero => intro l hl; simp only [limV, List.mem_singleton] at hl; subst hl; rfl
  | succ n ih =>
    intro l hl
    rw [limV, List.mem_append, List.mem_map, List.mem_map] at hl
    rcases hl with ⟨m, hm, rfl⟩ | ⟨m, hm, rfl⟩
    · simp [ih m hm]
    · simp [ih m hm]
theorem limV_count (n : Nat) : (limV n).length = 2 ^ n := by
  induction n with
  | zero => rfl
  | succ n ih => rw [limV, List.length_append, List.length_map, List.length_map, ih, Nat.pow_succ]; omega
theorem map_nodup {α β : Type} {f : α → β} (hf : ∀ x y, f x = f y → x = y) {l : List α} (h : l.Nodup) : (l.map f).Nodup := by
  unfold List.Nodup at *
  rw [List.pairwise_map]
  exact h.imp fun hab e => hab (hf _ _ e)
theorem snoc_inj (z : Int) (x y : List Int) (h : x ++ [z] = y ++ [z]) : x = y := List.append_cancel_right h
theorem limV_nodup (n : Nat) : (limV n).Nodup := by
  induction n with
  | zero => simp [limV]
  | succ n ih =>
    rw [limV]
    unfold List.Nodup
    rw [List.pairwise_append]
    refine ⟨map_nodup (snoc_inj 0) ih, map_nodup (snoc_inj 1) ih, fun x hx y hy e => ?_⟩
    obtain ⟨p, _, rfl⟩ := List.mem_map.1 hx
    obtain ⟨q, _, rfl⟩ := List.mem_map.1 hy
    have := congrArg List.getLast? e
    simp at this
/-- Each of them is a chain. -/
theorem limV_ch (k : Nat) : ∀ n, 1 ≤ n → k + 2 * n ≤ 41 → ∀ l ∈ limV n, k + 2 * n ≤ 40 ∨ (∃ m ∈ limV (n - 1), l = m ++ [0]) → ∃ (ts : List Ct) (s : Nat), IsCh limA (0, (k : Int)) l ts ∧ lastF ts = (0, ((k + s : Nat) : Int)) ∧ s ≤ 2 * n ∧ (k + 2 * n = 41 → s + 1 ≤ 2 * n) ∧ ∀ t ∈ ts, t.2 ≤ ((k + s : Nat) : Int)
  | 0, h, _, _, _, _ => absurd h (by omega)
  | 1, _, hk, l, hl, hc => by
    simp only [limV, List.map_cons, List.map_nil, List.nil_append, List.cons_append, List.mem_cons, List.not_mem_nil, or_false] at hl
    rcases hl with rfl | rfl
    · refine ⟨_, 1, .one (i := 0) (lim_on 0 (by omega)).1 (lim_step0 k (by omega)), rfl, by omega, by omega, fun t ht => ?_⟩
      simp only [List.mem_singleton] at ht
      subst ht
      show (k : Int) + 1 ≤ _
      omega
    · have hk2 : k + 2 ≤ 40 := by
        rcases hc with h | ⟨m, _, h⟩
        · omega
        · have := congrArg List.getLast? h
          simp at this
      refine ⟨_, 2, .one (i := 1) (lim_on 1 (by omega)).1 (lim_step1 k hk2), rfl, by omega, by omega, fun t ht => ?_⟩
      simp only [List.mem_singleton] at ht
      subst ht
      show (k : Int) + 2 ≤ _
      omega
  | n + 2, _, hk, l, hl, hc => by
    rw [limV, List.mem_append, List.mem_map, List.mem_map] at hl
    rcases hl with ⟨m, hm, rfl⟩ | ⟨m, hm, rfl⟩
    · obtain ⟨ts, s, h1, h2, h3, _, h5⟩ := limV_ch k (n + 1) (by omega) (by omega) m hm (.inl (by omega))
      have hs := lim_step0 (k + s) (by omega)
      refine ⟨ts ++ [(0, ((k + s : Nat) : Int) + 1)], s + 1, .snoc (i := 0) h1 (lim_on 0 (by omega)).1 (lim_on 0 (by omega)).2 (by rw [h2]; exact hs) (fun hm => ?_), ?_, by omega, by omega, fun t ht => ?_⟩
      · have := h5 _ hm
        dsimp only at this
        omega
      · rw [lastF_snoc]
        simp only [Prod.mk.injEq, true_and]
        omega
      · rcases List.mem_append.1 ht with ht | ht
        · have := h5 t ht; omega
        · simp only [List.mem_singleton] at ht
          subst ht
          show ((k + s : Nat) : Int) + 1 ≤ _
          omega
    · have hk2 : k + 2 * (n + 2) ≤ 40 := by
        rcases hc with h | ⟨q, _, h⟩
        · exact h
        · have := congrArg List.getLast? h
          simp at this
      obtain ⟨ts, s, h1, h2, h3, _, h5⟩ := limV_ch k (n + 1) (by omega) (by omega) m hm (.inl (by omega))
      have hs := lim_step1 (k + s) (by omega)
      refine ⟨ts ++ [(0, ((k + s : Nat) : Int) + 2)], s + 2, .snoc (i := 1) h1 (lim_on 1 (by omega)).1 (lim_on 1 (by omega)).2 (by rw [h2]; exact hs) (fun hm => ?_), ?_, by omega, by omega, fun t ht => ?_⟩
      · have := h5 _ hm
        dsimp only at this
        omega
      · rw [lastF_snoc]
        simp only [Prod.mk.injEq, true_and]
        omega
      · rcases List.mem_append.1 ht with ht | ht
        · have := h5 t ht; omega
        · simp only [List.mem_singleton] at ht
          subst ht
          show ((k + s : Nat) : Int) + 2 ≤ _
          omega
/-- There are too many chains. -/
theorem lim_all (k : Nat) (hk : k < 20) : allF limA (0, (k : Int)) = none := by
  unfold allF
  cases hq : queF limA 2002 0 (moreF limA ([], []) (0, (k : Int))) with
  | none => rfl
  | some q =>
    dsimp only
    rw [if_neg]
    intro hle
    have hQ := queF_spec limA (0, (k : Int)) 2002 0 _ (QI.start _ _) q hq
    have hX : ∀ l ∈ limV 10 ++ (limV 10).map (· ++ [0]), l ∈ q.map Prod.fst := fun l hl => by
      rcases List.mem_append.1 hl with hl | hl
      · obtain ⟨ts, _, h1, _⟩ := limV_ch k 10 (by omega) (by omega) l hl (.inl (by omega))
        exact List.mem_map.2 ⟨_, QI.all hQ h1, rfl⟩
      · obtain ⟨m, hm, rfl⟩ := List.mem_map.1 hl
        obtain ⟨ts, _, h1, _⟩ := limV_ch k 11 (by omega) (by omega) (m ++ [0]) (by rw [limV]; exact List.mem_append.2 (.inl (List.mem_map.2 ⟨m, hm, rfl⟩))) (.inr ⟨m, hm, rfl⟩)
        exact List.mem_map.2 ⟨_, QI.all hQ h1, rfl⟩
    have hnd : (limV 10 ++ (limV 10).map (· ++ [0])).Nodup := by
      unfold List.Nodup
      rw [List.pairwise_append]
      refine ⟨limV_nodup 10, map_nodup (snoc_inj 0) (limV_nodup 10), fun x hx y hy e => ?_⟩
      obtain ⟨m, hm, rfl⟩ := List.mem_map.1 hy
      have h1 := limV_len 10 x hx
      have h2 := limV_len 10 m hm
      rw [e, List.length_append, h2] at h1
      simp at h1
    have := nodup_le _ _ hnd hX
    rw [List.length_append, List.length_map, limV_count, List.length_map] at this
    omega
theorem lim_beg : ∀ k : Fin 20, beginF limA [(0, (k.val : Int))] = 0 ∧ beginF limA [(0, (k.val : Int)), (0, (k.val : Int) + 3)] = 0 := by decide +kernel
theorem lim_least : ∀ k : Fin 20, leastF limA (0, (k.val : Int)) (0, (k.val : Int) + 3) = some ([2], (0, (k.val : Int) + 3)) := by decide +kernel
end Cha
end Go.Proofs.YtahlfndlkfoikaaDoor
