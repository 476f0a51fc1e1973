/- Plain: what the reach, the first chain, the least cut and the chains have to do with each other. -/
import Derived.Test.YtahlfndlkfoikaaDoorQ4
import Derived.Test.YtahlfndlkfoikaaDoorEi
import Derived.Test.YtahlfndlkfoikaaDoorQ3
namespace Go.Proofs.YtahlfndlkfoikaaDoor
open Go Go.RowKit
namespace Cha
open Cou
theorem cutA_zero (a : Ac) : cutA a 0 = a := by
  unfold cutA
  have : Hit.andn a.drawn 0 = a.drawn := Nat.eq_of_testBit_eq fun i => by rw [Hit.andn_test]; simp
  rw [this]
/-- Following one coupler more. -/
theorem folF_snoc (a : Ac) (i : Int) : ∀ (l : List Int) (f : Bool) (at_ : Ct) (out res : List Ct), l ≠ [] → folF a f at_ out l = (0, res) →
    folF a f at_ out (l ++ [i]) = if badF a false (lastF res) res i = 0 then (0, res ++ [toF a (lastF res) i]) else (badF a false (lastF res) res i, [])
  | [], _, _, _, _, h, _ => absurd rfl h
  | [j], f, at_, out, res, _, h => by
    unfold folF at h
    split at h
    · rename_i hb
      unfold folF at h
      injection h with _ h
      subst h
      rw [List.singleton_append, folF, if_pos hb, folF, lastF_snoc]
      rfl
    · rename_i hb
      injection h with h _
      exact absurd h hb
  | j :: k :: l, f, at_, out, res, _, h => by
    unfold folF at h
    split at h
    · rename_i hb
      have ih := folF_snoc a i (k :: l) false _ _ res (by simp) h
      rw [List.cons_append, folF, if_pos hb]
      exact ih
    · rename_i hb
      injection h with h _
      exact absurd h hb
/-- A chain, followed. -/
theorem ch_follow {a : Ac} {key : Ct} {cs : List Int} {ts : List Ct} (h : IsCh a key cs ts) : folF a true key [] cs = (0, ts) := by
  induction h with
  | @one i t h1 h2 =>
    have hb : badF a true key [] (i : Int) = 0 := by
      unfold badF
      have := stepF_lt h2
      rw [if_neg (by omega), Int.toNat_natCast, h1, if_neg (by decide), if_neg (by simp), h2]
      simp
    have ht : toF a key (i : Int) = t := by unfold toF; rw [Int.toNat_natCast, h2]; rfl
    rw [folF, if_pos hb, folF, ht]
    rfl
  | @snoc cs ts i t h0 h1 h2 h3 h4 ih =>
    have hb : badF a false (lastF ts) ts (i : Int) = 0 := by
      unfold badF
      have := stepF_lt h3
      rw [if_neg (by omega), Int.toNat_natCast, h1, if_neg (by decide), h2, if_neg (by simp), h3]
      simp [h4]
    have ht : toF a (lastF ts) (i : Int) = t := by unfold toF; rw [Int.toNat_natCast, h3]; rfl
    rw [folF_snoc a i cs true key [] ts h0.ne ih, if_pos hb, ht]
theorem ch_follow2 {a : Ac} {key : Ct} {cs : List Int} {ts : List Ct} (h : IsCh a key cs ts) : followF a key cs = (0, ts) := by
  unfold followF
  rw [if_neg h.ne]
  exact ch_follow h
/-- The couplers of a chain. -/
theorem IsCh.cpl {a : Ac} {key : Ct} {cs : List Int} {ts : List Ct} (h : IsCh a key cs ts) : ∀ c ∈ cs, ∃ i : Nat, c = i ∧ a.drawn.testBit i = true ∧ i < a.cps.length := by
  induction h with
  | @one i t h1 h2 =>
    intro c hc
    simp only [List.mem_singleton] at hc
    exact ⟨i, hc, h1, stepF_lt h2⟩
  | @snoc cs ts i t _ h1 _ h3 _ ih =>
    intro c hc
    rcases List.mem_append.1 hc with hc | hc
    · exact ih c hc
    · simp only [List.mem_singleton] at hc
      exact ⟨i, hc, h1, stepF_lt h3⟩
/-- A chain is one wherever its couplers are drawn. -/
theorem IsCh.redraw {a b : Ac} {key : Ct} {cs : List Int} {ts : List Ct} (h : IsCh a key cs ts) (hd : b.divs = a.divs) (hc : b.cps = a.cps) (hw : ∀ i : Nat, (i : Int) ∈ cs → b.drawn.testBit i = true) : IsCh b key cs ts := by
  have hs : ∀ i c, stepF b i c = stepF a i c := fun i c => by unfold stepF; rw [hd, hc]
  have ht : ∀ i, thruF b i = thruF a i := fun i => by unfold thruF; rw [hc]
  induction h with
  | one h1 h2 => exact .one (hw _ (by simp)) (by rw [hs]; exact h2)
  | snoc _ h1 h2 h3 h4 ih => exact .snoc (ih fun i hi => hw i (by simp [hi])) (hw _ (by simp)) (by rw [ht]; exact h2) (by rw [hs]; exact h3) h4
theorem reach_ch {a : Ac} (hok : Ok a) {key c : Ct} {wo : Nat} : reachB a key c wo = true ↔ ∃ cs ts, IsCh (cutA a wo) key cs ts ∧ lastF ts = c := by rw [reachB_iff hok, hop_ch]
theorem less_one : ∀ b < 16, ∀ i < 4, (!b.testBit i || (ltB (Hit.andn b (Hit.bit i)) b && Hit.andn b (Hit.bit i) != b)) = true := by decide +kernel
theorem andn_sub {b d i : Nat} (h : Hit.andn b d = 0) : Hit.andn (Hit.andn b (Hit.bit i)) d = 0 := Nat.eq_of_testBit_eq fun j => by
  have := congrArg (fun x => x.testBit j) h
  simp only [Hit.andn_test, Nat.zero_testBit] at this ⊢
  cases hb : b.testBit j
  · simp
  · rw [hb] at this; simp at this; simp [this]
/-- Each coupler of the least cut is in a chain. -/
theorem cut_in {a : Ac} (hok : Ok a) (key c : Ct) (hn : a.cps.length ≤ 4) {i : Nat} (hi : (bestF (reachB a key c) a.drawn (2 ^ a.cps.length)).testBit i = true) :
    ∃ cs ts, IsCh a key cs ts ∧ lastF ts = c ∧ (i : Int) ∈ cs := by
  have h16 : (2 : Nat) ^ a.cps.length ≤ 16 := Nat.pow_le_pow_right (by decide) hn
  have hd64 : a.drawn < 2 ^ 64 := by have := hok.drawn; omega
  have hR : reachB a key c a.drawn = false := by
    have h := reach_all hok hd64 key c
    have he : orL (Hit.members a.drawn) 0 = a.drawn := by
      have := comb_or a.drawn (by have := hok.drawn; omega)
      exact this
    rwa [he] at h
  obtain ⟨⟨i1, i2, i3⟩, i4⟩ := best_inv (reachB a key c) a.drawn a.cps.length hn hok.drawn hR (2 ^ a.cps.length) (Nat.le_refl _)
  generalize bestF (reachB a key c) a.drawn (2 ^ a.cps.length) = b at *
  have hi4 : i < 4 := by
    rcases Nat.lt_or_ge i 4 with h | h
    · exact h
    · rw [Nat.testBit_lt_two_pow (Nat.lt_of_lt_of_le (show b < 2 ^ 4 by omega) (Nat.pow_le_pow_right (by decide) h))] at hi; cases hi
  have hl := less_one b (by omega) i hi4
  rw [hi] at hl
  simp only [Bool.not_true, Bool.false_or, Bool.and_eq_true, bne_iff_ne, ne_eq] at hl
  have hsle : Hit.andn b (Hit.bit i) < 2 ^ a.cps.length := Hit.andn_lt i1
  have hs0 : Hit.andn (Hit.andn b (Hit.bit i)) a.drawn = 0 := andn_sub i2
  have hrs : reachB a key c (Hit.andn b (Hit.bit i)) = true := by
    cases h : reachB a key c (Hit.andn b (Hit.bit i)) with
    | true => rfl
    | false =>
      rcases i4 _ hsle hs0 h with e | e
      · exact absurd e hl.2
      · rw [hl.1] at e; cases e
  obtain ⟨cs, ts, hch, hlast⟩ := (reach_ch hok).1 hrs
  have hdr : ∀ j : Nat, (j : Int) ∈ cs → (Hit.andn a.drawn (Hit.andn b (Hit.bit i))).testBit j = true := fun j hj => by
    obtain ⟨k, e, h1, _⟩ := hch.cpl _ hj
    have : j = k := by omega
    subst this
    exact h1
  refine ⟨cs, ts, hch.redraw rfl rfl fun j hj => ?_, hlast, ?_⟩
  · have := hdr j hj
    rw [Hit.andn_test, Bool.and_eq_true] at this
    exact this.1
  · by_cases hm : (i : Int) ∈ cs
    · exact hm
    · exfalso
      have : reachB a key c b = true := (reach_ch hok).2 ⟨cs, ts, hch.redraw rfl rfl fun j hj => by
        have h1 := hdr j hj
        have hne : j ≠ i := fun e => by subst e; exact hm hj
        show (Hit.andn a.drawn b).testBit j = true
        rw [Hit.andn_test] at h1 ⊢
        rw [Hit.andn_test] at h1
        have hbit : (Hit.bit i).testBit j = false := by
          unfold Hit.bit
          rw [Nat.testBit_two_pow]
          simp [Ne.symm hne]
        rw [hbit] at h1
        simpa using h1, hlast⟩
      rw [i3] at this; cases this
/-- All chains are in the list. -/
theorem all_has {a : Ac} {key : Ct} {L : List Ch} (h : allF a key = some L) {cs : List Int} {ts : List Ct} (hc : IsCh a key cs ts) : (cs, lastF ts) ∈ L := by
  unfold allF at h
  cases hq : queF a 2002 0 (moreF a ([], []) key) with
  | none => rw [hq] at h; cases h
  | some q =>
    rw [hq] at h
    dsimp only at h
    split at h
    · injection h with h
      have hQ := queF_spec a key 2002 0 _ (QI.start a key) q hq
      have := QI.all hQ hc
      rw [← h]
      exact List.mem_map.2 ⟨_, this, rfl⟩
    · cases h
theorem least_found {a : Ac} (hok : Ok a) (key c : Ct) {x : Ch} (h : leastF a key c = some x) : x.2 = c ∧ ∃ ts, IsCh a key x.1 ts ∧ lastF ts = c := by
  have := leastF_spec hok key c
  rw [h] at this
  exact ⟨this.1, this.2.1⟩
theorem least_reach (a : Ac) (key c : Ct) : (leastF a key c).isSome = reachB a key c 0 := by unfold reachB; rw [cutA_zero]
end Cha
end Go.Proofs.YtahlfndlkfoikaaDoor
