/- Plain: cuts: the first list of couplers without which a contact is not reached. -/
import Derived.Test.YtahlfndlkfoikaaDoorEs
import Derived.Test.YtahlfndlkfoikaaDoorCovP
namespace Go.Proofs.YtahlfndlkfoikaaDoor
open Go Go.RowKit
namespace Cha
open Cou
/-- An action without some of its drawn couplers. -/
def cutA (a : Ac) (wo : Nat) : Ac := { a with drawn := Hit.andn a.drawn wo }
/-- Is the contact reached without some couplers? -/
def reachB (a : Ac) (key c : Ct) (wo : Nat) : Bool := (leastF (cutA a wo) key c).isSome
theorem Ok.cut {a : Ac} (h : Ok a) (wo : Nat) : Ok (cutA a wo) := ⟨h.nd, h.nc, h.div, h.cp, Hit.andn_lt h.drawn⟩
theorem reachB_iff {a : Ac} (hok : Ok a) {key c : Ct} {wo : Nat} : reachB a key c wo = true ↔ Hop (cutA a wo) [key] c := by
  have h := leastF_spec (Ok.cut hok wo) key c
  unfold reachB
  rw [hop_ch]
  cases hl : leastF (cutA a wo) key c with
  | none =>
    rw [hl] at h
    constructor
    · intro h; cases h
    · rintro ⟨cs, ts, q1, q2⟩
      exact absurd q2 (h cs ts q1)
  | some x =>
    rw [hl] at h
    obtain ⟨_, ⟨ts, q1, q2⟩, _⟩ := h
    exact ⟨fun _ => ⟨_, ts, q1, q2⟩, fun _ => rfl⟩
/-- Lists of couplers, in order: the first one without which a test fails. -/
def skF (R : Nat → Bool) (on : List Nat) : Nat → Nat → Nat → Option (List Nat)
  | 0, _, wo => if R wo then none else some []
  | left + 1, from_, wo => (List.range (on.length + 1 - (from_ + (left + 1)))).findSome? fun j =>
      (skF R on left (from_ + j + 1) (wo ||| Hit.bit (on.getD (from_ + j) 0))).map (on.getD (from_ + j) 0 :: ·)
theorem skF_step {R : Nat → Bool} {on : List Nat} {left i wo : Nat} (h : i + (left + 1) ≤ on.length) :
    skF R on (left + 1) i wo = match skF R on left (i + 1) (wo ||| Hit.bit (on.getD i 0)) with
      | some l => some (on.getD i 0 :: l)
      | none => skF R on (left + 1) (i + 1) wo := by
  rw [skF, skF]
  obtain ⟨m, hm⟩ : ∃ m, on.length + 1 - (i + (left + 1)) = m + 1 := ⟨on.length - (i + (left + 1)), by omega⟩
  rw [hm, List.range_succ_eq_map, List.findSome?_cons, Nat.add_zero]
  cases hs : skF R on left (i + 1) (wo ||| Hit.bit (on.getD i 0)) with
  | some l => rfl
  | none =>
    simp only [Option.map_none]
    rw [List.findSome?_map, show on.length + 1 - (i + 1 + (left + 1)) = m by omega]
    congr 1
    funext j
    simp only [Function.comp]
    rw [show i + (j + 1) = i + 1 + j by omega]
theorem skF_end {R : Nat → Bool} {on : List Nat} {left i wo : Nat} (h : on.length < i + (left + 1)) : skF R on (left + 1) i wo = none := by
  rw [skF, show on.length + 1 - (i + (left + 1)) = 0 by omega]
  rfl
/-- All bits of a list. -/
def orL : List Nat → Nat → Nat
  | [], wo => wo
  | x :: l, wo => orL l (wo ||| Hit.bit x)
theorem skF_total {R : Nat → Bool} {on : List Nat} : ∀ (k i wo : Nat), i + k = on.length → R (orL (on.drop i) wo) = false → skF R on k i wo = some (on.drop i)
  | 0, i, wo, hi, h => by
    rw [List.drop_eq_nil_of_le (by omega)] at h ⊢
    rw [skF, if_neg (by rw [show R wo = false from h]; decide)]
  | k + 1, i, wo, hi, h => by
    have hlt : i < on.length := by omega
    rw [List.drop_eq_getElem_cons hlt] at h ⊢
    have hg : on.getD i 0 = on[i] := by rw [List.getD_eq_getElem?_getD, List.getElem?_eq_getElem hlt]; rfl
    rw [skF_step (by omega), hg, skF_total k (i + 1) _ (by omega) h]
/-- The least cut. -/
def cutL (R : Nat → Bool) (on : List Nat) : Option (List Nat) := (List.range on.length).findSome? fun n => skF R on (n + 1) 0 0
theorem orL_or : ∀ (l : List Nat) (wo : Nat), orL l wo = wo ||| orL l 0
  | [], wo => by simp [orL]
  | x :: l, wo => by rw [orL, orL, orL_or l (wo ||| Hit.bit x), orL_or l (0 ||| Hit.bit x), Nat.zero_or, Nat.or_assoc]
theorem orL_test : ∀ (l : List Nat) (i : Nat), (orL l 0).testBit i = true ↔ i ∈ l
  | [], i => by simp [orL]
  | x :: l, i => by
    rw [orL, orL_or, Nat.zero_or, Nat.testBit_or, Bool.or_eq_true, orL_test l i, List.mem_cons]
    constructor
    · rintro (h | h)
      · exact .inl (by have := Hit.bit_test x i; rw [this] at h; simpa [eq_comm] using h)
      · exact .inr h
    · rintro (h | h)
      · exact .inl (by subst h; rw [Hit.bit_test]; simp)
      · exact .inr h
end Cha
end Go.Proofs.YtahlfndlkfoikaaDoor
