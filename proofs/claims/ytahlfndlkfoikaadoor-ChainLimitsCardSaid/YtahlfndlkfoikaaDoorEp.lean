/- Plain: chains of couplers: what begin, Follow, more, all, Least and Cut compute. -/
import Derived.Test.YtahlfndlkfoikaaDoorKp
namespace Go.Proofs.YtahlfndlkfoikaaDoor
open Go Go.RowKit
namespace Cha
open Cou
/-- A chain with the contacts that it reaches. -/
abbrev Lk := List Int × List Ct
/-- A chain and where it ends. -/
abbrev Ch := List Int × Ct
/-- The last contact. -/
def lastF (l : List Ct) : Ct := l.getLastD (0, 0)
/-- The error of coupler i behind some, or 0. -/
def badF (a : Ac) (fst : Bool) (at_ : Ct) (out : List Ct) (i : Int) : Int :=
  if i < 0 ∨ (a.cps.length : Int) ≤ i then 11
  else if a.drawn.testBit i.toNat = false then 19
  else if fst = false ∧ thruF a i.toNat = false then 7
  else match stepF a i.toNat at_ with
    | none => 24
    | some t => if t ∈ out then 9 else 0
/-- Where coupler i takes a contact. -/
def toF (a : Ac) (at_ : Ct) (i : Int) : Ct := (stepF a i.toNat at_).getD (0, 0)
def folF (a : Ac) : Bool → Ct → List Ct → List Int → Int × List Ct
  | _, _, out, [] => (0, out)
  | fst, at_, out, i :: l => if badF a fst at_ out i = 0 then folF a false (toF a at_ i) (out ++ [toF a at_ i]) l else (badF a fst at_ out i, [])
/-- The contacts that couplers reach, and the error. -/
def followF (a : Ac) (key : Ct) (cs : List Int) : Int × List Ct := if cs = [] then (13, []) else folF a true key [] cs
theorem folF_bad (a : Ac) : ∀ (l : List Int) (f : Bool) (at_ : Ct) (out : List Ct), (folF a f at_ out l).1 ≠ 0 → (folF a f at_ out l).2 = []
  | [], _, _, _, h => absurd rfl h
  | i :: l, f, at_, out, h => by
    unfold folF at h ⊢
    split
    · rename_i q
      rw [if_pos q] at h
      exact folF_bad a l _ _ _ h
    · rfl
theorem folF_len (a : Ac) : ∀ (l : List Int) (f : Bool) (at_ : Ct) (out : List Ct), (folF a f at_ out l).1 = 0 → (folF a f at_ out l).2.length = out.length + l.length
  | [], _, _, _, _ => rfl
  | i :: l, f, at_, out, h => by
    unfold folF at h ⊢
    split
    · rename_i q
      rw [if_pos q] at h
      rw [folF_len a l _ _ _ h]
      simp
      omega
    · rename_i q
      rw [if_neg q] at h
      exact absurd h q
/-- One coupler more. -/
def oneMoreF (a : Ac) (x : Lk) (at_ : Ct) (i : Nat) : Option Lk :=
  if a.drawn.testBit i = true ∧ (x.1 = [] ∨ thruF a i = true) then
    match stepF a i at_ with
    | none => none
    | some t => if t ∈ x.2 then none else some (x.1 ++ [(i : Int)], x.2 ++ [t])
  else none
/-- The chains that are one coupler longer. -/
def moreF (a : Ac) (x : Lk) (at_ : Ct) : List Lk := (List.range a.cps.length).filterMap (oneMoreF a x at_)
/-- Those from coupler k on. -/
def moreD (a : Ac) (x : Lk) (at_ : Ct) (k : Nat) : List Lk := ((List.range a.cps.length).drop k).filterMap (oneMoreF a x at_)
theorem moreD_zero (a : Ac) (x : Lk) (at_ : Ct) : moreD a x at_ 0 = moreF a x at_ := rfl
theorem moreD_end (a : Ac) (x : Lk) (at_ : Ct) : moreD a x at_ a.cps.length = [] := by
  unfold moreD; rw [List.drop_eq_nil_of_le (by simp)]; rfl
theorem moreD_none {a : Ac} {x : Lk} {at_ : Ct} {k : Nat} (hk : k < a.cps.length) (h : oneMoreF a x at_ k = none) : moreD a x at_ k = moreD a x at_ (k + 1) := by
  unfold moreD
  rw [List.drop_eq_getElem_cons (by simpa using hk), List.getElem_range, List.filterMap_cons, h]
theorem moreD_some {a : Ac} {x y : Lk} {at_ : Ct} {k : Nat} (hk : k < a.cps.length) (h : oneMoreF a x at_ k = some y) : moreD a x at_ k = y :: moreD a x at_ (k + 1) := by
  unfold moreD
  rw [List.drop_eq_getElem_cons (by simpa using hk), List.getElem_range, List.filterMap_cons, h]
theorem moreF_len (a : Ac) (x : Lk) (at_ : Ct) : (moreF a x at_).length ≤ a.cps.length := by
  have := List.length_filterMap_le (oneMoreF a x at_) (List.range a.cps.length)
  simpa [moreF] using this
theorem oneMoreF_eq {a : Ac} {x y : Lk} {at_ : Ct} {i : Nat} (h : oneMoreF a x at_ i = some y) : ∃ t, a.drawn.testBit i = true ∧ (x.1 = [] ∨ thruF a i = true) ∧ stepF a i at_ = some t ∧ t ∉ x.2 ∧ y = (x.1 ++ [(i : Int)], x.2 ++ [t]) := by
  unfold oneMoreF at h
  split at h
  · rename_i q
    split at h
    · cases h
    · rename_i t ht
      split at h
      · cases h
      · rename_i hn
        injection h with h
        exact ⟨t, q.1, q.2, ht, hn, h.symm⟩
  · cases h
/-- The queue behind i of its own. -/
def queF (a : Ac) : Nat → Nat → List Lk → Option (List Lk)
  | 0, _, _ => none
  | f + 1, i, q => match q[i]? with
    | none => some q
    | some x => if 2000 < q.length then none else queF a f (i + 1) (q ++ moreF a x (lastF x.2))
/-- All chains, if they are not too many. -/
def allF (a : Ac) (key : Ct) : Option (List Ch) := match queF a 2002 0 (moreF a ([], []) key) with
  | none => none
  | some q => if q.length ≤ 2000 then some (q.map fun x => (x.1, lastF x.2)) else none
/-- The queue of Least: a chain is put into it if none ends where it ends. -/
def putF (Q : List Ch) (y : Lk) : List Ch := if (Q.map Prod.snd).contains (lastF y.2) then Q else Q ++ [(y.1, lastF y.2)]
/-- The link that Least hands on. -/
def dumF (x : Ch) : Lk := (x.1, List.replicate x.1.length (-1, 0))
def addF (a : Ac) (Q : List Ch) (x : List Int) (at_ : Ct) : List Ch := (moreF a (x, List.replicate x.length (-1, 0)) at_).foldl putF Q
def leastQ (a : Ac) (c : Ct) : Nat → Nat → List Ch → Option Ch
  | 0, _, _ => none
  | f + 1, i, Q => match Q[i]? with
    | none => none
    | some x => if x.2 = c then some x else leastQ a c f (i + 1) (addF a Q x.1 x.2)
def leastF (a : Ac) (key c : Ct) : Option Ch := leastQ a c 1025 0 (addF a [] [] key)
/-- Lists of couplers, in order: the first one without which a test fails. -/
def seekF (R : Nat → Bool) (on : List Nat) : Nat → Nat → Nat → Option (List Nat)
  | 0, _, wo => if R wo then none else some []
  | left + 1, from_, wo => (List.range (on.length + 1 - (from_ + (left + 1)))).findSome? fun j =>
      (seekF R on left (from_ + j + 1) (wo ||| 2 ^ (on.getD (from_ + j) 0))).map (on.getD (from_ + j) 0 :: ·)
end Cha
end Go.Proofs.YtahlfndlkfoikaaDoor
