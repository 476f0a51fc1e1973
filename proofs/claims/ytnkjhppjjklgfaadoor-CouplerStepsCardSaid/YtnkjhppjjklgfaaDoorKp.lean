/- Plain: couplers, the contacts that are reached from played ones, lists of contacts in order. -/
import Derived.Test.YtnkjhppjjklgfaaDoorBase
namespace Go.Proofs.YtnkjhppjjklgfaaDoor
open Go Go.RowKit
namespace Cou
/-- A contact: a division and a key. -/
abbrev Ct := Int × Int
/-- A coupler. -/
structure Cpl where
  name : ByteArray
  from_ : Int
  to : Int
  shift : Int
  thru : Bool
/-- An action. -/
structure Ac where
  divs : List (Int × Int)
  cps : List Cpl
  drawn : Nat
def inB (c : Int × Int) (key : Int) : Bool := decide (c.1 ≤ key) && decide (key ≤ c.2)
/-- Where coupler i takes a contact. -/
def stepF (a : Ac) (i : Nat) (c : Ct) : Option Ct := match a.cps[i]? with
  | none => none
  | some x => if x.from_ = c.1 ∧ inB (a.divs.getD x.to.toNat (0, -1)) (c.2 + x.shift) = true then some (x.to, c.2 + x.shift) else none
def thruF (a : Ac) (i : Nat) : Bool := match a.cps[i]? with
  | none => false
  | some x => x.thru
/-- A right action. -/
structure Ok (a : Ac) : Prop where
  nd : a.divs.length ≤ 8
  nc : a.cps.length ≤ 40
  div : ∀ c ∈ a.divs, 0 ≤ c.1 ∧ c.1 ≤ c.2 ∧ c.2 ≤ 127
  cp : ∀ x ∈ a.cps, 0 ≤ x.from_ ∧ x.from_ < a.divs.length ∧ 0 ≤ x.to ∧ x.to < a.divs.length ∧ -127 ≤ x.shift ∧ x.shift ≤ 127
  drawn : a.drawn < 2 ^ a.cps.length
/-- A contact of an action. -/
def InA (a : Ac) (c : Ct) : Prop := 0 ≤ c.1 ∧ c.1 < a.divs.length ∧ inB (a.divs.getD c.1.toNat (0, -1)) c.2 = true
theorem Ok.divD {a : Ac} (h : Ok a) (i : Nat) : 0 ≤ (a.divs.getD i (0, -1)).1 ∧ (a.divs.getD i (0, -1)).2 ≤ 127 := by
  rw [List.getD_eq_getElem?_getD]
  cases hc : a.divs[i]? with
  | none => simp
  | some x => have := h.div x (List.mem_of_getElem? hc); simp; omega
theorem InA.key {a : Ac} (h : Ok a) {c : Ct} (hc : InA a c) : 0 ≤ c.1 ∧ c.1 < 8 ∧ 0 ≤ c.2 ∧ c.2 ≤ 127 := by
  obtain ⟨h1, h2, h3⟩ := hc
  have hd := h.divD c.1.toNat
  have := h.nd
  generalize a.divs.getD c.1.toNat (0, -1) = d at *
  unfold inB at h3
  simp at h3
  omega
theorem stepF_in {a : Ac} (h : Ok a) {i : Nat} {c t : Ct} (ht : stepF a i c = some t) : InA a t := by
  unfold stepF at ht
  cases hx : a.cps[i]? with
  | none => rw [hx] at ht; cases ht
  | some x =>
    rw [hx] at ht
    simp only at ht
    by_cases hq : x.from_ = c.1 ∧ inB (a.divs.getD x.to.toNat (0, -1)) (c.2 + x.shift) = true
    · rw [if_pos hq] at ht
      injection ht with ht
      subst ht
      have := h.cp x (List.mem_of_getElem? hx)
      exact ⟨this.2.2.1, this.2.2.2.1, hq.2⟩
    · rw [if_neg hq] at ht; cases ht
/-- What is reached from played contacts. -/
inductive Hop (a : Ac) (pl : List Ct) : Ct → Prop
  | first {p t : Ct} {i : Nat} : p ∈ pl → a.drawn.testBit i = true → stepF a i p = some t → Hop a pl t
  | more {c t : Ct} {i : Nat} : Hop a pl c → a.drawn.testBit i = true → thruF a i = true → stepF a i c = some t → Hop a pl t
theorem Hop.in_ {a : Ac} (h : Ok a) {pl : List Ct} {c : Ct} (hc : Hop a pl c) : InA a c := by
  cases hc with
  | first _ _ h3 => exact stepF_in h h3
  | more _ _ _ h4 => exact stepF_in h h4
theorem Hop.mono {a : Ac} {pl pl' : List Ct} (hp : ∀ p ∈ pl, p ∈ pl') {c : Ct} (hc : Hop a pl c) : Hop a pl' c := by
  induction hc with
  | first h1 h2 h3 => exact .first (hp _ h1) h2 h3
  | more _ h2 h3 h4 ih => exact .more ih h2 h3 h4
/-- A list that holds the first steps and is closed holds what is reached. -/
theorem Hop.sub {a : Ac} {pl : List Ct} {Q : List Ct} (h1 : ∀ p ∈ pl, ∀ i t, a.drawn.testBit i = true → stepF a i p = some t → t ∈ Q) (h2 : ∀ c ∈ Q, ∀ i t, a.drawn.testBit i = true → thruF a i = true → stepF a i c = some t → t ∈ Q) {c : Ct} (hc : Hop a pl c) : c ∈ Q := by
  induction hc with
  | first q1 q2 q3 => exact h1 _ q1 _ _ q2 q3
  | more _ q2 q3 q4 ih => exact h2 _ ih _ _ q2 q3 q4
/-- The order of contacts. -/
def lt (a b : Ct) : Prop := a.1 < b.1 ∨ (a.1 = b.1 ∧ a.2 < b.2)
theorem lt_irrefl (a : Ct) : ¬ lt a a := by unfold lt; omega
theorem lt_trans {a b c : Ct} (h : lt a b) (k : lt b c) : lt a c := by unfold lt at *; omega
theorem lt_tri (a b : Ct) : lt a b ∨ a = b ∨ lt b a := by
  unfold lt
  by_cases h1 : a.1 < b.1
  · exact .inl (.inl h1)
  · by_cases h2 : b.1 < a.1
    · exact .inr (.inr (.inl h2))
    · by_cases h3 : a.2 < b.2
      · exact .inl (.inr ⟨by omega, h3⟩)
      · by_cases h4 : b.2 < a.2
        · exact .inr (.inr (.inr ⟨by omega, h4⟩))
        · exact .inr (.inl (Prod.ext (by omega) (by omega)))
/-- Strictly in order. -/
def Srt (l : List Ct) : Prop := l.Pairwise lt
theorem Srt.eq : ∀ {l m : List Ct}, Srt l → Srt m → (∀ c, c ∈ l ↔ c ∈ m) → l = m
  | [], [], _, _, _ => rfl
  | [], y :: m, _, _, h => absurd ((h y).2 (by simp)) (by simp)
  | x :: l, [], _, _, h => absurd ((h x).1 (by simp)) (by simp)
  | x :: l, y :: m, hl, hm, h => by
    have hl' := List.pairwise_cons.1 hl
    have hm' := List.pairwise_cons.1 hm
    have hxy : x = y := by
      have h1 := (h x).1 (by simp)
      have h2 := (h y).2 (by simp)
      rcases List.mem_cons.1 h1 with e | h1
      · exact e
      · rcases List.mem_cons.1 h2 with e | h2
        · exact e.symm
        · exact absurd (lt_trans (hl'.1 y h2) (hm'.1 x h1)) (lt_irrefl x)
    subst hxy
    congr 1
    refine Srt.eq hl'.2 hm'.2 fun c => ⟨fun hc => ?_, fun hc => ?_⟩
    · rcases List.mem_cons.1 ((h c).1 (by simp [hc])) with e | e
      · subst e; exact absurd (hl'.1 c hc) (lt_irrefl c)
      · exact e
    · rcases List.mem_cons.1 ((h c).2 (by simp [hc])) with e | e
      · subst e; exact absurd (hm'.1 c hc) (lt_irrefl c)
      · exact e
theorem Srt.nodup {l : List Ct} (h : Srt l) : l.Nodup := List.Pairwise.imp (fun hab e => by subst e; exact lt_irrefl _ hab) h
/-- Lists of small numbers without repetition are short. -/
theorem nodup_short : ∀ (n : Nat) (l : List Nat), l.Nodup → (∀ x ∈ l, x < n) → l.length ≤ n
  | 0, [], _, _ => by simp
  | 0, x :: _, _, h => absurd (h x (by simp)) (by omega)
  | n + 1, l, hd, h => by
    have h1 : (l.erase n).Nodup := hd.erase n
    have h2 : ∀ x ∈ l.erase n, x < n := fun x hx => by
      have hx1 := h x (List.mem_of_mem_erase hx)
      have : x ≠ n := fun e => by subst e; exact (List.Nodup.not_mem_erase hd) hx
      omega
    have := nodup_short n (l.erase n) h1 h2
    by_cases hm : n ∈ l
    · rw [List.length_erase_of_mem hm] at this; omega
    · rw [List.erase_of_not_mem hm] at this; omega
theorem cts_short {a : Ac} (h : Ok a) {l : List Ct} (hd : l.Nodup) (hi : ∀ c ∈ l, InA a c) : l.length ≤ 1024 := by
  have hm : (l.map fun c : Ct => c.1.toNat * 128 + c.2.toNat).Nodup := by
    unfold List.Nodup at *
    rw [List.pairwise_map]
    refine List.Pairwise.imp_of_mem (fun {x y} hx hy hxy e => hxy ?_) hd
    have q1 := (hi x hx).key h
    have q2 := (hi y hy).key h
    exact Prod.ext (by omega) (by omega)
  have := nodup_short 1024 _ hm fun x hx => by
    obtain ⟨c, hc, rfl⟩ := List.mem_map.1 hx
    have q1 := (hi c hc).key h
    omega
  simpa using this
end Cou
end Go.Proofs.YtnkjhppjjklgfaaDoor
