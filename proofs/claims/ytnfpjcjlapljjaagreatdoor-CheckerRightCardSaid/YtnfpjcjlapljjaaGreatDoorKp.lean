/- Plain: couplers, the contacts that are reached from played ones, lists of contacts in order. Plain: a contact is put into a list in order. Plain: the reference's reach, loop by loop. -/
import Derived.Test.YtnfpjcjlapljjaaGreatDoorBase
namespace Go.Proofs.YtnfpjcjlapljjaaGreatDoor
open Go Go.RowKit
namespace Cou
/-- A contact: a division and a key. -/
abbrev Ct := Int × Int
/-- A coupler. -/
structure Cpl where
  name : ByteArray
  from_ : Int
  to : Int
  shift : Int
  thru : Bool
/-- An action. -/
structure Ac where
  divs : List (Int × Int)
  cps : List Cpl
  drawn : Nat
def inB (c : Int × Int) (key : Int) : Bool := decide (c.1 ≤ key) && decide (key ≤ c.2)
/-- Where coupler i takes a contact. -/
def stepF (a : Ac) (i : Nat) (c : Ct) : Option Ct := match a.cps[i]? with
  | none => none
  | some x => if x.from_ = c.1 ∧ inB (a.divs.getD x.to.toNat (0, -1)) (c.2 + x.shift) = true then some (x.to, c.2 + x.shift) else none
def thruF (a : Ac) (i : Nat) : Bool := match a.cps[i]? with
  | none => false
  | some x => x.thru
/-- A right action. -/
structure Ok (a : Ac) : Prop where
  nd : a.divs.length ≤ 8
  nc : a.cps.length ≤ 40
  div : ∀ c ∈ a.divs, 0 ≤ c.1 ∧ c.1 ≤ c.2 ∧ c.2 ≤ 127
  cp : ∀ x ∈ a.cps, 0 ≤ x.from_ ∧ x.from_ < a.divs.length ∧ 0 ≤ x.to ∧ x.to < a.divs.length ∧ -127 ≤ x.shift ∧ x.shift ≤ 127
  drawn : a.drawn < 2 ^ a.cps.length
/-- A contact of an action. -/
def InA (a : Ac) (c : Ct) : Prop := 0 ≤ c.1 ∧ c.1 < a.divs.length ∧ inB (a.divs.getD c.1.toNat (0, -1)) c.2 = true
theorem Ok.divD {a : Ac} (h : Ok a) (i : Nat) : 0 ≤ (a.divs.getD i (0, -1)).1 ∧ (a.divs.getD i (0, -1)).2 ≤ 127 := by
  rw [List.getD_eq_getElem?_getD]
  cases hc : a.divs[i]? with
  | none => simp
  | some x => have := h.div x (List.mem_of_getElem? hc); simp; omega
theorem InA.key {a : Ac} (h : Ok a) {c : Ct} (hc : InA a c) : 0 ≤ c.1 ∧ c.1 < 8 ∧ 0 ≤ c.2 ∧ c.2 ≤ 127 := by
  obtain ⟨h1, h2, h3⟩ := hc
  have hd := h.divD c.1.toNat
  have := h.nd
  generalize a.divs.getD c.1.toNat (0, -1) = d at *
  unfold inB at h3
  simp at h3
  omega
theorem stepF_in {a : Ac} (h : Ok a) {i : Nat} {c t : Ct} (ht : stepF a i c = some t) : InA a t := by
  unfold stepF at ht
  cases hx : a.cps[i]? with
  | none => rw [hx] at ht; cases ht
  | some x =>
    rw [hx] at ht
    simp only at ht
    by_cases hq : x.from_ = c.1 ∧ inB (a.divs.getD x.to.toNat (0, -1)) (c.2 + x.shift) = true
    · rw [if_pos hq] at ht
      injection ht with ht
      subst ht
      have := h.cp x (List.mem_of_getElem? hx)
      exact ⟨this.2.2.1, this.2.2.2.1, hq.2⟩
    · rw [if_neg hq] at ht; cases ht
/-- What is reached from played contacts. -/
inductive Hop (a : Ac) (pl : List Ct) : Ct → Prop
  | first {p t : Ct} {i : Nat} : p ∈ pl → a.drawn.testBit i = true → stepF a i p = some t → Hop a pl t
  | more {c t : Ct} {i : Nat} : Hop a pl c → a.drawn.testBit i = true → thruF a i = true → stepF a i c = some t → Hop a pl t
theorem Hop.in_ {a : Ac} (h : Ok a) {pl : List Ct} {c : Ct} (hc : Hop a pl c) : InA a c := by
  cases hc with
  | first _ _ h3 => exact stepF_in h h3
  | more _ _ _ h4 => exact stepF_in h h4
theorem Hop.mono {a : Ac} {pl pl' : List Ct} (hp : ∀ p ∈ pl, p ∈ pl') {c : Ct} (hc : Hop a pl c) : Hop a pl' c := by
  induction hc with
  | first h1 h2 h3 => exact .first (hp _ h1) h2 h3
  | more _ h2 h3 h4 ih => exact .more ih h2 h3 h4
/-- A list that holds the first steps and is closed holds what is reached. -/
theorem Hop.sub {a : Ac} {pl : List Ct} {Q : List Ct} (h1 : ∀ p ∈ pl, ∀ i t, a.drawn.testBit i = true → stepF a i p = some t → t ∈ Q) (h2 : ∀ c ∈ Q, ∀ i t, a.drawn.testBit i = true → thruF a i = true → stepF a i c = some t → t ∈ Q) {c : Ct} (hc : Hop a pl c) : c ∈ Q := by
  induction hc with
  | first q1 q2 q3 => exact h1 _ q1 _ _ q2 q3
  | more _ q2 q3 q4 ih => exact h2 _ ih _ _ q2 q3 q4
/-- The order of contacts. -/
def lt (a b : Ct) : Prop := a.1 < b.1 ∨ (a.1 = b.1 ∧ a.2 < b.2)
theorem lt_irrefl (a : Ct) : ¬ lt a a := by unfold lt; omega
theorem lt_trans {a b c : Ct} (h : lt a b) (k : lt b c) : lt a c := by unfold lt at *; omega
theorem lt_tri (a b : Ct) : lt a b ∨ a = b ∨ lt b a := by
  unfold lt
  by_cases h1 : a.1 < b.1
  · exact .inl (.inl h1)
  · by_cases h2 : b.1 < a.1
    · exact .inr (.inr (.inl h2))
    · by_cases h3 : a.2 < b.2
      · exact .inl (.inr ⟨by omega, h3⟩)
      · by_cases h4 : b.2 < a.2
        · exact .inr (.inr (.inr ⟨by omega, h4⟩))
        · exact .inr (.inl (Prod.ext (by omega) (by omega)))
/-- Strictly in order. -/
def Srt (l : List Ct) : Prop := l.Pairwise lt
theorem Srt.eq : ∀ {l m : List Ct}, Srt l → Srt m → (∀ c, c ∈ l ↔ c ∈ m) → l = m
  | [], [], _, _, _ => rfl
  | [], y :: m, _, _, h => absurd ((h y).2 (by simp)) (by simp)
  | x :: l, [], _, _, h => absurd ((h x).1 (by simp)) (by simp)
  | x :: l, y :: m, hl, hm, h => by
    have hl' := List.pairwise_cons.1 hl
    have hm' := List.pairwise_cons.1 hm
    have hxy : x = y := by
      have h1 := (h x).1 (by simp)
      have h2 := (h y).2 (by simp)
      rcases List.mem_cons.1 h1 with e | h1
      · exact e
      · rcases List.mem_cons.1 h2 with e | h2
        · exact e.symm
        · exact absurd (lt_trans (hl'.1 y h2) (hm'.1 x h1)) (lt_irrefl x)
    subst hxy
    congr 1
    refine Srt.eq hl'.2 hm'.2 fun c => ⟨fun hc => ?_, fun hc => ?_⟩
    · rcases List.mem_cons.1 ((h c).1 (by simp [hc])) with e | e
      · subst e; exact absurd (hl'.1 c hc) (lt_irrefl c)
      · exact e
    · rcases List.mem_cons.1 ((h c).2 (by simp [hc])) with e | e
      · subst e; exact absurd (hm'.1 c hc) (lt_irrefl c)
      · exact e
theorem Srt.nodup {l : List Ct} (h : Srt l) : l.Nodup := List.Pairwise.imp (fun hab e => by subst e; exact lt_irrefl _ hab) h
/-- Lists of small numbers without repetition are short. -/
theorem nodup_short : ∀ (n : Nat) (l : List Nat), l.Nodup → (∀ x ∈ l, x < n) → l.length ≤ n
  | 0, [], _, _ => by simp
  | 0, x :: _, _, h => absurd (h x (by simp)) (by omega)
  | n + 1, l, hd, h => by
    have h1 : (l.erase n).Nodup := hd.erase n
    have h2 : ∀ x ∈ l.erase n, x < n := fun x hx => by
      have hx1 := h x (List.mem_of_mem_erase hx)
      have : x ≠ n := fun e => by subst e; exact (List.Nodup.not_mem_erase hd) hx
      omega
    have := nodup_short n (l.erase n) h1 h2
    by_cases hm : n ∈ l
    · rw [List.length_erase_of_mem hm] at this; omega
    · rw [List.erase_of_not_mem hm] at this; omega
theorem cts_short {a : Ac} (h : Ok a) {l : List Ct} (hd : l.Nodup) (hi : ∀ c ∈ l, InA a c) : l.length ≤ 1024 := by
  have hm : (l.map fun c : Ct => c.1.toNat * 128 + c.2.toNat).Nodup := by
    unfold List.Nodup at *
    rw [List.pairwise_map]
    refine List.Pairwise.imp_of_mem (fun {x y} hx hy hxy e => hxy ?_) hd
    have q1 := (hi x hx).key h
    have q2 := (hi y hy).key h
    exact Prod.ext (by omega) (by omega)
  have := nodup_short 1024 _ hm fun x hx => by
    obtain ⟨c, hc, rfl⟩ := List.mem_map.1 hx
    have q1 := (hi c hc).key h
    omega
  simpa using this
end Cou
end Go.Proofs.YtnfpjcjlapljjaaGreatDoor
namespace Go.Proofs.YtnfpjcjlapljjaaGreatDoor
open Go Go.RowKit
namespace Cou
instance (a b : Ct) : Decidable (lt a b) := by unfold lt; infer_instance
/-- How many contacts come before c. -/
def posF : List Ct → Ct → Nat
  | [], _ => 0
  | x :: l, c => if lt x c then posF l c + 1 else 0
/-- The list with c at its place. -/
def addF (l : List Ct) (c : Ct) : List Ct := if l[posF l c]? = some c then l else l.take (posF l c) ++ [c] ++ l.drop (posF l c)
theorem posF_mem {l : List Ct} {c : Ct} (h : Srt l) (hc : c ∈ l) : l[posF l c]? = some c := by
  induction l with
  | nil => simp at hc
  | cons x l ih =>
    have h' := List.pairwise_cons.1 h
    by_cases hx : lt x c
    · have e : posF (x :: l) c = posF l c + 1 := by rw [posF, if_pos hx]
      rw [e, List.getElem?_cons_succ]
      refine ih h'.2 ?_
      rcases List.mem_cons.1 hc with e2 | e2
      · subst e2; exact absurd hx (lt_irrefl c)
      · exact e2
    · have e : posF (x :: l) c = 0 := by rw [posF, if_neg hx]
      rw [e]
      rcases List.mem_cons.1 hc with e2 | e2
      · subst e2; rfl
      · exact absurd (h'.1 c e2) hx
theorem addF_mem {l : List Ct} {c x : Ct} : x ∈ addF l c ↔ x ∈ l ∨ x = c := by
  unfold addF
  split
  · rename_i e
    constructor
    · intro h; exact .inl h
    · rintro (h | rfl)
      · exact h
      · exact List.mem_of_getElem? e
  · rw [List.mem_append, List.mem_append, List.mem_singleton]
    constructor
    · rintro ((h | h) | h)
      · exact .inl (List.mem_of_mem_take h)
      · exact .inr h
      · exact .inl (List.mem_of_mem_drop h)
    · rintro (h | h)
      · rw [← List.take_append_drop (posF l c) l, List.mem_append] at h
        rcases h with h | h
        · exact .inl (.inl h)
        · exact .inr h
      · exact .inl (.inr h)
theorem take_lt : ∀ (l : List Ct) (c x : Ct), x ∈ l.take (posF l c) → lt x c
  | [], _, _, h => by simp at h
  | y :: l, c, x, h => by
    by_cases hy : lt y c
    · rw [posF, if_pos hy, List.take_succ_cons] at h
      rcases List.mem_cons.1 h with e | e
      · subst e; exact hy
      · exact take_lt l c x e
    · rw [posF, if_neg hy] at h; simp at h
theorem drop_gt : ∀ (l : List Ct) (c : Ct), Srt l → c ∉ l → ∀ x ∈ l.drop (posF l c), lt c x
  | [], _, _, _, x, h => by simp at h
  | y :: l, c, hs, hn, x, h => by
    have hs' := List.pairwise_cons.1 hs
    by_cases hy : lt y c
    · rw [posF, if_pos hy, List.drop_succ_cons] at h
      exact drop_gt l c hs'.2 (fun e => hn (by simp [e])) x h
    · rw [posF, if_neg hy, List.drop_zero] at h
      have hcy : lt c y := by
        rcases lt_tri y c with e | e | e
        · exact absurd e hy
        · subst e; exact absurd (by simp) hn
        · exact e
      rcases List.mem_cons.1 h with e | e
      · subst e; exact hcy
      · exact lt_trans hcy (hs'.1 x e)
theorem addF_srt {l : List Ct} {c : Ct} (h : Srt l) : Srt (addF l c) := by
  unfold addF
  split
  · exact h
  · rename_i e
    have hn : c ∉ l := fun hc => e (posF_mem h hc)
    have h1 : Srt (l.take (posF l c)) := List.Pairwise.sublist (List.take_sublist _ _) h
    have h2 : Srt (l.drop (posF l c)) := List.Pairwise.sublist (List.drop_sublist _ _) h
    unfold Srt
    rw [List.append_assoc, List.pairwise_append]
    refine ⟨h1, List.pairwise_cons.2 ⟨fun x hx => drop_gt l c h hn x hx, h2⟩, fun a ha b hb => ?_⟩
    have hac := take_lt l c a ha
    rcases List.mem_append.1 hb with hb | hb
    · simp only [List.mem_singleton] at hb; subst hb; exact hac
    · exact lt_trans hac (drop_gt l c h hn b hb)
end Cou
end Go.Proofs.YtnfpjcjlapljjaaGreatDoor
namespace Go.Proofs.YtnfpjcjlapljjaaGreatDoor
open Go Go.RowKit
namespace Cou
theorem stepF_none {a : Ac} {i : Nat} (h : a.cps.length ≤ i) (c : Ct) : stepF a i c = none := by
  unfold stepF; rw [List.getElem?_eq_none h]
/-- The reference's list behind i couplers. -/
structure R1 (a : Ac) (c : Ct) (i : Nat) (l : List Ct) : Prop where
  srt : Srt l
  hop : ∀ t ∈ l, Hop a [c] t
  has : ∀ j t, j < i → a.drawn.testBit j = true → stepF a j c = some t → t ∈ l
theorem R1.start (a : Ac) (c : Ct) : R1 a c 0 [] := ⟨List.Pairwise.nil, by simp, fun j t h => absurd h (by omega)⟩
theorem R1.skip {a : Ac} {c : Ct} {i : Nat} {l : List Ct} (h : R1 a c i l) (hn : ∀ t, a.drawn.testBit i = true → stepF a i c ≠ some t) : R1 a c (i + 1) l := ⟨h.srt, h.hop, fun j t hj hb hs => by
  by_cases e : j = i
  · subst e; exact absurd hs (hn t hb)
  · exact h.has j t (by omega) hb hs⟩
theorem R1.add {a : Ac} {c t : Ct} {i : Nat} {l : List Ct} (h : R1 a c i l) (hb : a.drawn.testBit i = true) (hs : stepF a i c = some t) : R1 a c (i + 1) (addF l t) := ⟨addF_srt h.srt, fun x hx => by
  rcases addF_mem.1 hx with e | rfl
  · exact h.hop x e
  · exact .first (by simp) hb hs, fun j x hj hbx hsx => by
  by_cases e : j = i
  · subst e
    rw [hs] at hsx
    injection hsx with hsx
    exact addF_mem.2 (.inr hsx.symm)
  · exact addF_mem.2 (.inl (h.has j x (by omega) hbx hsx))⟩
/-- The list of a round of the outer loop. -/
abbrev R2 (a : Ac) (c : Ct) (l : List Ct) : Prop := R1 a c a.cps.length l
theorem R2.all {a : Ac} {c : Ct} {l : List Ct} (h : R2 a c l) : ∀ j t, a.drawn.testBit j = true → stepF a j c = some t → t ∈ l := fun j t hb hs => by
  by_cases e : j < a.cps.length
  · exact h.has j t e hb hs
  · rw [stepF_none (by omega)] at hs; cases hs
theorem R2.len {a : Ac} {c : Ct} {l : List Ct} (hok : Ok a) (h : R2 a c l) : l.length ≤ 1024 := cts_short hok h.srt.nodup fun x hx => (h.hop x hx).in_ hok
theorem R1.len {a : Ac} {c : Ct} {i : Nat} {l : List Ct} (hok : Ok a) (h : R1 a c i l) : l.length ≤ 1024 := cts_short hok h.srt.nodup fun x hx => (h.hop x hx).in_ hok
/-- The first k contacts are closed, and contact k under i couplers. -/
structure R3 (a : Ac) (c : Ct) (k i : Nat) (l : List Ct) : Prop where
  two : R2 a c l
  closed : ∀ m, m < k → ∀ x, l[m]? = some x → ∀ j t, a.drawn.testBit j = true → thruF a j = true → stepF a j x = some t → t ∈ l
  here : ∀ x, l[k]? = some x → ∀ j t, j < i → a.drawn.testBit j = true → thruF a j = true → stepF a j x = some t → t ∈ l
theorem R3.start {a : Ac} {c : Ct} {l : List Ct} (h : R2 a c l) : R3 a c 0 0 l := ⟨h, fun m hm => absurd hm (by omega), fun x _ j t hj => absurd hj (by omega)⟩
theorem R3.skip {a : Ac} {c x : Ct} {k i : Nat} {l : List Ct} (h : R3 a c k i l) (hx : l[k]? = some x) (hn : ∀ t, a.drawn.testBit i = true → thruF a i = true → stepF a i x = some t → t ∈ l) : R3 a c k (i + 1) l := ⟨h.two, h.closed, fun y hy j t hj hb ht hs => by
  by_cases e : j = i
  · subst e
    rw [hx] at hy
    injection hy with hy
    subst hy
    exact hn t hb ht hs
  · exact h.here y hy j t (by omega) hb ht hs⟩
theorem R3.next {a : Ac} {c : Ct} {k : Nat} {l : List Ct} (h : R3 a c k a.cps.length l) : R3 a c (k + 1) 0 l := ⟨h.two, fun m hm x hx j t hb ht hs => by
  by_cases e : m = k
  · subst e
    by_cases hj : j < a.cps.length
    · exact h.here x hx j t hj hb ht hs
    · rw [stepF_none (by omega)] at hs; cases hs
  · exact h.closed m (by omega) x hx j t hb ht hs, fun x _ j t hj => absurd hj (by omega)⟩
theorem R3.grow {a : Ac} {c x t : Ct} {k i : Nat} {l : List Ct} (h : R3 a c k i l) (hx : l[k]? = some x) (hb : a.drawn.testBit i = true) (ht : thruF a i = true) (hs : stepF a i x = some t) : R2 a c (addF l t) := ⟨addF_srt h.two.srt, fun y hy => by
  rcases addF_mem.1 hy with e | rfl
  · exact h.two.hop y e
  · exact .more (h.two.hop x (List.mem_of_getElem? hx)) hb ht hs, fun j y hj hbx hsx => addF_mem.2 (.inl (h.two.has j y hj hbx hsx))⟩
theorem R3.done {a : Ac} {c : Ct} {l : List Ct} (h : R3 a c l.length 0 l) (t : Ct) : t ∈ l ↔ Hop a [c] t :=
  ⟨h.two.hop t, fun ht => Hop.sub (fun p hp i t hb hs => by
    simp only [List.mem_singleton] at hp
    subst hp
    exact R2.all h.two i t hb hs) (fun x hx i t hb hth hs => by
    obtain ⟨m, hm, rfl⟩ := List.getElem_of_mem hx
    exact h.closed m hm _ (List.getElem?_eq_getElem hm) i t hb hth hs) ht⟩
end Cou
end Go.Proofs.YtnfpjcjlapljjaaGreatDoor
