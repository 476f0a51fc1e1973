/- Plain: when a sound is right. -/
import Derived.Test.YtnfpjcjlapljjaaGreatDoorDk
import Derived.Test.YtnfpjcjlapljjaaGreatDoorDm
namespace Go.Proofs.YtnfpjcjlapljjaaGreatDoor
open Go Go.RowKit Go.Shelf
open Org
namespace Org
def allI {α : Type} (f : Nat → α → Bool) (l : List α) : Bool := (l.mapIdx f).all id
theorem allI_true {α : Type} {f : Nat → α → Bool} {l : List α} (h : ∀ k (hk : k < l.length), f k l[k] = true) : allI f l = true := List.all_eq_true.2 fun b hb => by
  obtain ⟨i, hi, rfl⟩ := List.mem_mapIdx.1 hb
  exact h i hi
theorem allI_false {α : Type} {f : Nat → α → Bool} {l : List α} (k : Nat) (hk : k < l.length) (h : f k l[k] = false) : allI f l = false := by
  cases hc : allI f l with
  | false => rfl
  | true =>
    have := List.all_eq_true.1 hc _ (List.mem_mapIdx.2 ⟨k, hk, rfl⟩)
    rw [show id (f k l[k]) = f k l[k] from rfl, h] at this
    cases this
theorem all_trueO {α : Type} {f : α → Bool} {l : List α} (h : ∀ k (hk : k < l.length), f l[k] = true) : l.all f = true := List.all_eq_true.2 fun b hb => by
  obtain ⟨i, hi, rfl⟩ := List.getElem_of_mem hb
  exact h i hi
theorem all_falseO {α : Type} {f : α → Bool} {l : List α} (k : Nat) (hk : k < l.length) (h : f l[k] = false) : l.all f = false := by
  cases hc : l.all f with
  | false => rfl
  | true =>
    have := List.all_eq_true.1 hc _ (List.getElem_mem hk)
    rw [h] at this
    cases this
def stOk (nr : Nat) (s : Stp) : Bool := s.segs.all (sgOk nr)
def dvOk (s : Snd) (i : Nat) (d : Dvs) : Bool := decide (d.stops.length ≤ 60) && compB d.lo d.hi (s.keys.getD i 0) && decide (s.r.stops.getD i 0 >>> d.stops.length = 0) && d.stops.all (stOk s.o.ranks.length)
def cpOk (nd : Nat) (c : Cpl) : Bool := (decide (0 ≤ c.src) && decide (c.src ≤ (nd : Int) - 1)) && (decide (0 ≤ c.dst) && decide (c.dst ≤ (nd : Int) - 1)) && (decide (-1000 ≤ c.shift) && decide (c.shift ≤ 1000))
def rkOk (r : Rnk) : Bool := decide (-1000 ≤ r.first) && decide (r.first ≤ 1000)
def headOk (s : Snd) : Bool := decide (1 ≤ s.o.divs.length) && decide (s.o.divs.length ≤ 8) && decide (s.o.cpls.length ≤ 40) && decide (s.r.stops.length = s.o.divs.length) && decide (s.keys.length = s.o.divs.length)
def bitOk (s : Snd) : Bool := decide (s.r.cpl >>> s.o.cpls.length = 0) && decide (s.r.off >>> s.o.divs.length = 0)
def pipeOk (s : Snd) : Bool := decide (0 ≤ s.rank) && decide (s.rank ≤ (s.o.ranks.length : Int) - 1) && (decide (0 ≤ s.num) && decide (s.num ≤ (windN s.o.ranks s.rank.toNat : Int) - 1))
/-- Whether a sound is right. -/
def rightF (s : Snd) : Bool := headOk s && bitOk s && s.o.ranks.all rkOk && allI (dvOk s) s.o.divs && s.o.cpls.all (cpOk s.o.divs.length) && pipeOk s
structure Snd.Num (s : Snd) : Prop where
  keys : ∀ x ∈ s.keys, x < 2 ^ 128
  stops : ∀ x ∈ s.r.stops, x < 2 ^ 64
  cpl : s.r.cpl < 2 ^ 64
  off : s.r.off < 2 ^ 64
end Org
end Go.Proofs.YtnfpjcjlapljjaaGreatDoor
