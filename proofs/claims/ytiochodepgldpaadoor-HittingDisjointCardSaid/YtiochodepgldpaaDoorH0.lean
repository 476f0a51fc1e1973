/- Walks over hitting: slices of words; the first index at which a closure holds. -/
import Derived.Test.YtiochodepgldpaaDoorRows
import Derived.Test.YtiochodepgldpaaDoorApp
import Derived.Test.YtiochodepgldpaaDoorBits
import Derived.Test.YtiochodepgldpaaDoorCovP
import Derived.WalkKit
import Derived.WalkSpells
import Derived.WalkLawsBesides
import Derived.StillTactics
import Derived.LoopTactic
import Derived.Deep.LoopGhost
import Derived.Outline
import Derived.Handy
import Derived.Shelf.Abstract
import Derived.BigQuiet
namespace Go.Proofs.YtiochodepgldpaaDoor
open Go Go.RowKit

/-- A cell that is an unsigned integer of kind k. -/
def UCell (k : IntKind) (_ : World) (cs : List Value) (x : Nat) : Prop := cs = [.int k (x : Int)]
abbrev SlU (k : IntKind) (F : Nat → Prop) (w : World) (v : Value) (l : List Nat) : Prop := Sl F 1 (UCell k) w v l
theorem SlU.open {k : IntKind} {F : Nat → Prop} {w : World} {v : Value} {l : List Nat} (h : SlU k F w v l) : ∃ A c, v = .slice A l.length c ∧ l.length ≤ c ∧ l.length ≤ 140737488355328 ∧
    ∀ i (hi : i < l.length), ∃ ad, A = some ad ∧ F ad.block ∧ w.cell? (ad.add i) = some (.int k ((l[i] : Nat) : Int)) := by
  obtain ⟨A, c, hv, hc, hl, hi⟩ := h
  refine ⟨A, c, hv, hc, hl, fun i hil => ?_⟩
  obtain ⟨ad, cs, hA, hF, hk, hr, hcell⟩ := hi i hil
  unfold UCell at hr
  subst hr
  exact ⟨ad, hA, hF, by simpa using hcell.f0 rfl⟩
theorem SlU.keep {k : IntKind} {F : Nat → Prop} {w w' : World} {v : Value} {l : List Nat} (h : SlU k F w v l) (ha : Agree F w w') : SlU k F w' v l := Sl.keep h ha fun _ _ hr => hr
/-- The sets of a problem. -/
def setsOf (ws : List Nat) : List (List Int) := ws.map fun s => Hit.ints (Hit.members s)
theorem ints_length (l : List Nat) : (Hit.ints l).length = l.length := by simp [Hit.ints]
theorem ints_get (l : List Nat) (i : Nat) (h : i < (Hit.ints l).length) : (Hit.ints l)[i] = ((l[i]'(by rw [← ints_length]; exact h) : Nat) : Int) := by simp [Hit.ints]
/-- A closure on words that answers by p, in every world in which all that lay in w lies. -/
def PredU (k : IntKind) (p : Nat → Bool) (g : Nat) (lb : Array Value) (w : World) (l : List Nat) : Prop :=
  ∀ (W : World) (x : Nat), x ∈ l → Below w.heap.size w W → Calls Tryd.prog g (#[.int k (x : Int)] ++ lb) W fun e w' => e = .returned (.bool (p x)) ∧ W = w'
end Go.Proofs.YtiochodepgldpaaDoor
