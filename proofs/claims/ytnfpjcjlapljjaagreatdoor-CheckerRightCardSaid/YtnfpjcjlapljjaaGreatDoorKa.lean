/- Walks over coupler: an action in memory; in, step, contact. Walks over coupler: TrailingZeros64; the iterator over the drawn couplers. Walks over coupler: the map of seen contacts; a row of contacts; an append within a round. -/
import Derived.Test.YtnfpjcjlapljjaaGreatDoorRows
import Derived.Test.YtnfpjcjlapljjaaGreatDoorRegion
import Derived.Test.YtnfpjcjlapljjaaGreatDoorKp
import Derived.Deep.RegionHeld3
import Derived.BigQuiet
import Derived.BigGuardPart
import Derived.Deep.CutRange
import Derived.Deep.OwnRows
import Derived.Laws.BitsAllLaws
import Derived.WalkKit
import Derived.WalkSpells
import Derived.WalkLawsBesides
import Derived.StillTactics
import Derived.LoopTactic
import Derived.Deep.LoopGhost
import Derived.Outline
import Derived.Handy
import Derived.Shelf.Abstract
import Derived.Test.YtnfpjcjlapljjaaGreatDoorCovP
import Derived.Shelf.Spec.TrailingZeros
import Derived.RangeFuncWrites
import Derived.RangeFuncCalls
import Derived.RangeFuncLeaves
import Derived.OwnWalkIn
import Derived.TacticsInMore
import Derived.LoopNIn
import Derived.LoopIn
import Derived.Maps.OwnIn
import Derived.DeepKeys3
import Derived.Maps.AppendAt
namespace Go.Proofs.YtnfpjcjlapljjaaGreatDoor
open Go Go.RowKit
/-- The cells of a compass, of a coupler, of a contact. -/
def CmpC (_ : World) (cs : List Value) (x : Int × Int) : Prop := cs = [.int .i64 x.1, .int .i64 x.2]
def CplC (_ : World) (cs : List Value) (x : Cou.Cpl) : Prop := cs = [.string x.name, .int .i64 x.from_, .int .i64 x.to, .int .i64 x.shift, .bool x.thru]
abbrev SlD (F : Nat → Prop) (w : World) (v : Value) (l : List (Int × Int)) : Prop := Sl F 2 CmpC w v l
abbrev SlCp (F : Nat → Prop) (w : World) (v : Value) (l : List Cou.Cpl) : Prop := Sl F 5 CplC w v l
theorem SlD.keep {F : Nat → Prop} {w w' : World} {v : Value} {l : List (Int × Int)} (h : SlD F w v l) (ha : Agree F w w') : SlD F w' v l := Sl.keep h ha fun _ _ hr => hr
theorem SlCp.keep {F : Nat → Prop} {w w' : World} {v : Value} {l : List Cou.Cpl} (h : SlCp F w v l) (ha : Agree F w w') : SlCp F w' v l := Sl.keep h ha fun _ _ hr => hr
theorem SlD.open {F : Nat → Prop} {w : World} {v : Value} {l : List (Int × Int)} (h : SlD F w v l) : ∃ A c, v = .slice A l.length c ∧ l.length ≤ c ∧
    ∀ i (hi : i < l.length), ∃ ad, A = some ad ∧ F ad.block ∧ Flds w (ad.add (i * 2)) [.int .i64 l[i].1, .int .i64 l[i].2] := by
  obtain ⟨A, c, hv, hc, _, hi⟩ := h
  refine ⟨A, c, hv, hc, fun i hil => ?_⟩
  obtain ⟨ad, cs, hA, hF, hk, hr, hcell⟩ := hi i hil
  unfold CmpC at hr
  subst hr
  exact ⟨ad, hA, hF, hcell⟩
theorem SlCp.open {F : Nat → Prop} {w : World} {v : Value} {l : List Cou.Cpl} (h : SlCp F w v l) : ∃ A c, v = .slice A l.length c ∧ l.length ≤ c ∧
    ∀ i (hi : i < l.length), ∃ ad, A = some ad ∧ F ad.block ∧ Flds w (ad.add (i * 5)) [.string l[i].name, .int .i64 l[i].from_, .int .i64 l[i].to, .int .i64 l[i].shift, .bool l[i].thru] := by
  obtain ⟨A, c, hv, hc, _, hi⟩ := h
  refine ⟨A, c, hv, hc, fun i hil => ?_⟩
  obtain ⟨ad, cs, hA, hF, hk, hr, hcell⟩ := hi i hil
  unfold CplC at hr
  subst hr
  exact ⟨ad, hA, hF, hcell⟩
/-- An action in memory. -/
structure AcAt (F : Nat → Prop) (w : World) (vd vc : Value) (a : Cou.Ac) : Prop where
  inW : ∀ b, F b → b < w.heap.size
  dv : SlD F w vd a.divs
  cp : SlCp F w vc a.cps
theorem AcAt.on {F : Nat → Prop} {w w' : World} {vd vc : Value} {a : Cou.Ac} (h : AcAt F w vd vc a) (hb : Below w.heap.size w w') : AcAt F w' vd vc a :=
  ⟨fun b q => Nat.lt_of_lt_of_le (h.inW b q) hb.size, h.dv.keep (Agree.below hb h.inW), h.cp.keep (Agree.below hb h.inW)⟩
/-- It lies wherever what lies below B lies. -/
theorem AcAt.onB {F : Nat → Prop} {B : Nat} {w w' : World} {vd vc : Value} {a : Cou.Ac} (h : AcAt F w vd vc a) (hF : ∀ b, F b → b < B) (hb : Below B w w') : AcAt F w' vd vc a :=
  ⟨fun b q => Nat.lt_of_lt_of_le (h.inW b q) hb.size, h.dv.keep (Agree.below hb hF), h.cp.keep (Agree.below hb hF)⟩
end Go.Proofs.YtnfpjcjlapljjaaGreatDoor
namespace Go.Proofs.YtnfpjcjlapljjaaGreatDoor
open Go Go.RowKit Go.Shelf
attribute [local go_sem] Oper.semAt_some
/-- The table of TrailingZeros64 lies in its variable. -/
def Tab64 (w : World) : Prop := TabAt 3 Lib.deBruijn64tab w
theorem Tab64.below {w w' : World} (h : Tab64 w) (hb : Below w.heap.size w w') : Tab64 w' := fun j hj => (hb.cell (p := ⟨3, j, none⟩) (World.block_lt_of_cell? _ _ (h j hj))).trans (h j hj)
theorem Tab64.onB {B : Nat} {w w' : World} (h : Tab64 w) (hB : 3 < B) (hb : Below B w w') : Tab64 w' := fun j hj => (hb.cell (p := ⟨3, j, none⟩) hB).trans (h j hj)
end Go.Proofs.YtnfpjcjlapljjaaGreatDoor
namespace Go.Proofs.YtnfpjcjlapljjaaGreatDoor
open Go Go.RowKit
open Go.Maps (Keyed)
/-- A contact as a value. -/
def ctV (c : Cou.Ct) : Value := .agg #[.int .i64 c.1, .int .i64 c.2]
/-- The map of the contacts that have been seen. -/
def SeenC (l : List Cou.Ct) (mb : Nat) (w : World) : Prop := ∃ es, MapAt w mb es ∧ (∀ p ∈ es, ∃ c ∈ l, p = (ctV c, .bool true)) ∧ ∀ c ∈ l, (ctV c, .bool true) ∈ es
theorem SeenC.lt {l : List Cou.Ct} {mb : Nat} {w : World} (h : SeenC l mb w) : mb < w.heap.size := by
  obtain ⟨es, h1, _⟩ := h
  exact h1.lt
theorem SeenC.of_block {l : List Cou.Ct} {mb : Nat} {w w' : World} (h : SeenC l mb w) (e : w'.heap[mb]? = w.heap[mb]?) : SeenC l mb w' := by
  obtain ⟨es, h1, h2⟩ := h
  exact ⟨es, h1.of_block e, h2⟩
section
variable {F : Fence} {m : Nat} {P : Program} {ops : Array Oper} {rest : List Oper} {o : Oper} {a : Act} {Q : Exit → Act → World → Prop} {w : World}
end
section
variable {ab qb mb sb base : Nat} {vd vc : Value} {dr : Nat} {v : Value} {Q : List Cou.Ct} {w w' : World}
theorem Blk.not_turned {b : Nat} {t : TypeId} {cs : Array Value} {row : Option Nat} (h : Blk w b t cs) (hr : ∀ r, row = some r → ∃ o : Obj, w.heap[r]? = some o ∧ o.isCells = false) : some b ≠ row := fun e => by
  obtain ⟨o, ho, hc⟩ := hr b e.symm
  have h2 : w.heap[b]? = some (.cells cs t (0, 0)) := h
  rw [h2] at ho
  injection ho with ho
  subst ho
  cases hc
end
end Go.Proofs.YtnfpjcjlapljjaaGreatDoor
