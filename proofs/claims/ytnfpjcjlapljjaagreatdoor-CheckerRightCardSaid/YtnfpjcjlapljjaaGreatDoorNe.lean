/- Walks over noteset: the iterator over the notes of a set. Walks over noteset: the members of a set, collected. -/
import Derived.Test.YtnfpjcjlapljjaaGreatDoorNc
import Derived.Test.YtnfpjcjlapljjaaGreatDoorKa
import Derived.Test.YtnfpjcjlapljjaaGreatDoorKd
namespace Go.Proofs.YtnfpjcjlapljjaaGreatDoor
open Go Go.RowKit Go.Shelf
attribute [local go_sem] Oper.semAt_some
namespace Nt
/-- The notes of a set, in order. -/
def mem (x : Nat) : List Nat := Hit.members (lo x) ++ (Hit.members (hi x)).map (64 + ·)
end Nt
end Go.Proofs.YtnfpjcjlapljjaaGreatDoor
namespace Go.Proofs.YtnfpjcjlapljjaaGreatDoor
open Go Go.RowKit Go.Shelf
attribute [local go_sem] Oper.semAt_some
theorem infoIn : (Tryz.prog.info? 3).map (fun i => (i.zero, i.size, i.bytes)) = some (some (.int .i64 0), 1, 8) := by kernel_rfl
theorem elemIn : ElemN Tryz.prog 59 3 1 8 := ⟨Tryz.underlying59, by
  obtain ⟨i, hi, hz, hs, hb⟩ := info_parts infoIn
  exact ⟨i, _, hi, hz, hs, hb, rfl⟩⟩
/-- What lies between two rounds of AppendSeq. -/
def MI (sb n₀ : Nat) (w : World) (pre : List (Fin 128)) (W : World) : Prop := ∃ v, OwnL (sb + 1) 3 1 IntC W v (pre.map fun i => (i.val : Int)) ∧ Blk W sb 59 #[v] ∧ Below n₀ w W
theorem MI.turn {sb n₀ B : Nat} {w : World} (_hB : sb < B) (hn : n₀ ≤ B) (hw : n₀ ≤ w.heap.size) : OwnFrom B (fun pre : List (Fin 128) => MI sb n₀ w pre) := fun pre A W row hs hg hr => by
  have hr' : ∀ r, row = some r → ∃ o : Obj, A.heap[r]? = some o ∧ o.isCells = false := fun r e => (hr r e).2
  obtain ⟨v, hO, hS, hb⟩ := hs
  refine ⟨v, ?_, hS.grown hg (hS.not_turned hr'), hb.grown hg (Nat.le_trans hw hb.size) fun k e => Nat.le_trans hn (hr k e).1⟩
  exact hO.keep rfl (fun xs hx => hx.kept hg (by
    cases hv : v.ownBlock with
    | none => exact .inl rfl
    | some g =>
      refine .inr fun e => ?_
      obtain ⟨o, h1, h2⟩ := own_cells hx g hv
      obtain ⟨o', h3, h4⟩ := hr' g e.symm
      rw [h1] at h3
      injection h3 with h3
      subst h3
      rw [h2] at h4; cases h4)) fun _ _ h => h
end Go.Proofs.YtnfpjcjlapljjaaGreatDoor
