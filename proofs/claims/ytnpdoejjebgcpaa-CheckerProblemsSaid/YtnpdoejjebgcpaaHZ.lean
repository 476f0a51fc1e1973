/- Walks over the reference of hitting: the test of a proof tree. -/
import Derived.Test.YtnpdoejjebgcpaaHW
import Derived.Deep.OwnRows
import Derived.Deep.CutRange
import Derived.BigRegion
namespace Go.Proofs.Ytnpdoejjebgcpaa
open Go Go.RowKit
theorem made1 (W : World) (z : Value) (n : Nat) (t : TypeId) (o2 o3 : Obj) : (((W.alloc (.cells (madeCells #[z] n) t)).alloc o2).alloc o3).drew.rowIs W.heap.size t n (fun _ => z) := ((World.rowIs_made W z n t).alloc _).alloc _
theorem made2 (W : World) (z : Value) (n : Nat) (t : TypeId) (o1 o3 : Obj) : (((W.alloc o1).alloc (.cells (madeCells #[z] n) t)).alloc o3).drew.rowIs (W.heap.size + 1) t n (fun _ => z) := by
  have := World.rowIs_made (W.alloc o1) z n t
  rw [World.size_alloc] at this
  exact this.alloc _
theorem made3 (W : World) (z : Value) (n : Nat) (t : TypeId) (o1 o2 : Obj) : (((W.alloc o1).alloc o2).alloc (.cells (madeCells #[z] n) t)).drew.rowIs (W.heap.size + 1 + 1) t n (fun _ => z) := by
  have := World.rowIs_made ((W.alloc o1).alloc o2) z n t
  rw [World.size_alloc, World.size_alloc] at this
  exact this
theorem made_below (W : World) (o1 o2 o3 : Obj) : Below W.heap.size W (((W.alloc o1).alloc o2).alloc o3).drew := (Ba (Ba (Ba (B0 W) o1) o2) o3).drew
theorem bit_of (v p : Nat) : ((((v >>> p) &&& 1 : Nat) : Int) == 1) = v.testBit p := by
  rw [Nat.testBit_eq_decide_div_mod_eq, Nat.and_one_is_mod, Nat.shiftRight_eq_div_pow]
  by_cases h : v / 2 ^ p % 2 = 1
  · rw [h]; rfl
  · have : v / 2 ^ p % 2 = 0 := by omega
    rw [this]; rfl
theorem shr_of (v p : Nat) (h : p ≤ 64) : ((v : Nat) : Int) / 2 ^ p = ((v >>> p : Nat) : Int) := by
  have := Hit.shr_nat v p 64 h
  rw [Nat.min_eq_left h, Int.fdiv_eq_ediv_of_nonneg _ (Int.pow_nonneg (by decide))] at this
  exact this
theorem row_set {α : Type} {w : World} {b n : Nat} {t : TypeId} {l : List α} {d : α} {f : α → Value} (h : w.rowIs b t n (fun j => f (l.getD j d))) (hl : l.length = n) (i : Nat) (x : α) : (w.setCell ⟨b, i, none⟩ (f x)).rowIs b t n (fun j => f ((l.set i x).getD j d)) :=
  (h.set i (f x)).congr fun j hj => by
    have hj' : j < l.length := by omega
    by_cases e : j = i
    · subst e; simp [hj']
    · simp [e, Ne.symm e, hj']
theorem set2_other {w : World} (p q r : Addr) {u v : Value} (h1 : r.block ≠ p.block) (h2 : r.block ≠ q.block) : ((w.setCell p u).setCell q v).drew.cell? r = w.cell? r := by
  show ((w.setCell p u).setCell q v).cell? r = _
  rw [World.cell?_of_block (w := w.setCell p u) (Below.heap_setCell _ q v r.block h2), World.cell?_of_block (w := w) (Below.heap_setCell _ p u r.block h1)]
theorem mem_set2 {l : List Nat} {B i j x y : Nat} (h : ∀ z ∈ l, z < B) (hx : x < B) (hy : y < B) : ∀ z ∈ (l.set i x).set j y, z < B := fun z hz => by
  rcases List.mem_or_eq_of_mem_set hz with h1 | rfl
  · rcases List.mem_or_eq_of_mem_set h1 with h2 | rfl
    · exact h z h2
    · exact hx
  · exact hy
end Go.Proofs.Ytnpdoejjebgcpaa
