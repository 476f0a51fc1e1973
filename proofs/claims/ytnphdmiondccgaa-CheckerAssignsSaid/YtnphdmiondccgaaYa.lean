/- Rows of ints and of bools in memory, each a block of its own. -/
import Derived.Test.YtnphdmiondccgaaYq
import Derived.Test.YtnphdmiondccgaaRegion
import Derived.Lib.LazyBuf
namespace Go.Proofs.Ytnphdmiondccgaa
open Go Go.RowKit
/-- Block g is the row l. -/
def RI (w : World) (g : Nat) (l : List Int) : Prop := w.rowIs g 3 l.length (fun j => .int .i64 (Asg.g0 l j))
def RB (w : World) (g : Nat) (l : List Bool) : Prop := w.rowIs g 4 l.length (fun j => .bool (l.getD j false))
section
variable {w w' : World} {g : Nat} {l : List Int} {d : List Bool}
theorem RI.cell (h : RI w g l) {k : Nat} (hk : k < l.length) : w.cell? ⟨g, k, none⟩ = some (.int .i64 (Asg.g0 l k)) := World.rowIs.cell h hk
theorem RI.fro (h : RI w g l) (k : Nat) : w.frozen? ⟨g, k, none⟩ = false := World.rowIs.frozen h k
theorem RI.lt (h : RI w g l) : g < w.heap.size := World.rowIs.lt h
theorem RI.set (h : RI w g l) (k : Nat) (x : Int) : RI (w.setCell ⟨g, k, none⟩ (.int .i64 x)) g (l.set k x) := by
  unfold RI
  rw [List.length_set]
  refine (World.rowIs.set h k (.int .i64 x)).congr fun j hj => ?_
  unfold Asg.g0
  by_cases e : j = k
  · subst e; simp [hj]
  · simp [e, Ne.symm e]
theorem RI.blk (h : RI w g l) (e : w'.heap[g]? = w.heap[g]?) : RI w' g l := World.rowIs.of_block h e
theorem RI.far (h : RI w g l) {p : Addr} (hp : g ≠ p.block) (u : Value) : RI (w.setCell p u) g l := World.rowIs.setOther h hp u
theorem RI.alloc (h : RI w g l) (o : Obj) : RI (w.alloc o) g l := World.rowIs.alloc h o
theorem RI.drewN (h : RI w g l) (n : Nat) : RI (w.drewN n) g l := h
theorem RI.drew (h : RI w g l) : RI w.drew g l := h
theorem RI.below (h : RI w g l) (hb : Below w.heap.size w w') : RI w' g l := h.blk (hb.block _ h.lt)
theorem RB.cell (h : RB w g d) {k : Nat} (hk : k < d.length) : w.cell? ⟨g, k, none⟩ = some (.bool (d.getD k false)) := World.rowIs.cell h hk
theorem RB.fro (h : RB w g d) (k : Nat) : w.frozen? ⟨g, k, none⟩ = false := World.rowIs.frozen h k
theorem RB.lt (h : RB w g d) : g < w.heap.size := World.rowIs.lt h
theorem RB.set (h : RB w g d) (k : Nat) (x : Bool) : RB (w.setCell ⟨g, k, none⟩ (.bool x)) g (d.set k x) := by
  unfold RB
  rw [List.length_set]
  refine (World.rowIs.set h k (.bool x)).congr fun j hj => ?_
  by_cases e : j = k
  · subst e; simp [hj]
  · simp [e, Ne.symm e]
theorem RB.blk (h : RB w g d) (e : w'.heap[g]? = w.heap[g]?) : RB w' g d := World.rowIs.of_block h e
theorem RB.far (h : RB w g d) {p : Addr} (hp : g ≠ p.block) (u : Value) : RB (w.setCell p u) g d := World.rowIs.setOther h hp u
theorem RB.alloc (h : RB w g d) (o : Obj) : RB (w.alloc o) g d := World.rowIs.alloc h o
theorem RB.drewN (h : RB w g d) (n : Nat) : RB (w.drewN n) g d := h
theorem RB.drew (h : RB w g d) : RB w.drew g d := h
theorem RB.below (h : RB w g d) (hb : Below w.heap.size w w') : RB w' g d := h.blk (hb.block _ h.lt)
theorem RI.made (w : World) (n : Nat) (x : Int) : RI (w.alloc (.cells (List.replicate n (Value.int .i64 x)).toArray 3)) w.heap.size (List.replicate n x) := by
  unfold RI
  have h := World.rowIs_alloc w (List.replicate n (Value.int .i64 x)).toArray 3 (fun j => .int .i64 (Asg.g0 (List.replicate n x) j)) fun i hi => by
    simp only [List.size_toArray, List.length_replicate] at hi
    rw [Asg.g0_replicate hi]
    simp [hi]
  simpa using h
theorem RB.made (w : World) (n : Nat) : RB (w.alloc (.cells (List.replicate n (Value.bool false)).toArray 4)) w.heap.size (List.replicate n false) := by
  unfold RB
  have h := World.rowIs_alloc w (List.replicate n (Value.bool false)).toArray 4 (fun j => .bool ((List.replicate n false).getD j false)) fun i hi => by
    simp only [List.size_toArray, List.length_replicate] at hi
    rw [Asg.getD_false]
    simp [hi]
  simpa using h
theorem RI.madeA (w : World) (n : Nat) (x : Int) : RI (w.alloc (.cells (Array.replicate n (Value.int .i64 x)) 3)) w.heap.size (List.replicate n x) := RI.made w n x
theorem RB.madeA (w : World) (n : Nat) : RB (w.alloc (.cells (Array.replicate n (Value.bool false)) 4)) w.heap.size (List.replicate n false) := RB.made w n
theorem RI.made1 (w : World) (n : Nat) (x : Int) (o : Obj) : RI ((w.alloc (.cells (Array.replicate n (Value.int .i64 x)) 3)).alloc o).drew w.heap.size (List.replicate n x) := (RI.madeA w n x).alloc o
theorem RI.made2 (w : World) (n : Nat) (x : Int) (o : Obj) : RI ((w.alloc o).alloc (.cells (Array.replicate n (Value.int .i64 x)) 3)).drew (w.heap.size + 1) (List.replicate n x) := by
  have h := RI.madeA (w.alloc o) n x
  rw [World.size_alloc] at h
  exact h
/-- A row, or what is left of it from a place on, read as a list. -/
theorem addr0 (g j : Nat) : (⟨g, 0, none⟩ : Addr).add j = ⟨g, j, none⟩ := by
  unfold Addr.add
  split
  · rename_i w0; rw [w0]
  · simp
theorem addrk (g k j : Nat) : (⟨g, k, none⟩ : Addr).add j = ⟨g, k + j, none⟩ := by
  unfold Addr.add
  split
  · rename_i w0; rw [w0]; rfl
  · rfl
theorem RI.sl (h : RI w g l) (hl : l.length ≤ 1000000) (k : Nat) (hk : k ≤ l.length) {F : Nat → Prop} (hF : F g) : SlI F w (.slice (some ⟨g, k, none⟩) (l.length - k) (l.length - k)) (l.drop k) := by
  have e : (l.drop k).length = l.length - k := List.length_drop
  refine ⟨some ⟨g, k, none⟩, l.length - k, by rw [e], by rw [e]; omega, by rw [e]; omega, fun i hi => ?_⟩
  rw [e] at hi
  refine ⟨⟨g, k, none⟩, [.int .i64 (l.drop k)[i]], rfl, hF, rfl, rfl, fun j u hu => ?_⟩
  cases j with
  | zero =>
    simp at hu
    subst hu
    have := h.cell (k := k + i) (by omega)
    rw [addrk, addrk]
    rw [show k + i * 1 + 0 = k + i by omega, this]
    unfold Asg.g0
    rw [List.getD_eq_getElem?_getD, List.getElem?_eq_getElem (by omega)]
    simp
  | succ j => simp at hu
end
end Go.Proofs.Ytnphdmiondccgaa
