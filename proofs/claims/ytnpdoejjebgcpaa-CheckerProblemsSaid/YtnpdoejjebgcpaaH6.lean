/- Walks over the reference of hitting: equal lists, the list of bits, the bits of a list. Walks over the reference of hitting: the bits of a list, the error of a list, the first set that is missed, what is left of a list. Words for drawn regions: a call that makes memory, its result a plain value. -/
import Derived.Test.YtnpdoejjebgcpaaH5
import Derived.IntWalk
import Derived.BigQuiet
import Derived.BigGuardPart
namespace Go.Proofs.Ytnpdoejjebgcpaa
open Go Go.RowKit
theorem eq_dropI (a b : List Int) (k : Nat) (ha : k < a.length) (hb : k < b.length) : decide (a.drop k = b.drop k) = (decide (a[k] = b[k]) && decide (a.drop (k + 1) = b.drop (k + 1))) := by
  have e1 := List.drop_eq_getElem_cons ha
  have e2 := List.drop_eq_getElem_cons hb
  rw [e1, e2]
  generalize a[k] = x
  generalize b[k] = y
  by_cases h : x = y <;> simp [h]
/-- The bits below i. -/
def lowB (x i : Nat) : List Nat := (List.range i).filter fun j => x.testBit j
theorem lowB_succ (x i : Nat) : lowB x (i + 1) = lowB x i ++ (if x.testBit i then [i] else []) := by
  unfold lowB
  rw [List.range_succ, List.filter_append, List.filter_cons, List.filter_nil]
theorem lowB_len (x i : Nat) : (lowB x i).length ≤ i := Nat.le_trans (List.length_filter_le _ _) (by simp)
theorem lowB_end {x i : Nat} (h : x >>> i = 0) (hi : i ≤ 64) : lowB x i = Hit.members x := by
  obtain ⟨d, hd⟩ := Nat.exists_eq_add_of_le hi
  unfold lowB Hit.members
  rw [hd, List.range_add, List.filter_append]
  have : ((List.range d).map (i + ·)).filter (fun j => x.testBit j) = [] := by
    rw [List.filter_eq_nil_iff]
    intro j hj
    obtain ⟨k, _, rfl⟩ := List.mem_map.1 hj
    rw [Hit.shr_zero h (by omega)]; simp
  rw [this, List.append_nil]
theorem lowB_all (x : Nat) : lowB x 64 = Hit.members x := rfl
end Go.Proofs.Ytnpdoejjebgcpaa
namespace Go.Proofs.Ytnpdoejjebgcpaa
open Go Go.RowKit
end Go.Proofs.Ytnpdoejjebgcpaa
namespace Go.Proofs.Ytnpdoejjebgcpaa
open Go Go.RowKit
theorem wp_region_class_lit {P : Program} {C : World → Prop} {id : Nat} {Q : Exit → Act → World → Prop} {a : Act} {w : World} {l : List Oper} (hm : P.follows .mixedOrders = true) (hB : Region.lexB .any l.toArray = true) (hC : C { w with drawn := w.drawn + 1 })
    (h : wpQuiet P l.toArray C (fun a' => ∀ w', C w' → Q .normal a' w') l a) : (Code.region id l.toArray true).wp P Q a w :=
  wp_region_quiet (C := C) hm hB hC (by simpa using h)
/-- The worlds that leave all that was in w1. -/
def Cls (w1 : World) : Type := { x : World // Below w1.heap.size w1 x }
def Cls.w {w1 : World} (q : Cls w1) : World := q.1
theorem Cls.b {w1 : World} (q : Cls w1) : Below w1.heap.size w1 q.w := q.2
def Cls.mk' {w1 w : World} (h : Below w1.heap.size w1 w) : Cls w1 := ⟨w, h⟩
instance (w1 : World) : Nonempty (Cls w1) := ⟨⟨w1, Below.refl _ _⟩⟩
end Go.Proofs.Ytnpdoejjebgcpaa
