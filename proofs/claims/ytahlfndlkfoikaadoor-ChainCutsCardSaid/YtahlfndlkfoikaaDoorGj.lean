/- Words for a region in which two contacts are made in a drawn order: their boxes differ. -/
import Derived.Test.YtahlfndlkfoikaaDoorRegS
import Derived.Test.YtahlfndlkfoikaaDoorGd
import Derived.Test.YtahlfndlkfoikaaDoorGc
namespace Go.Proofs.YtahlfndlkfoikaaDoor
open Go Go.RowKit Go.Shelf
/-- What holds while the region runs: what was there stays; the boxes in slots 8 and 9, once made, are two. -/
def BG (W4 : World) (s : Nat → Value) (W : World) : Prop :=
  Below W4.heap.size W4 W ∧ (∀ b, s 8 = .pointer (some ⟨b, 0, none⟩) → b < W.heap.size) ∧ (∀ b, s 9 = .pointer (some ⟨b, 0, none⟩) → b < W.heap.size) ∧
    ∀ b c, s 8 = .pointer (some ⟨b, 0, none⟩) → s 9 = .pointer (some ⟨c, 0, none⟩) → b ≠ c
theorem BG.start {W4 : World} {s : Nat → Value} (h8 : ∀ b, s 8 ≠ .pointer (some ⟨b, 0, none⟩)) (h9 : ∀ b, s 9 ≠ .pointer (some ⟨b, 0, none⟩)) : BG W4 s W4.drew :=
  ⟨(B0 W4).drew, fun b e => absurd e (h8 b), fun b e => absurd e (h9 b), fun b _ e => absurd e (h8 b)⟩
theorem BG.keep {W4 w w' : World} {s s' : Nat → Value} (h8 : s' 8 = s 8) (h9 : s' 9 = s 9) (hb : Below w.heap.size w w') (h : BG W4 s w) : BG W4 s' w' := by
  obtain ⟨h1, h2, h3, h4⟩ := h
  refine ⟨Bt h1 hb, fun b e => ?_, fun b e => ?_, fun b c e f => ?_⟩
  · exact Nat.lt_of_lt_of_le (h2 b (h8.symm.trans e)) hb.size
  · exact Nat.lt_of_lt_of_le (h3 b (h9.symm.trans e)) hb.size
  · exact h4 b c (h8.symm.trans e) (h9.symm.trans f)
theorem ptr_inj {b c : Nat} (h : (Value.pointer (some ⟨b, 0, none⟩)) = .pointer (some ⟨c, 0, none⟩)) : b = c := by
  injection h with h
  injection h with h
  injection h
theorem BG.new8 {W4 w : World} {s s' : Nat → Value} (h8 : s' 8 = .pointer (some ⟨w.heap.size, 0, none⟩)) (h9 : s' 9 = s 9) (o : Obj) (h : BG W4 s w) : BG W4 s' (w.alloc o) := by
  obtain ⟨h1, _, h3, _⟩ := h
  refine ⟨Ba h1 _, fun b e => ?_, fun b e => ?_, fun b c e f => ?_⟩
  · have := ptr_inj (h8.symm.trans e)
    simp
    omega
  · have := h3 b (h9.symm.trans e)
    simp
    omega
  · have := ptr_inj (h8.symm.trans e)
    have := h3 c (h9.symm.trans f)
    omega
theorem BG.new9 {W4 w : World} {s s' : Nat → Value} (h9 : s' 9 = .pointer (some ⟨w.heap.size, 0, none⟩)) (h8 : s' 8 = s 8) (o : Obj) (h : BG W4 s w) : BG W4 s' (w.alloc o) := by
  obtain ⟨h1, h2, _, _⟩ := h
  refine ⟨Ba h1 _, fun b e => ?_, fun b e => ?_, fun b c e f => ?_⟩
  · have := h2 b (h8.symm.trans e)
    simp
    omega
  · have := ptr_inj (h9.symm.trans e)
    simp
    omega
  · have := ptr_inj (h9.symm.trans f)
    have := h2 b (h8.symm.trans e)
    omega
theorem BG.set {W4 w : World} {s s' : Nat → Value} {b : Nat} (hl : W4.heap.size ≤ b) (h8 : s' 8 = s 8) (h9 : s' 9 = s 9) (u v : Value) (h : BG W4 s w) : BG W4 s' ((w.setCell ⟨b, 0, none⟩ u).setCell ⟨b, 1, none⟩ v) := by
  obtain ⟨h1, h2, h3, h4⟩ := h
  refine ⟨Bs (Bs h1 _ hl) _ hl, fun b e => ?_, fun b e => ?_, fun b c e f => ?_⟩
  · simpa using h2 b (h8.symm.trans e)
  · simpa using h3 b (h9.symm.trans e)
  · exact h4 b c (h8.symm.trans e) (h9.symm.trans f)
end Go.Proofs.YtahlfndlkfoikaaDoor
