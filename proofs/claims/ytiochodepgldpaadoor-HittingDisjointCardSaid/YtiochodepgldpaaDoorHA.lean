/- Walks over hitting: lists of the call's own, of one cell each. -/
import Derived.Test.YtiochodepgldpaaDoorH0
import Derived.Test.YtiochodepgldpaaDoorCopy
namespace Go.Proofs.YtiochodepgldpaaDoor
open Go Go.RowKit
theorem Bg0 {a b c : World} {base : Nat} {e : TypeId} {k n cc : Nat} {A : Option Addr} {xs : List Value} (h : Below a.heap.size a b) (hown : Own0 b base e k A n cc xs) (hbase : a.heap.size ≤ base)
    (hg : (n = 0 ∧ Below b.heap.size b c) ∨ (0 < n ∧ b.grownBy c (Value.slice A n cc).ownBlock)) : Below a.heap.size a c := by
  rcases hg with ⟨_, hg⟩ | ⟨h0, hg⟩
  · exact Bt h hg
  · rcases hown with ⟨h1, _⟩ | ⟨_, hown⟩
    · omega
    · exact Bg h hown hbase hg
theorem Own0.nil {w : World} {base : Nat} {e : TypeId} {k : Nat} {A : Option Addr} : Own0 w base e k A 0 0 [] := .inl ⟨rfl, rfl, rfl⟩
/-- Cells of a list, a value each. -/
def cellsV {α : Type} (f : α → Value) (l : List α) : List Value := l.map f
theorem cellsV_flat {α : Type} (f : α → Value) (l : List α) : cellsV f l = (l.map fun x => [f x]).flatten := by
  induction l with
  | nil => rfl
  | cons x l ih => simp only [cellsV, List.map_cons, List.flatten_cons] at *; rw [ih]; rfl
theorem cellsV_snoc {α : Type} (f : α → Value) (l : List α) (x : α) : cellsV f (l ++ [x]) = cellsV f l ++ [f x] := by simp [cellsV]
/-- A row of the call's own, as a slice that reads as the list. -/
theorem Own0.sl {α : Type} {F : Nat → Prop} {f : α → Value} {R : World → List Value → α → Prop} {w : World} {base : Nat} {e : TypeId} {A : Option Addr} {n c : Nat} {l : List α} (h : Own0 w base e 1 A n c (cellsV f l)) (hn : n = l.length) (hl : l.length ≤ 1000000000) (hR : ∀ x ∈ l, R w [f x] x)
    (hF : ∀ b, base ≤ b → b < w.heap.size → F b) : Sl F 1 R w (.slice A n c) l := by
  subst hn
  rcases h with ⟨h0, hc, _⟩ | ⟨h0, h⟩
  · subst hc
    have hl0 : l = [] := List.eq_nil_of_length_eq_zero h0
    subst hl0
    exact ⟨A, 0, rfl, by simp, by simp, fun i hi => absurd hi (by simp)⟩
  · rw [cellsV_flat] at h
    exact Sl.of_own (cs := l.map fun x => [f x]) h rfl (by omega) rfl (by simp) (fun i hi => ⟨[f l[i]], by simp [hi], rfl, hR _ (List.getElem_mem hi)⟩) fun b q1 q2 _ => hF b q1 q2
def vI (x : Int) : Value := .int .i64 x
def vN (x : Nat) : Value := .int .i64 (x : Int)
def vU (k : IntKind) (x : Nat) : Value := .int k (x : Int)
theorem Own0.ints {F : Nat → Prop} {w : World} {base : Nat} {e : TypeId} {A : Option Addr} {n c : Nat} {l : List Nat} (h : Own0 w base e 1 A n c (cellsV vN l)) (hn : n = l.length) (hl : l.length ≤ 1000000000) (hF : ∀ b, base ≤ b → b < w.heap.size → F b) : SlI F w (.slice A n c) (Hit.ints l) := by
  have e : cellsV vI (Hit.ints l) = cellsV vN l := by simp [cellsV, Hit.ints, vI, vN]
  rw [← e] at h
  exact h.sl (by rw [ints_length]; exact hn) (by rw [ints_length]; exact hl) (fun x _ => rfl) hF
theorem Own0.words {k : IntKind} {F : Nat → Prop} {w : World} {base : Nat} {e : TypeId} {A : Option Addr} {n c : Nat} {l : List Nat} (h : Own0 w base e 1 A n c (cellsV (vU k) l)) (hn : n = l.length) (hl : l.length ≤ 1000000000) (hF : ∀ b, base ≤ b → b < w.heap.size → F b) : SlU k F w (.slice A n c) l :=
  h.sl hn hl (fun _ _ => rfl) hF
theorem infoI : (Tryd.prog.info? 3).map (fun i => (i.zero, i.size, i.bytes)) = some (some (.int .i64 0), 1, 8) := by kernel_rfl
theorem elemI : ElemN Tryd.prog 30 3 1 8 := ⟨Tryd.underlying30, by
  obtain ⟨i, hi, hz, hs, hb⟩ := info_parts infoI
  exact ⟨i, _, hi, hz, hs, hb, rfl⟩⟩
theorem infoU : (Tryd.prog.info? 83).map (fun i => (i.zero, i.size, i.bytes)) = some (some (.int .u32 0), 1, 4) := by kernel_rfl
theorem elemU : ElemN Tryd.prog 78 83 1 4 := ⟨Tryd.underlying78, by
  obtain ⟨i, hi, hz, hs, hb⟩ := info_parts infoU
  exact ⟨i, _, hi, hz, hs, hb, rfl⟩⟩
end Go.Proofs.YtiochodepgldpaaDoor
