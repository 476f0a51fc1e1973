/- Words of rows of sets of notes; plain of feet; walk over span: feet. -/
import Derived.Test.YtnphdmiondccgaaDoorZf
import Derived.Test.YtnphdmiondccgaaDoorNe
namespace Go.Proofs.YtnphdmiondccgaaDoor
open Go Go.RowKit
open Pop
/-- The cells of a set of notes. -/
def NtC (_ : World) (cs : List Value) (x : Nat) : Prop := cs = [.int .u64 ((Nt.lo x : Nat) : Int), .int .u64 ((Nt.hi x : Nat) : Int)]
abbrev SlK (F : Nat → Prop) (w : World) (v : Value) (l : List Nat) : Prop := Sl F 2 NtC w v l
theorem SlK.open {F : Nat → Prop} {w : World} {v : Value} {l : List Nat} (h : SlK F w v l) : ∃ A c, v = .slice A l.length c ∧ l.length ≤ c ∧ l.length ≤ 140737488355328 ∧
    ∀ i (hi : i < l.length), ∃ ad, A = some ad ∧ F ad.block ∧ Flds w (ad.add (i * 2)) [.int .u64 ((Nt.lo l[i] : Nat) : Int), .int .u64 ((Nt.hi l[i] : Nat) : Int)] := by
  obtain ⟨A, c, hv, hc, hl, hi⟩ := h
  refine ⟨A, c, hv, hc, hl, fun i hil => ?_⟩
  obtain ⟨ad, cs, hA, hF, hk, hr, hcell⟩ := hi i hil
  unfold NtC at hr
  subst hr
  exact ⟨ad, hA, hF, hcell⟩
theorem SlK.keep {F : Nat → Prop} {w w' : World} {v : Value} {l : List Nat} (h : SlK F w v l) (ha : Agree F w w') : SlK F w' v l := Sl.keep h ha fun _ _ hr => hr
/-- The union of sets; how many notes they have, each counted. -/
def unF (l : List Nat) : Nat := l.foldl Nat.lor 0
def cntF (l : List Nat) : Nat := (l.map fun x => (Nt.mem x).length).sum
def memI (x : Nat) : List Int := (Nt.mem x).map fun i : Nat => (i : Int)
def feetF (fn fs : Int) (l : List Nat) : Bool := decide ((cntF l : Int) ≤ fn) && decide (widF (memI (unF l)) ≤ fs)
theorem take_next {α : Type} {l : List α} {k : Nat} (hk : k < l.length) : l.take (k + 1) = l.take k ++ [l[k]] := by
  rw [List.take_add_one, List.getElem?_eq_getElem hk]; rfl
theorem unF_take {l : List Nat} {k : Nat} (hk : k < l.length) : unF (l.take (k + 1)) = Nat.lor (unF (l.take k)) l[k] := by
  unfold unF
  rw [take_next hk, List.foldl_append]
  rfl
theorem cntF_take {l : List Nat} {k : Nat} (hk : k < l.length) : cntF (l.take (k + 1)) = cntF (l.take k) + (Nt.mem l[k]).length := by
  unfold cntF
  rw [take_next hk, List.map_append, List.sum_append]
  simp
theorem cntF_le : ∀ l : List Nat, cntF l ≤ 128 * l.length
  | [] => by simp [cntF]
  | x :: r => by
    have h1 := cntF_le r
    have h2 := Nt.mem_len x
    unfold cntF at *
    rw [List.map_cons, List.sum_cons, List.length_cons]
    omega
theorem foldl_lor_lt : ∀ (l : List Nat) (a : Nat), a < 2 ^ 128 → (∀ x ∈ l, x < 2 ^ 128) → l.foldl Nat.lor a < 2 ^ 128
  | [], _, ha, _ => ha
  | x :: r, a, ha, h => foldl_lor_lt r (Nat.lor a x) (Nat.or_lt_two_pow ha (h x (List.mem_cons_self))) fun y hy => h y (List.mem_cons_of_mem _ hy)
theorem unF_lt {l : List Nat} (h : ∀ x ∈ l, x < 2 ^ 128) : unF l < 2 ^ 128 := foldl_lor_lt l 0 (by decide) h
theorem mem_le (x : Nat) : Sm (memI x) := by
  intro y hy
  unfold memI at hy
  obtain ⟨i, hi, rfl⟩ := List.mem_map.1 hy
  unfold Nt.mem at hi
  rcases List.mem_append.1 hi with h | h
  · have := (Hit.mem_members.1 h).1
    omega
  · obtain ⟨j, hj, rfl⟩ := List.mem_map.1 h
    have := (Hit.mem_members.1 hj).1
    omega
end Go.Proofs.YtnphdmiondccgaaDoor
