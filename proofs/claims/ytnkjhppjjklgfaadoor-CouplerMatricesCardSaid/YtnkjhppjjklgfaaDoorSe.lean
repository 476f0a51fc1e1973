/- Plain: made keys read as lists; an action of a plan. Plain: keys that are no keys of a division. -/
import Derived.Test.YtnkjhppjjklgfaaDoorSd
import Derived.Test.YtnkjhppjjklgfaaDoorSb
import Derived.Test.YtnkjhppjjklgfaaDoorKv
namespace Go.Proofs.YtnkjhppjjklgfaaDoor
open Go Go.RowKit Go.Shelf
theorem SlK.on1 {w w' : World} {v : Value} {l : List Nat} (h : SlK (fun b => b < w.heap.size) w v l) (hb : Below w.heap.size w w') : SlK (fun b => b < w'.heap.size) w' v l :=
  Sl.mono (SlK.keep h (Agree.below hb fun _ q => q)) fun _ q => Nat.lt_of_lt_of_le q hb.size
theorem KeysIs.slK {n B : Nat} {P : Nat → Nat → Prop} {v : Value} {w : World} (h : KeysIs n P B v w) (hn : n ≤ 1000) : ∃ M kb, v = .slice (some ⟨kb, 0, none⟩) n n ∧ SlK (fun b => b < w.heap.size) w v M ∧ M.length = n ∧ (∀ x ∈ M, x < 2 ^ 128) ∧ ∀ d i, d < n → ((M.getD d 0).testBit i = true ↔ P d i) := by
  obtain ⟨kb, M, rfl, _, hK, hl, hlt, ht⟩ := h
  have := blk_slK (F := fun b => b < w.heap.size) hK hK.lt (by omega)
  rw [hl] at this
  exact ⟨M, kb, rfl, this, hl, hlt, ht⟩
theorem AllIs.keys {a : Cou.Ac} {ks : List Nat} {B : Nat} {v : Value} {w : World} (h : AllIs a ks B v w) (he : Cou.allErr a ks = 0) : KeysIs a.divs.length (fun d i => Cou.Hop a (Cou.allL 0 ks) ((d : Int), (i : Int))) B v w := h.2 he
theorem makeF_divs {p : Cou.Pl} : (∀ c ∈ (Cou.makeF p).divs, c.2 ≤ c.1 + 12) ∧ (Cou.makeF p).divs.length ≤ 3 := by
  refine ⟨fun c hc => ?_, ?_⟩
  · have : c ∈ (p.dv.take (Cou.makeN p)).map Cou.divOf := hc
    obtain ⟨d, _, rfl⟩ := List.mem_map.1 this
    unfold Cou.divOf
    simp only
    omega
  · show ((p.dv.take (Cou.makeN p)).map Cou.divOf).length ≤ 3
    rw [List.length_map, List.length_take]
    unfold Cou.makeN
    omega
theorem makeF_pos {p : Cou.Pl} (h : p.dv.length = 3) : 1 ≤ (Cou.makeF p).divs.length := by
  show 1 ≤ ((p.dv.take (Cou.makeN p)).map Cou.divOf).length
  rw [List.length_map, List.length_take]
  unfold Cou.makeN
  omega
theorem seven_bit {d : Nat} (h : d < 3) : (7 : Nat).testBit d = true := by
  have : d = 0 ∨ d = 1 ∨ d = 2 := by omega
  rcases this with rfl | rfl | rfl <;> rfl
end Go.Proofs.YtnkjhppjjklgfaaDoor
namespace Go.Proofs.YtnkjhppjjklgfaaDoor
open Go Go.RowKit Go.Shelf
namespace Cou
/-- Has the set a note below k that is no key of the compass? -/
def badB (c : Int × Int) (x k : Nat) : Bool := (List.range k).any fun j => x.testBit j && !inB c (j : Int)
theorem badB_succ (c : Int × Int) (x k : Nat) : badB c x (k + 1) = (badB c x k || (x.testBit k && !inB c (k : Int))) := by
  unfold badB
  rw [List.range_succ, List.any_append]
  simp
theorem badB_all {c : Int × Int} {x : Nat} (hx : x < 2 ^ 128) : badB c x 128 = !okOne c x := by
  have h : okOne c x = true ↔ ¬ (badB c x 128 = true) := by
    unfold okOne badB
    rw [List.all_eq_true, List.any_eq_true]
    constructor
    · rintro h ⟨j, hj, h2⟩
      rw [Bool.and_eq_true] at h2
      have := h j ((Nt.mem_iff hx).2 h2.1)
      rw [this] at h2
      simp at h2
    · intro h j hj
      have h1 := (Nt.mem_iff hx).1 hj
      have h2 := Nt.mem_lt hj
      cases h3 : inB c (j : Int) with
      | true => rfl
      | false => exact absurd ⟨j, List.mem_range.2 h2, by rw [h1, h3]; rfl⟩ h
  cases h1 : okOne c x with
  | true =>
    cases h2 : badB c x 128 with
    | true => exact absurd h2 (h.1 h1)
    | false => rfl
  | false =>
    cases h2 : badB c x 128 with
    | true => rfl
    | false => rw [h.2 (by rw [h2]; decide)] at h1; cases h1
theorem allErr_size {a : Ac} (hr : rightF a = 0) {ks : List Nat} (h : ks.length ≠ a.divs.length) : allErr a ks = 5 := by
  unfold allErr playedR
  rw [if_pos hr, if_neg h]
theorem allErr_bad {a : Ac} (hr : rightF a = 0) {ks : List Nat} (h : ks.length = a.divs.length) {i : Nat} (hi : i < ks.length) (hb : okOne (a.divs.getD i (0, -1)) (ks.getD i 0) = false) : allErr a ks = 23 := by
  unfold allErr playedR
  rw [if_pos hr, if_pos h, if_neg]
  intro ho
  have := List.all_eq_true.1 ho i (List.mem_range.2 hi)
  rw [this] at hb
  cases hb
theorem allErr_zero {a : Ac} (hr : rightF a = 0) {ks : List Nat} (h : ks.length = a.divs.length) (hb : ∀ i, i < ks.length → okOne (a.divs.getD i (0, -1)) (ks.getD i 0) = true) : allErr a ks = 0 := by
  unfold allErr playedR
  rw [if_pos hr, if_pos h, if_pos]
  exact List.all_eq_true.2 fun i hi => hb i (List.mem_range.1 hi)
end Cou
end Go.Proofs.YtnkjhppjjklgfaaDoor
