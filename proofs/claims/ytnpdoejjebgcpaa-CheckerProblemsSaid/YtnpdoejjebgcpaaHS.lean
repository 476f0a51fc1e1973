/- Walks over hitting: disjoint sets that are found one after another. Walks over hitting: the search. Walks over hitting: the first shortest list. Walks over hitting: how many lists hit all sets. -/
import Derived.Test.YtnpdoejjebgcpaaH6
namespace Go.Proofs.Ytnpdoejjebgcpaa
open Go Go.RowKit
theorem apartGo_cons (s : Nat) (r : List Nat) (i taken out used : Nat) : Hit.apartGo (s :: r) i taken out used = if s &&& taken = 0 ∧ Hit.andn s out &&& used = 0 then i :: Hit.apartGo r (i + 1) taken out (used ||| Hit.andn s out) else Hit.apartGo r (i + 1) taken out used := rfl
end Go.Proofs.Ytnpdoejjebgcpaa
namespace Go.Proofs.Ytnpdoejjebgcpaa
open Go Go.RowKit
/-- What a search returns. -/
def srchV : Option Nat → Value
  | some r => .tuple #[.int .u32 (r : Nat), .bool true]
  | none => .tuple #[.int .u32 0, .bool false]
theorem srch_hit {ws : List Nat} {d taken n : Nat} {most : Int} (h : Hit.miss ws taken = ws.length) : Hit.srch ws d taken n most = some taken := by unfold Hit.srch Hit.srchW; rw [if_pos h]
theorem srch_cut {ws : List Nat} {d taken n : Nat} {most : Int} (h : Hit.miss ws taken ≠ ws.length) (h2 : ((Hit.apart ws taken 0).length : Int) > most) : Hit.srch ws d taken n most = none := by unfold Hit.srch Hit.srchW; rw [if_neg h, if_pos h2]
theorem srch_loop {ws : List Nat} {d taken n : Nat} {most : Int} (h : Hit.miss ws taken ≠ ws.length) (h2 : ¬ ((Hit.apart ws taken 0).length : Int) > most) : Hit.srch ws d taken n most = Hit.loopF ws d (Hit.miss ws taken) taken n most := by unfold Hit.srch Hit.srchW; rw [if_neg h, if_neg h2]
theorem loopF_some {ws : List Nat} {d i taken n r : Nat} {most : Int} (h : Hit.srch ws d (taken ||| Hit.bit n) (n + 1) (most - 1) = some r) : Hit.loopF ws (d + 1) i taken n most = some r := by unfold Hit.srch at h; simp only [Hit.loopF, h]
theorem loopF_stop {ws : List Nat} {d i taken n : Nat} {most : Int} (h : Hit.srch ws d (taken ||| Hit.bit n) (n + 1) (most - 1) = none) (h2 : ws.getD i 0 >>> (n + 1) = 0) : Hit.loopF ws (d + 1) i taken n most = none := by unfold Hit.srch at h; simp only [Hit.loopF, h, h2, if_true]
theorem loopF_next {ws : List Nat} {d i taken n : Nat} {most : Int} (h : Hit.srch ws d (taken ||| Hit.bit n) (n + 1) (most - 1) = none) (h2 : ¬ ws.getD i 0 >>> (n + 1) = 0) : Hit.loopF ws (d + 1) i taken n most = Hit.loopF ws d i taken (n + 1) most := by unfold Hit.srch at h; simp only [Hit.loopF, h, h2, if_false]
theorem srch_lt {ws : List Nat} {size taken n r : Nat} {most : Int} (hm : 0 ≤ most) (hs : size ≤ 32) (ht : taken < 2 ^ 32) (h : Hit.srch ws (size - n) taken n most = some r) : r < 2 ^ 32 := by
  have := Hit.srch_spec ws size taken n most hm
  rw [h] at this
  obtain ⟨X, hX, rfl, _⟩ := this
  exact Hit.or_lt ht (Hit.word_lt fun x hx => by have := hX.lo x hx; omega)
end Go.Proofs.Ytnpdoejjebgcpaa
namespace Go.Proofs.Ytnpdoejjebgcpaa
open Go Go.RowKit
theorem leastGo_zero (ws : List Nat) (size k : Nat) : Hit.leastGo ws size 0 k = (Hit.srch ws size 0 0 (k : Int)).getD 0 := rfl
theorem leastGo_some {ws : List Nat} {size f k r : Nat} (h : Hit.srch ws size 0 0 (k : Int) = some r) : Hit.leastGo ws size f k = r := by
  cases f with
  | zero => rw [leastGo_zero, h]; rfl
  | succ f => simp only [Hit.leastGo, h]
theorem leastGo_none {ws : List Nat} {size f k : Nat} (h : Hit.srch ws size 0 0 (k : Int) = none) : Hit.leastGo ws size (f + 1) k = Hit.leastGo ws size f (k + 1) := by simp only [Hit.leastGo, h]
theorem srch_full {ws : List Nat} {size : Nat} (hg : Hit.Good ws size) : Hit.srch ws size 0 0 (size : Int) ≠ none := by
  intro h
  have := Hit.srch_spec ws size 0 0 size (by omega)
  rw [Nat.sub_zero, h] at this
  exact this _ (Hit.all_ok hg)
theorem least_lt {ws : List Nat} {size : Nat} (hg : Hit.Good ws size) (hs : size ≤ 32) : Hit.least ws size < 4294967296 := by
  obtain ⟨X, hX⟩ := Hit.least_spec hg
  rw [hX.word]
  exact Hit.word_lt (k := 32) fun x hx => by have := hX.ok.lo x hx; omega
theorem good_lt {ws : List Nat} {size : Nat} (hg : Hit.Good ws size) (hs : size ≤ 32) : ∀ s ∈ ws, s < 4294967296 := fun s h => Nat.lt_of_lt_of_le (hg s h).2 (show 2 ^ size ≤ 2 ^ 32 from Nat.pow_le_pow_right (by decide) hs)
end Go.Proofs.Ytnpdoejjebgcpaa
namespace Go.Proofs.Ytnpdoejjebgcpaa
open Go Go.RowKit
def cntTo (ws : List Nat) (k : Nat) : Nat := ((List.range k).filter fun x => Hit.hit ws x).length
theorem cntTo_succ (ws : List Nat) (k : Nat) : cntTo ws (k + 1) = cntTo ws k + (if Hit.hit ws k then 1 else 0) := by
  unfold cntTo
  rw [List.range_succ, List.filter_append, List.length_append, List.filter_cons, List.filter_nil]
  split <;> rfl
theorem cntTo_le (ws : List Nat) (k : Nat) : cntTo ws k ≤ k := Nat.le_trans (List.length_filter_le _ _) (by simp)
end Go.Proofs.Ytnpdoejjebgcpaa
