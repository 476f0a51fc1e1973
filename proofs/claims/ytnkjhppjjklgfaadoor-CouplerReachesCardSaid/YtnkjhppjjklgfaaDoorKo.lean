/- Walks over coupler: the order of contacts. -/
import Derived.Test.YtnkjhppjjklgfaaDoorKc
import Derived.Shelf.SlSortCmp.InsertionK
namespace Go.Proofs.YtnkjhppjjklgfaaDoor
open Go Go.RowKit Go.Shelf Go.Sort
namespace Cou
/-- cmp.Compare. -/
def cmpI (x y : Int) : Int := if x < y then -1 else if y < x then 1 else 0
/-- The order of contacts, as a number. -/
def ordF (x y : Ct) : Int := if cmpI x.1 y.1 = 0 then cmpI x.2 y.2 else cmpI x.1 y.1
/-- cmp.Or of two. -/
def orI (x y : Int) : Int := if x = 0 then y else x
theorem ordF_lt (x y : Ct) : ordF x y < 0 ↔ lt x y := by
  unfold ordF cmpI lt
  repeat' split
  all_goals omega
end Cou
set_option maxHeartbeats 1000000 in
theorem compare_any (x y : Int) (w : World) : Calls Tryd.prog 73 #[.int .i64 x, .int .i64 y] w fun e w' => e = .returned (.int .i64 (Cou.cmpI x y)) ∧ w' = w := by
  go_enter Tryd.func73, Tryd.ntmps73
  go_wp2
  all_goals
    go_ret
    refine ⟨?_, rfl⟩
    unfold Cou.cmpI
    first
    | (rw [if_pos (by assumption)]; rfl)
    | (rw [if_neg (by omega), if_pos (by assumption)]; rfl)
    | (rw [if_neg (by omega), if_neg (by omega)]; rfl)
set_option maxHeartbeats 1000000 in
theorem or_any (x y : Int) (b : Nat) (w : World) (h0 : w.cell? ⟨b, 0, none⟩ = some (.int .i64 x)) (h1 : w.cell? ⟨b, 1, none⟩ = some (.int .i64 y)) : Calls Tryd.prog 72 #[.slice (some ⟨b, 0, none⟩) 2 2] w fun e w' => e = .returned (.int .i64 (Cou.orI x y)) ∧ w' = w := by
  go_enter Tryd.func72, Tryd.ntmps72
  go_wp2
  go_loopg [8] 2 (fun gg s wr => ∃ k : Nat, k ≤ 2 ∧ 2 - k ≤ gg ∧ s = .int .i64 k ∧ Aside (1 ≤ k → x = 0) ∧ Aside (2 ≤ k → y = 0) ∧ wr = w)
  case atStart => exact ⟨0, by omega, by omega, rfl, fun h => absurd h (by omega), fun h => absurd h (by omega), rfl⟩
  case round =>
    obtain ⟨k, hk, hg, rfl, HX, HY, rfl⟩ := hrel
    have hk3 : k = 0 ∨ k = 1 ∨ k = 2 := by omega
    rcases hk3 with rfl | rfl | rfl
    · by_cases hx : x = 0
      · have d1 : (x != 0) = false := by simp [hx]
        go_wp2
        go_roundg 1
        case measure => omega
        case rel => exact ⟨1, by omega, by omega, by go_num, fun _ => hx, fun h => absurd h (by omega), rfl⟩
      · have d1 : (x != 0) = true := by simpa using hx
        go_wp2
        go_ret
        exact ⟨by unfold Cou.orI; rw [if_neg hx]; rfl, rfl⟩
    · have hx : x = 0 := HX (Nat.le_refl 1)
      by_cases hy : y = 0
      · have d1 : (y != 0) = false := by simp [hy]
        go_wp2
        go_roundg 0
        case measure => omega
        case rel => exact ⟨2, by omega, by omega, by go_num, fun _ => hx, fun _ => hy, rfl⟩
      · have d1 : (y != 0) = true := by simpa using hy
        go_wp2
        go_ret
        exact ⟨by unfold Cou.orI; rw [if_pos hx]; rfl, rfl⟩
    · have hx : x = 0 := HX (by omega)
      have hy : y = 0 := HY (by omega)
      go_wp2
      go_ret
      exact ⟨by unfold Cou.orI; rw [if_pos hx, hy]; rfl, rfl⟩
set_option maxHeartbeats 1000000 in
theorem order_any (x y : Cou.Ct) (w : World) : Calls Tryd.prog 62 #[.agg #[.int .i64 x.1, .int .i64 x.2], .agg #[.int .i64 y.1, .int .i64 y.2]] w fun e w' => e = .returned (.int .i64 (Cou.ordF x y)) ∧ ∃ q os', w' = grow (w.drewN q) os' := by
  obtain ⟨x1, x2⟩ := x
  obtain ⟨y1, y2⟩ := y
  have hz : Cou.ordF (x1, x2) (y1, y2) = Cou.orI (Cou.cmpI x1 y1) (Cou.cmpI x2 y2) := rfl
  have HZ := Lib.hid hz
  have hc1 := fun W => compare_any x1 y1 W
  have hc2 := fun W => compare_any x2 y2 W
  generalize Cou.cmpI x1 y1 = r1 at *
  generalize Cou.cmpI x2 y2 = r2 at *
  have HC1 := Lib.hid hc1
  have HC2 := Lib.hid hc2
  clear hc1 hc2 hz
  dsimp only
  go_enter Tryd.func62, Tryd.ntmps62
  go_upto_region 1 with fail
  obtain ⟨w1, hw1⟩ : ∃ w1 : World, (w.alloc (.cells #[.int .i64 x1, .int .i64 x2] 28)).alloc (.cells #[.int .i64 y1, .int .i64 y2] 28) = w1 := ⟨_, rfl⟩
  have p0 : w1.cell? ⟨w.heap.size, 0, none⟩ = some (.int .i64 x1) := by rw [← hw1]; simp [go_sem]
  have p1 : w1.cell? ⟨w.heap.size, 1, none⟩ = some (.int .i64 x2) := by rw [← hw1]; simp [go_sem]
  have p2 : w1.cell? ⟨w.heap.size + 1, 0, none⟩ = some (.int .i64 y1) := by rw [← hw1]; simp [go_sem]
  have p3 : w1.cell? ⟨w.heap.size + 1, 1, none⟩ = some (.int .i64 y2) := by rw [← hw1]; simp [go_sem]
  have l1 : w.heap.size + 1 < w1.heap.size := by rw [← hw1]; simp
  have l0 : w.heap.size < w1.heap.size := by omega
  have HW1 : Hid (w1 = grow w #[.cells #[.int .i64 x1, .int .i64 x2] 28, .cells #[.int .i64 y1, .int .i64 y2] 28]) := Lib.hid (by rw [← hw1, alloc_eq_grow, alloc_eq_grow, grow_grow]; rfl)
  rw [hw1]
  clear hw1
  have hb : Below w1.heap.size w1 (w1.alloc (.cells #[.int .i64 r1, .int .i64 r2] 3)).drew := (Ba (B0 w1) _).drew
  go_region_held3 (fun w' => w'.cell? ⟨w.heap.size, 0, none⟩ = some (.int .i64 x1) ∧ w'.cell? ⟨w.heap.size, 1, none⟩ = some (.int .i64 x2) ∧ w'.cell? ⟨w.heap.size + 1, 0, none⟩ = some (.int .i64 y1) ∧ w'.cell? ⟨w.heap.size + 1, 1, none⟩ = some (.int .i64 y2))
    (first | exact ⟨p0, p1, p2, p3⟩ | exact ⟨(Bc hb l0).trans p0, (Bc hb l0).trans p1, (Bc hb l1).trans p2, (Bc hb l1).trans p3⟩)
    (first
    | (go_at_call 73; (with_reducible refine ((HC1.out _).mono ?_)); rintro e w5 ⟨rfl, rfl⟩)
    | (go_at_call 73; (with_reducible refine ((HC2.out _).mono ?_)); rintro e w5 ⟨rfl, rfl⟩)
    | (go_at_call 72; (with_reducible refine ((or_any r1 r2 _ _ (by simp [go_sem]) (by simp [go_sem])).mono ?_)); rintro e w5 ⟨rfl, rfl⟩))
  all_goals
    go_wp2
    go_ret
    exact ⟨by rw [HZ.out]; rfl, 1, _, by rw [HW1.out, alloc_eq_grow, grow_grow, drew_grow]; rfl⟩
theorem cmpLays_order (blk off size : Nat) (w : World) : CmpLays Tryd.prog 62 #[] (fun c : Cou.Ct => [Value.int .i64 c.1, Value.int .i64 c.2]) 2 Cou.ordF blk off size w :=
  fun _ _ _ _ x y => order_any x y _
end Go.Proofs.YtnkjhppjjklgfaaDoor
