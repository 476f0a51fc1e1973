/- Walks over coupler: TrailingZeros64; the iterator over the drawn couplers. -/
import Derived.Test.YtnkjhppjjklgfaaDoorKa
import Derived.Test.YtnkjhppjjklgfaaDoorCovP
import Derived.Shelf.Spec.TrailingZeros
import Derived.RangeFuncWrites
import Derived.RangeFuncCalls
import Derived.RangeFuncLeaves
import Derived.OwnWalkIn
import Derived.TacticsInMore
import Derived.LoopNIn
import Derived.LoopIn
import Derived.Maps.OwnIn
namespace Go.Proofs.YtnkjhppjjklgfaaDoor
open Go Go.RowKit Go.Shelf
attribute [local go_sem] Oper.semAt_some
/-- The table of TrailingZeros64 lies in its variable. -/
def Tab64 (w : World) : Prop := TabAt 0 Lib.deBruijn64tab w
theorem Tab64.below {w w' : World} (h : Tab64 w) (hb : Below w.heap.size w w') : Tab64 w' := fun j hj => (hb.cell (p := ⟨0, j, none⟩) (World.block_lt_of_cell? _ _ (h j hj))).trans (h j hj)
theorem Tab64.onB {B : Nat} {w w' : World} (h : Tab64 w) (hB : 0 < B) (hb : Below B w w') : Tab64 w' := fun j hj => (hb.cell (p := ⟨0, j, none⟩) hB).trans (h j hj)
set_option maxHeartbeats 1000000 in
theorem tz64_core (x k idx : Nat) (w : World) (hx0 : ((x : Int) == 0) = false)
    (key : IntKind.u64.wrap (bits BinOp.and IntKind.u64 (x : Int) (IntKind.u64.wrap (-(x : Int))) * 285870213051353865) / 288230376151711744 = (idx : Int))
    (hi : idx < 64) (hk : k < 64) (hcell : w.cell? ⟨0, idx, none⟩ = some (.int .u8 k)) :
    Calls Tryd.prog 66 #[.int .u64 x] w fun e w' => e = .returned (.int .i64 k) ∧ w = w' := by
  go_enter Tryd.func66, Tryd.ntmps66
  go_wp2_with (simp only [key])
  go_ret
  exact ⟨rfl, rfl⟩
theorem tz64_any (x : Nat) (h0 : x ≠ 0) (hx : x < 18446744073709551616) (w : World) (hT : Tab64 w) :
    Calls Tryd.prog 66 #[.int .u64 x] w fun e w' => e = .returned (.int .i64 (Hit.tz x : Nat)) ∧ w = w' := by
  obtain ⟨hlow, hk⟩ := Lib.lowest_bit 64 x h0 hx
  obtain ⟨hi, hd⟩ := Lib.deBruijn64_at _ hk
  have hcell := hT _ (by exact hi)
  rw [hd] at hcell
  rw [Hit.tz_ctz 64 x (by decide) h0 hx]
  exact tz64_core x _ _ w (by simp; omega) (tz64_key x _ hx h0 hlow) hi hk hcell
set_option maxRecDepth 100000 in
set_option maxHeartbeats 2000000 in
theorem drawn1_in (n : Nat) (hn : 1 ≤ n) (m : Nat) (hm64 : m ≤ 64) (l Bn n₀ : Nat) (hg : 0 < n₀) (x : Nat) (hx : x < 2 ^ m) (J Jx : List (Fin m) → World → Prop)
    (hY : ∀ pre (i : Fin m) W, J pre W → pre.length < 64 → YieldAt Fence.wide (n - 1) Tryd.prog l #[.int .i64 (i.val : Int)] W fun e W' =>
      (e = .returned (.bool true) ∧ J (pre ++ [i]) W' ∧ Below n₀ W W') ∨ (e = .returned (.bool false) ∧ Jx (pre ++ [i]) W'))
    (W : World) (hT : Tab64 W) (hc : W.cell? ⟨Bn, 2, none⟩ = some (.int .u64 x)) (h0 : J [] W) :
    CallsIn Fence.wide n Tryd.prog 65 #[.func (.yield l) #[] #[], .pointer (some ⟨Bn, 0, none⟩)] W fun e W' => (∃ v, e = .returned v) ∧
      ((∃ ys : List (Fin m), ys.map Fin.val = Hit.members x ∧ J ys W') ∨ (∃ pre : List (Fin m), True ∧ Jx pre W')) := by
  have h264 : 2 ^ m ≤ 18446744073709551616 := Nat.pow_le_pow_right (n := 2) (by decide) hm64
  have hml : (Hit.members x).length ≤ 64 := Nat.le_trans (List.length_filter_le _ _) (by simp)
  refine callsIn_of_wp Tryd.func65 rfl trivial ?_ rfl
  simp only [Tryd.ntmps65, List.size_toArray, List.length_cons, List.length_nil, Nat.reduceAdd, Nat.reduceSub, Array.replicate_succ, Array.replicate_zero, List.push_toArray, List.append_toArray, List.nil_append, List.cons_append]
  gi_wp2
  gi_loopw [3] (fun p wr => ∃ (pre : List (Fin m)) (r : Nat), p = .int .u64 r ∧ r < 2 ^ m ∧ pre.map Fin.val ++ Hit.members r = Hit.members x ∧ J pre wr ∧ Tab64 wr)
    (fun p wr => (intOf p).toNat)
  case atStart => exact ⟨[], x, rfl, hx, rfl, h0, hT⟩
  case round =>
    obtain ⟨pre, r, rfl, hrm, hm, hJs, hTr⟩ := hrel
    have hr : r < 18446744073709551616 := Nat.lt_of_lt_of_le hrm h264
    by_cases hr0 : r = 0
    · subst hr0
      have e : Hit.members 0 = [] := by decide
      have h0' : ((0 : Int) != 0) = false := rfl
      rw [e, List.append_nil] at hm
      gi_wp2
      go_end0
      exact ⟨⟨_, rfl⟩, .inl ⟨pre, hm, hJs⟩⟩
    · have h0' : ((r : Int) != 0) = true := by simp; omega
      have h1 : (1 : Int) ≤ r := by omega
      obtain ⟨hs, hlt⟩ := Hit.members_step 64 r (by decide) hr0 hr
      rw [← Hit.tz_ctz 64 r (by decide) hr0 hr] at hs
      have hq64 : Hit.tz r < m := Hit.members_lt hrm _ (by rw [hs]; simp)
      have hand := Hit.u64_and r (r - 1) hr (by omega)
      rw [show ((r - 1 : Nat) : Int) = (r : Int) - 1 from by omega] at hand
      have hC := tz64_any r hr0 hr wr hTr
      have hpl : pre.length < 64 := by
        have := congrArg List.length hm
        rw [hs] at this
        simp at this
        omega
      obtain ⟨fn, tmps, assign, body, hy, hR⟩ := hY pre ⟨Hit.tz r, hq64⟩ wr hJs hpl
      dsimp only at hy
      gi_wp2_with (refine ⟨trivial, ?_⟩; refine (callsIn_wide.2 hC).mono ?_; rintro e w' ⟨rfl, rfl⟩)
      refine hR.mono ?_
      rintro e W3 (⟨rfl, hJ3, hk3⟩ | ⟨rfl, hJx3⟩)
      · gi_wp2
        go_roundw
        case rel => exact ⟨pre ++ [⟨Hit.tz r, hq64⟩], r &&& (r - 1), rfl, Nat.lt_of_le_of_lt Nat.and_le_left hrm, by rw [← hm, hs]; simp, hJ3, hTr.onB hg hk3⟩
        case measure => simp [intOf]; omega
      · gi_wp2
        refine bodyPost_ret (results_none rfl _ _ _) rfl ?_
        exact ⟨⟨_, rfl⟩, .inr ⟨pre ++ [⟨Hit.tz r, hq64⟩], trivial, hJx3⟩⟩
/-- a.drawn(): the receiver is boxed; the function value captures the box. -/
theorem drawn_any (vd vc : Value) (dr : Int) (hd : ∃ A m c, vd = .slice A m c) (hc : ∃ A m c, vc = .slice A m c) (w : World) :
    Calls Tryd.prog 45 #[.agg #[vd, vc, .int .u64 dr]] w fun e w' => e = .returned (.func (.func 65) #[] #[.pointer (some ⟨w.heap.size, 0, none⟩)]) ∧ w' = w.alloc (.cells #[vd, vc, .int .u64 dr] 34) := by
  obtain ⟨A, m, c, rfl⟩ := hd
  obtain ⟨B, k, d, rfl⟩ := hc
  go_enter Tryd.func45, Tryd.ntmps45
  go_wp2
  go_ret
  exact ⟨rfl, rfl⟩
/-- The iterator that drawn hands back. -/
theorem drawn_stops (n : Nat) (hn : 1 ≤ n) (m : Nat) (hm64 : m ≤ 64) (Bn n₀ : Nat) (hg : 0 < n₀) (x : Nat) (hx : x < 2 ^ m) (w : World) (hBn : Bn < w.heap.size) (hT : Tab64 w) (hc : w.cell? ⟨Bn, 2, none⟩ = some (.int .u64 x)) :
    SeqStopsK Fence.wide n Tryd.prog 65 #[.pointer (some ⟨Bn, 0, none⟩)] (fun i : Fin m => #[Value.int .i64 (i.val : Int)]) (Below n₀) (fun ys => ys.map Fin.val = Hit.members x) (fun _ => True) 64 w := fun l J Jx W hW _ _ hY h0 =>
  (drawn1_in n hn m hm64 l Bn n₀ hg x hx J Jx hY W (hT.below hW) ((hW.cell (p := ⟨Bn, 2, none⟩) hBn).trans hc) h0).mono fun _ _ ⟨h1, h2⟩ => ⟨h1, h2⟩
end Go.Proofs.YtnkjhppjjklgfaaDoor
