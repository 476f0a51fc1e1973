/- Walks over hitting: the number of bits, the lowest bit. -/
import Derived.Test.YtiochodepgldpaaDoorH1
import Derived.Test.YtiochodepgldpaaDoorHA
import Derived.Test.YtiochodepgldpaaDoorHitP
import Derived.Shelf.Spec.TrailingZeros
namespace Go.Proofs.YtiochodepgldpaaDoor
open Go Go.RowKit
theorem run_pop8 (i : Nat) (hi : i < 256) (w : World) : (Instr.index 9 (.string Lib.pop8tab) (.int .u32 (i : Int))).run Tryd.prog w = .ok (.int .u8 ((Hit.pop i : Nat) : Int)) w := by
  rw [Lib.run_index_pop8tab w 9 .u32 i Tryd.underlying9 (by omega) (by omega), (Hit.pop8_pop i hi).1]
set_option maxRecDepth 100000 in
set_option maxHeartbeats 1000000 in
theorem ones_core (x n3 n2 n1 n0 i3 i2 i1 i0 : Nat) (b3 : n3 ≤ 8) (b2 : n2 ≤ 8) (b1 : n1 ≤ 8) (b0 : n0 ≤ 8) (e3 : (x : Int) / 16777216 = (i3 : Int)) (e2 : bits .and .u32 ((x : Int) / 65536) 255 = (i2 : Int)) (e1 : bits .and .u32 ((x : Int) / 256) 255 = (i1 : Int)) (e0 : bits .and .u32 (x : Int) 255 = (i0 : Int))
    (r3 : ∀ w, (Instr.index 9 (.string Lib.pop8tab) (.int .u32 (i3 : Int))).run Tryd.prog w = .ok (.int .u8 (n3 : Int)) w) (r2 : ∀ w, (Instr.index 9 (.string Lib.pop8tab) (.int .u32 (i2 : Int))).run Tryd.prog w = .ok (.int .u8 (n2 : Int)) w)
    (r1 : ∀ w, (Instr.index 9 (.string Lib.pop8tab) (.int .u32 (i1 : Int))).run Tryd.prog w = .ok (.int .u8 (n1 : Int)) w) (r0 : ∀ w, (Instr.index 9 (.string Lib.pop8tab) (.int .u32 (i0 : Int))).run Tryd.prog w = .ok (.int .u8 (n0 : Int)) w) (w : World) :
    Calls Tryd.prog 44 #[.int .u32 x] w fun e w' => e = .returned (.int .i64 ((n3 + n2 + n1 + n0 : Nat) : Int)) ∧ ∃ n, w' = w.drewN n := by
  go_enter Tryd.func44, Tryd.ntmps44
  simp only [List.append_eq, List.cons_append, List.nil_append]
  simp only [Lib.fold_pop8tab]
  go_wp2
  refine wp_region_quiet_lit (by kernel_rfl) (by kernel_rfl) ?_
  repeat (any_goals (first | go_big_quiet_step (fail) | quiet_step (fail)))
  refine wpQuiet_nil ?_
  rintro _ ⟨n, rfl⟩
  go_wp2
  go_ret
  exact ⟨by simp, n, rfl⟩
theorem ones_any (x : Nat) (hx : x < 4294967296) (w : World) :
    Calls Tryd.prog 44 #[.int .u32 x] w fun e w' => e = .returned (.int .i64 (Hit.pop x : Nat)) ∧ ∃ n, w' = w.drewN n := by
  have m : ∀ y : Nat, y < 4294967296 → bits .and .u32 (y : Int) 255 = ((y % 256 : Nat) : Int) := fun y hy => by
    rw [show (255 : Int) = ((255 : Nat) : Int) from rfl, Hit.u32_and y 255 hy (by decide), nat_mask8]
  have p2 := (Hit.pop8_pop (x / 65536 % 256) (by omega)).2
  have p1 := (Hit.pop8_pop (x / 256 % 256) (by omega)).2
  have p0 := (Hit.pop8_pop (x % 256) (by omega)).2
  rw [Hit.pop_split x hx]
  exact ones_core x _ _ _ _ (x / 16777216) (x / 65536 % 256) (x / 256 % 256) (x % 256) (Hit.pop8_pop _ (by omega)).2 p2 p1 p0 (by omega)
    (by rw [show (x : Int) / 65536 = ((x / 65536 : Nat) : Int) from by omega, m _ (by omega)]) (by rw [show (x : Int) / 256 = ((x / 256 : Nat) : Int) from by omega, m _ (by omega)]) (m x hx)
    (fun w => run_pop8 _ (by omega) w) (fun w => run_pop8 _ (by omega) w) (fun w => run_pop8 _ (by omega) w) (fun w => run_pop8 _ (by omega) w) w
/-- The table of TrailingZeros32 lies in its variable. -/
def Tab32 (w : World) : Prop := TabAt 0 Lib.deBruijn32tab w
theorem Tab32.below {w w' : World} (h : Tab32 w) (hb : Below w.heap.size w w') : Tab32 w' := fun j hj => (hb.cell (p := ⟨0, j, none⟩) (World.block_lt_of_cell? _ _ (h j hj))).trans (h j hj)
set_option maxHeartbeats 1000000 in
theorem tz32_core (x k idx : Nat) (w : World) (hx0 : ((x : Int) == 0) = false)
    (key : bits BinOp.and IntKind.u32 (x : Int) (-(x : Int) % 4294967296) * 125613361 % 4294967296 / 134217728 = (idx : Int))
    (hi : idx < 32) (hk : k < 32) (hcell : w.cell? ⟨0, idx, none⟩ = some (.int .u8 k)) :
    Calls Tryd.prog 68 #[.int .u32 x] w fun e w' => e = .returned (.int .i64 k) ∧ w = w' := by
  go_enter Tryd.func68, Tryd.ntmps68
  go_wp2_with (simp only [key])
  go_ret
  exact ⟨rfl, rfl⟩
theorem tz32_any (x : Nat) (h0 : x ≠ 0) (hx : x < 4294967296) (w : World) (hT : Tab32 w) :
    Calls Tryd.prog 68 #[.int .u32 x] w fun e w' => e = .returned (.int .i64 (Hit.tz x : Nat)) ∧ w = w' := by
  obtain ⟨hlow, hk⟩ := Hit.low_bit 32 x (by decide) h0 hx
  obtain ⟨hi, hd⟩ := Lib.deBruijn32_at (Hit.tz x) hk
  have hcell := hT _ (by exact hi)
  rw [hd] at hcell
  exact tz32_core x _ _ w (by simp; omega) (tz32_key x _ hx h0 hlow) hi hk hcell
set_option maxHeartbeats 1000000 in
theorem numbers_any (x : Nat) (hx : x < 4294967296) (w : World) (hT : Tab32 w) :
    Calls Tryd.prog 37 #[.int .u32 x] w fun e w' => ∃ A n c, e = .returned (.slice A n c) ∧ n = (Hit.members x).length ∧ Own0 w' w.heap.size 3 1 A n c (cellsV vN (Hit.members x)) ∧ Below w.heap.size w w' := by
  have hpl : (Hit.members x).length ≤ 64 := Nat.le_trans (List.length_filter_le _ _) (by simp)
  go_enter Tryd.func37, Tryd.ntmps37
  go_wp2
  go_loopg [0, 3] x (fun gg s0 s3 wr => ∃ (y : Nat) (dn : List Nat) (A : Option Addr) (n c : Nat), y ≤ gg ∧ y < 4294967296 ∧ s0 = .int .u32 y ∧ s3 = .slice A n c ∧ n + (Hit.members y).length ≤ 64 ∧ Aside (n = dn.length) ∧ Aside (Hit.members x = dn ++ Hit.members y) ∧ Aside (Own0 wr w.heap.size 3 1 A n c (cellsV vN dn)) ∧ Aside (Below w.heap.size w wr))
  case atStart => exact ⟨x, [], none, 0, 0, by omega, hx, rfl, rfl, by omega, rfl, rfl, Own0.nil, B0 w⟩
  case round =>
    obtain ⟨y, dn, A, n, c, hg, hy, rfl, rfl, hn, HN, HM, HO, HB⟩ := hrel
    by_cases h0 : y = 0
    · subst h0
      have e : Hit.members 0 = [] := by decide
      have h0' : ((0 : Int) != 0) = false := rfl
      rw [e, List.append_nil] at HM
      clear e hn
      go_wp2
      go_ret
      exact ⟨A, n, c, rfl, by rw [HM]; exact HN, by rw [HM]; exact HO, HB⟩
    · have h0' : ((y : Int) != 0) = true := by simp; omega
      have h1 : (1 : Int) ≤ y := by omega
      obtain ⟨hs, hlt⟩ := Hit.members_step 32 y (by decide) h0 hy
      rw [← Hit.tz_ctz 32 y (by decide) h0 hy] at hs
      have hand := Hit.u32_and y (y - 1) hy (by omega)
      rw [show ((y - 1 : Nat) : Int) = (y : Int) - 1 from by omega] at hand
      have hC : ∀ W, Below w.heap.size w W → Calls Tryd.prog 68 #[.int .u32 y] W fun e w' => e = .returned (.int .i64 (Hit.tz y : Nat)) ∧ W = w' := fun W hW => tz32_any y h0 hy W (hT.below hW)
      have hM : Hit.members x = (dn ++ [Hit.tz y]) ++ Hit.members (y &&& (y - 1)) := by rw [HM, hs]; simp
      have hnl : n + 1 + (Hit.members (y &&& (y - 1))).length ≤ 64 := by rw [hs] at hn; simp only [List.length_cons] at hn; omega
      have HC := Lib.hid hC
      have HM2 := Lib.hid hM
      have HNL := Lib.hid hnl
      have HLT := Lib.hid hlt
      have hn64 : n ≤ 64 := by omega
      generalize y &&& (y - 1) = z at *
      generalize Hit.tz y = q at *
      clear hs hC hM hnl hlt hn HM h0
      go_wp2_with (first
        | (go_at_call 68; refine (HC.out _ HB.out).mono ?_; rintro e w' ⟨rfl, rfl⟩)
        | (at_builtin; refine wpList_app0 elemI rfl _ _ rfl (Own0.alloc HO.out _) rfl wr.heap.size (.int .i64 (q : Int)) rfl (by simp) rfl (by omega) (by omega) (by have := HB.out.size; simp; omega) ?_; intro A' c' w2 q1 q2; have Q1 := Lib.hid q1; have Q2 := Lib.hid (Bg0 (Ba HB.out _) (Own0.alloc HO.out _) (Nat.le_refl _) q2); clear q1 q2))
      go_roundg z
      case measure => have := HLT.out; omega
      case rel => exact ⟨z, dn ++ [q], A', n + 1, c', by have := HLT.out; omega, by have := HLT.out; omega, by go_num, rfl, HNL.out, by have := HN.out; show n + 1 = (dn ++ [q]).length; simp; exact this, HM2.out, by rw [cellsV_snoc]; exact Q1.out, Q2.out⟩
end Go.Proofs.YtiochodepgldpaaDoor
