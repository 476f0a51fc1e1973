/- Walks over hitting: the number of bits, the lowest bit. Walks over hitting: the words of the sets, the first set that is missed, the error of a problem. -/
import Derived.Test.YtnpdoejjebgcpaaH0
import Derived.Test.YtnpdoejjebgcpaaCovP
import Derived.Shelf.Spec.TrailingZeros
namespace Go.Proofs.Ytnpdoejjebgcpaa
open Go Go.RowKit
theorem run_pop8 (i : Nat) (hi : i < 256) (w : World) : (Instr.index 9 (.string Lib.pop8tab) (.int .u32 (i : Int))).run Try.prog w = .ok (.int .u8 ((Hit.pop i : Nat) : Int)) w := by
  rw [Lib.run_index_pop8tab w 9 .u32 i Try.underlying9 (by omega) (by omega), (Hit.pop8_pop i hi).1]
set_option maxRecDepth 100000 in
set_option maxHeartbeats 1000000 in
theorem ones_core (x n3 n2 n1 n0 i3 i2 i1 i0 : Nat) (b3 : n3 ≤ 8) (b2 : n2 ≤ 8) (b1 : n1 ≤ 8) (b0 : n0 ≤ 8) (e3 : (x : Int) / 16777216 = (i3 : Int)) (e2 : bits .and .u32 ((x : Int) / 65536) 255 = (i2 : Int)) (e1 : bits .and .u32 ((x : Int) / 256) 255 = (i1 : Int)) (e0 : bits .and .u32 (x : Int) 255 = (i0 : Int))
    (r3 : ∀ w, (Instr.index 9 (.string Lib.pop8tab) (.int .u32 (i3 : Int))).run Try.prog w = .ok (.int .u8 (n3 : Int)) w) (r2 : ∀ w, (Instr.index 9 (.string Lib.pop8tab) (.int .u32 (i2 : Int))).run Try.prog w = .ok (.int .u8 (n2 : Int)) w)
    (r1 : ∀ w, (Instr.index 9 (.string Lib.pop8tab) (.int .u32 (i1 : Int))).run Try.prog w = .ok (.int .u8 (n1 : Int)) w) (r0 : ∀ w, (Instr.index 9 (.string Lib.pop8tab) (.int .u32 (i0 : Int))).run Try.prog w = .ok (.int .u8 (n0 : Int)) w) (w : World) :
    Calls Try.prog 76 #[.int .u32 x] w fun e w' => e = .returned (.int .i64 ((n3 + n2 + n1 + n0 : Nat) : Int)) ∧ ∃ n, w' = w.drewN n := by
  go_enter Try.func76, Try.ntmps76
  simp only [List.append_eq, List.cons_append, List.nil_append]
  simp only [Lib.fold_pop8tab]
  go_wp2
  refine wp_region_quiet_lit (by kernel_rfl) (by kernel_rfl) ?_
  repeat (any_goals (first | go_big_quiet_step (fail) | quiet_step (fail)))
  refine wpQuiet_nil ?_
  rintro _ ⟨n, rfl⟩
  go_wp2
  go_ret
  exact ⟨by simp, n, rfl⟩
theorem ones_any (x : Nat) (hx : x < 4294967296) (w : World) :
    Calls Try.prog 76 #[.int .u32 x] w fun e w' => e = .returned (.int .i64 (Hit.pop x : Nat)) ∧ ∃ n, w' = w.drewN n := by
  have m : ∀ y : Nat, y < 4294967296 → bits .and .u32 (y : Int) 255 = ((y % 256 : Nat) : Int) := fun y hy => by
    rw [show (255 : Int) = ((255 : Nat) : Int) from rfl, Hit.u32_and y 255 hy (by decide), nat_mask8]
  have p2 := (Hit.pop8_pop (x / 65536 % 256) (by omega)).2
  have p1 := (Hit.pop8_pop (x / 256 % 256) (by omega)).2
  have p0 := (Hit.pop8_pop (x % 256) (by omega)).2
  rw [Hit.pop_split x hx]
  exact ones_core x _ _ _ _ (x / 16777216) (x / 65536 % 256) (x / 256 % 256) (x % 256) (Hit.pop8_pop _ (by omega)).2 p2 p1 p0 (by omega)
    (by rw [show (x : Int) / 65536 = ((x / 65536 : Nat) : Int) from by omega, m _ (by omega)]) (by rw [show (x : Int) / 256 = ((x / 256 : Nat) : Int) from by omega, m _ (by omega)]) (m x hx)
    (fun w => run_pop8 _ (by omega) w) (fun w => run_pop8 _ (by omega) w) (fun w => run_pop8 _ (by omega) w) (fun w => run_pop8 _ (by omega) w) w
end Go.Proofs.Ytnpdoejjebgcpaa
namespace Go.Proofs.Ytnpdoejjebgcpaa
open Go Go.RowKit
theorem findIdx_take (ws : List Nat) (p : Nat → Bool) (k : Nat) (h : ∀ j (hj : j < ws.length), j < k → p ws[j] = false) (hk : k < ws.length) (hp : p ws[k] = true) : ws.findIdx p = k := by
  rw [List.findIdx_eq hk]
  exact ⟨hp, fun j hj => h j (by omega) hj⟩
/-- The first index at which p holds, or -1. -/
def idxF (p : Nat → Bool) (l : List Nat) : Int := if l.findIdx p = l.length then -1 else (l.findIdx p : Int)
theorem idxF_hit (l : List Nat) (p : Nat → Bool) (k : Nat) (h : ∀ j (hj : j < l.length), j < k → p l[j] = false) (hk : k < l.length) (hp : p l[k] = true) : idxF p l = k := by
  unfold idxF
  rw [findIdx_take l p k h hk hp, if_neg (by omega)]
theorem idxF_miss (l : List Nat) (p : Nat → Bool) (h : ∀ j (hj : j < l.length), p l[j] = false) : idxF p l = -1 := by
  unfold idxF
  rw [if_pos (List.findIdx_eq_length.2 fun x hx => by
    obtain ⟨j, hj, rfl⟩ := List.getElem_of_mem hx
    exact h j hj)]
/-- The first set that is missed, or -1. -/
def missF (ws : List Nat) (x : Nat) : Int := idxF (fun s => s &&& x == 0) ws
theorem missF_eq (ws : List Nat) (x : Nat) : missF ws x = if Hit.miss ws x = ws.length then -1 else (Hit.miss ws x : Int) := rfl
theorem missF_neg (ws : List Nat) (x : Nat) : (missF ws x < 0) ↔ Hit.hit ws x = true := by
  rw [missF_eq, ← Hit.miss_hit]
  split
  · rename_i h; simp [h]
  · rename_i h; first | (simp [h]; done) | (simp [h]; omega)
/-- The words of the sets of a problem, as a list of the call's own. -/
theorem setsOf_length (ws : List Nat) : (setsOf ws).length = ws.length := by simp [setsOf]
theorem setsOf_get (ws : List Nat) (i : Nat) (h : i < (setsOf ws).length) : (setsOf ws)[i] = Hit.ints (Hit.members (ws[i]'(by rw [← setsOf_length]; exact h))) := by simp [setsOf]
set_option maxHeartbeats 1000000 in
theorem words_any (n : Int) (vs : Value) (ws : List Nat) (hw : ∀ s ∈ ws, s < 4294967296) (hl : ws.length ≤ 1000) (w : World) (F : Nat → Prop) (hF : ∀ b, F b → b < w.heap.size) (hr : SlII F w vs (setsOf ws)) :
    Calls Try.prog 45 #[.agg #[.int .i64 n, vs]] w fun e w' => ∃ A m c, e = .returned (.slice A m c) ∧ m = ws.length ∧ Own0 w' w.heap.size 113 1 A m c (cellsV (vU .u32) ws) ∧ Below w.heap.size w w' := by
  have hr' := hr
  obtain ⟨As, cs, rfl, hlc, _, hat⟩ := hr.open
  rw [setsOf_length] at hlc ⊢
  clear hr
  go_enter Try.func45, Try.ntmps45
  go_wp2_with fail
  go_loopg [3, 9] ws.length (fun gg s3 s9 wr => ∃ (k : Nat) (A : Option Addr) (c : Nat), k ≤ ws.length ∧ ws.length - k ≤ gg ∧ s9 = .int .i64 k ∧ s3 = .slice A k c ∧ Aside (Own0 wr w.heap.size 113 1 A k c (cellsV (vU .u32) (ws.take k))) ∧ Aside (Below w.heap.size w wr))
  case atStart => exact ⟨0, none, 0, by omega, by omega, rfl, rfl, Own0.nil, Ba (B0 w) _⟩
  case round =>
    obtain ⟨k, A, c, hk, hg, rfl, rfl, HO, HB⟩ := hrel
    by_cases hlt : k < ws.length
    · have hki : decide ((k : Int) < ws.length) = true := decide_eq_true (by omega)
      obtain ⟨ad, u, rfl, hf, hc, hu⟩ := hat k (by rw [setsOf_length]; exact hlt)
      rw [setsOf_get] at hu
      have hc' := (HB.out.cell (p := ad.add k) (by rw [block_of_add]; exact hF _ hf)).trans hc
      have hm : ∀ x ∈ Hit.members ws[k], x < 32 := Hit.members_lt (n := 32) (hw _ (List.getElem_mem hlt))
      have he : Hit.word (Hit.members ws[k]) = ws[k] := Hit.word_members (Nat.lt_of_lt_of_le (hw _ (List.getElem_mem hlt)) (by decide))
      have hC : Calls Try.prog 67 #[u] wr fun e w' => e = .returned (.int .u32 ((ws[k] : Nat) : Int)) ∧ wr = w' := by
        have := word_any u (Hit.members ws[k]) hm wr F (hu.keep (Agree.below HB.out hF))
        rw [he] at this
        exact this
      have ht : ws.take (k + 1) = ws.take k ++ [ws[k]] := List.take_succ_eq_append_getElem hlt
      have HC := Lib.hid hC
      have HT := Lib.hid ht
      have HW := Lib.hid hw
      generalize ws[k] = q at *
      clear hat hu hc hm he hC ht hw hr'
      go_wp2_with (first
        | (go_at_call 67; refine HC.out.mono ?_; rintro e w' ⟨rfl, rfl⟩)
        | (at_builtin; refine wpList_app0 elemU rfl _ _ rfl (Own0.alloc HO.out _) rfl wr.heap.size (.int .u32 (q : Int)) rfl (by simp) rfl (by omega) (by omega) (by have := HB.out.size; simp; omega) ?_; intro A' c' w2 q1 q2; have Q1 := Lib.hid q1; have Q2 := Lib.hid (Bg0 (Ba HB.out _) (Own0.alloc HO.out _) (Nat.le_refl _) q2); clear q1 q2))
      go_roundg (ws.length - (k + 1))
      case measure => omega
      case rel => exact ⟨k + 1, A', c', by omega, by omega, by go_num, rfl, by rw [HT.out, cellsV_snoc]; exact Q1.out, Q2.out⟩
    · have hki : decide ((k : Int) < ws.length) = false := decide_eq_false (by omega)
      have : k = ws.length := by omega
      subst this
      clear hat hw hr'
      go_wp2
      go_ret
      exact ⟨A, _, c, rfl, rfl, by have := HO.out; rw [List.take_length] at this; exact this, HB.out⟩
end Go.Proofs.Ytnpdoejjebgcpaa
