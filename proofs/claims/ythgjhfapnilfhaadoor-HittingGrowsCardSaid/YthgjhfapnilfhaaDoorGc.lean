/- Walks over the statements of hitting: HittingGrows. -/
import Derived.Test.YthgjhfapnilfhaaDoorGb
import Derived.Test.YthgjhfapnilfhaaDoorGp
namespace Go.Proofs.YthgjhfapnilfhaaDoor
open Go Go.RowKit
/-- What the operations of 'hitting.Problem{p.Numbers, append(append([][]int{}, p.Sets...), ref.Members(bits))}' have left. -/
def FG (pb base n m : Nat) (A : Option Addr) (c : Nat) (us : List Value) (b : Nat) (j : Nat) (s : Nat → Value) (w : World) : Prop :=
  match j with
  | 0 => s 38 = .pointer (some ⟨pb, 0, none⟩)
  | 1 => s 39 = .int .i64 n
  | 2 => ∃ A0, s 40 = .slice A0 0 0
  | 3 => s 41 = .pointer (some ⟨pb, 1, none⟩)
  | 4 => s 42 = .slice A m c
  | 5 => ∃ A' c', s 43 = .slice A' m c' ∧ Own0 w base 37 1 A' m c' us
  | 6 => s 44 = .int .u64 b
  | 7 => ∃ A' c', s 45 = .slice A' (Hit.members b).length c' ∧ Own0 w base 3 1 A' (Hit.members b).length c' (cellsV vN (Hit.members b))
  | 8 => ∃ g A' c', s 46 = .slice (some ⟨g, 0, none⟩) 1 1 ∧ w.cell? ⟨g, 0, none⟩ = some (.slice A' (Hit.members b).length c') ∧ Own0 w base 3 1 A' (Hit.members b).length c' (cellsV vN (Hit.members b))
  | 9 => ∃ A8 c8 A' c', s 47 = .slice A8 (m + 1) c8 ∧ Own0 w base 37 1 A8 (m + 1) c8 (us ++ [Value.slice A' (Hit.members b).length c']) ∧ Own0 w base 3 1 A' (Hit.members b).length c' (cellsV vN (Hit.members b))
  | 10 => s 48 = .agg #[.int .i64 n, s 47]
  | 11 => ∃ qb u0 u1, s 7 = .pointer (some ⟨qb, 0, none⟩) ∧ base ≤ qb ∧ Blk w qb 30 #[u0, u1]
  | _ => True
def VG (j : Nat) : List Nat := match j with
  | 0 => [38] | 1 => [39] | 2 => [40] | 3 => [41] | 4 => [42] | 5 => [43] | 6 => [44] | 7 => [45] | 8 => [46] | 9 => [47] | 10 => [48, 47] | 11 => [7] | _ => []
def EG (j : Nat) : Bool := j == 9 || j == 10 || j == 11
section
variable {pb base n m : Nat} {A : Option Addr} {c : Nat} {us : List Value} {b : Nat}
theorem FG_V (j : Nat) (s s' : Nat → Value) (w : World) (h : ∀ t, t ∈ VG j → s' t = s t) (hF : FG pb base n m A c us b j s w) : FG pb base n m A c us b j s' w := by
  match j with
  | 0 => simpa [FG, h 38 (by simp [VG])] using hF
  | 1 => simpa [FG, h 39 (by simp [VG])] using hF
  | 2 => simpa [FG, h 40 (by simp [VG])] using hF
  | 3 => simpa [FG, h 41 (by simp [VG])] using hF
  | 4 => simpa [FG, h 42 (by simp [VG])] using hF
  | 5 => simpa [FG, h 43 (by simp [VG])] using hF
  | 6 => simpa [FG, h 44 (by simp [VG])] using hF
  | 7 => simpa [FG, h 45 (by simp [VG])] using hF
  | 8 => simpa [FG, h 46 (by simp [VG])] using hF
  | 9 => simpa [FG, h 47 (by simp [VG])] using hF
  | 10 => simpa [FG, h 48 (by simp [VG]), h 47 (by simp [VG])] using hF
  | 11 => simpa [FG, h 7 (by simp [VG])] using hF
  | j + 12 => trivial
theorem FG_below (j : Nat) (s : Nat → Value) (w w' : World) (hb : Below w.heap.size w w') (hF : FG pb base n m A c us b j s w) : FG pb base n m A c us b j s w' := by
  match j with
  | 0 => exact hF
  | 1 => exact hF
  | 2 => exact hF
  | 3 => exact hF
  | 4 => exact hF
  | 5 => obtain ⟨A', c', h1, h2⟩ := hF; exact ⟨A', c', h1, h2.below hb⟩
  | 6 => exact hF
  | 7 => obtain ⟨A', c', h1, h2⟩ := hF; exact ⟨A', c', h1, h2.below hb⟩
  | 8 => obtain ⟨g, A', c', h1, h2, h3⟩ := hF; exact ⟨g, A', c', h1, (Bc hb (World.block_lt_of_cell? _ _ h2)).trans h2, h3.below hb⟩
  | 9 => obtain ⟨A8, c8, A', c', h1, h2, h3⟩ := hF; exact ⟨A8, c8, A', c', h1, h2.below hb, h3.below hb⟩
  | 10 => exact hF
  | 11 => obtain ⟨qb, u0, u1, h1, h2, h3⟩ := hF; exact ⟨qb, u0, u1, h1, h2, h3.below hb h3.lt⟩
  | j + 12 => trivial
end
/-- The problem with a further set. -/
def GMade (w1 : World) (n : Nat) (ws : List Nat) (s7 : Value) (wx : World) : Prop :=
  ∃ qb A c, s7 = .pointer (some ⟨qb, 0, none⟩) ∧ qb < wx.heap.size ∧ wx.cell? ⟨qb, 0, none⟩ = some (.int .i64 n) ∧ wx.cell? ⟨qb, 1, none⟩ = some (.slice A ws.length c) ∧ SlII (fun b => b < wx.heap.size) wx (.slice A ws.length c) (setsOf ws) ∧ Below w1.heap.size w1 wx
theorem u64_low (m n : Nat) (hm : m < 256) (hn : n ≤ 8) : bits .and .u64 (m : Int) (((Hit.bit n - 1 : Nat)) : Int) = ((m &&& (Hit.bit n - 1) : Nat) : Int) := by
  have hbn : Hit.bit n ≤ 256 := Nat.pow_le_pow_right (n := 2) (by decide) hn
  exact Hit.u64_and m _ (by omega) (by omega)
set_option maxRecDepth 200000 in
set_option maxHeartbeats 8000000 in
theorem law_grows (N : Nat) (hN : N < 256) (vs : Value) (sets : List Nat) (hs : ∀ s ∈ sets, s < 256) (more : Nat) (hmore : more < 256) (w : World) (F : Nat → Prop) (hF : ∀ b, F b → b < w.heap.size) (hr : SlU .u8 F w vs sets) (hT : Tab32 w) (hTP : TabP w) :
    Calls Tryd.prog 6 #[.agg #[.int .u8 N, vs], .int .u8 more] w fun e w' => e = .returned (.bool true) ∧ Below w.heap.size w w' := by
  have hK : ∀ W, Below w.heap.size w W → Calls Tryd.prog 17 #[] W fun e w' => e = .returned (.bool true) ∧ Below W.heap.size W w' := fun W hW => known_any W (hT.below hW)
  have hM := make_prob N hN vs sets hs w F hF hr hT
  have hpl := Hit.planW_len (1 + N % 8) sets
  obtain ⟨As, cs, rfl, _⟩ := hr.open
  have hn8 : 1 + N % 8 ≤ 8 := by omega
  have hand := u64_low more (1 + N % 8) hmore hn8
  have hand2 : more &&& (Hit.bit (1 + N % 8) - 1) < 2 ^ (1 + N % 8) := Nat.lt_of_le_of_lt Nat.and_le_right (by have := Nat.two_pow_pos (1 + N % 8); show 2 ^ (1 + N % 8) - 1 < _; omega)
  generalize Hit.planW (1 + N % 8) sets = ws at *
  generalize 1 + N % 8 = n at *
  have two := Hit.two_u64w n (by omega)
  have hbn : Hit.bit n ≤ 256 := Nat.pow_le_pow_right (n := 2) (by decide) hn8
  have hbp : 0 < Hit.bit n := Nat.two_pow_pos n
  have hsub : IntKind.u64.wrap (((Hit.bit n : Nat) : Int) - 1) = ((Hit.bit n - 1 : Nat) : Int) := by
    rw [IntKind.wrap_u64]; omega
  have n64 : (n : Int) % 18446744073709551616 = n := by omega
  have n64b : min n 64 = n := by omega
  have m64 : (more : Int) % 18446744073709551616 = more := by omega
  have hnI : (n : Int) ≤ 8 := by omega
  have hmI : (more : Int) < 256 := by omega
  have hK2 : 2 ^ n ≤ 256 := hbn
  generalize more &&& (Hit.bit n - 1) = b at *
  generalize Hit.bit n - 1 = bn1 at *
  generalize Hit.bit n = bn at *
  have HK := Lib.hid hK
  have HM := Lib.hid hM
  have HTP := Lib.hid hTP
  have HB2L := Lib.hid hand2
  have HPL := Lib.hid hpl
  clear hK hM hr hT hs hTP hand2 hpl
  go_enter Tryd.func6, Tryd.ntmps6
  go_upto_region 4 with (first
    | (go_at_call 17; refine (HK.out _ (Ba (B0 w) _)).mono ?_; rintro e w1 ⟨rfl, hb1⟩; have HB1 := Lib.hid (Bt (Ba (B0 w) _) hb1); have c0 : w1.cell? ⟨w.heap.size, 0, none⟩ = some (.int .u8 N) := (Bc hb1 (by simp)).trans (by simp [go_sem]); have c1 : w1.cell? ⟨w.heap.size, 1, none⟩ = some (.slice As sets.length cs) := (Bc hb1 (by simp)).trans (by simp [go_sem]); clear hb1)
    | (go_at_call 9; refine (HM.out _ HB1.out).mono ?_; rintro e w2 ⟨A2, m2, c2, rfl, hp2, hb2⟩; have HB2 := Lib.hid (Bt HB1.out hb2); have HP2 := Lib.hid hp2; clear hb2 hp2 c0 c1))
  have hm2 : m2 = ws.length := by
    obtain ⟨A', c', hv, _⟩ := HP2.out.sets.open
    injection hv with _ q _
    rw [q, setsOf_length]
  subst hm2
  have hb3 := Ba HB2.out (.cells #[.int .i64 n, .slice A2 ws.length c2] 30)
  have hP3 := (HP2.out.on (Ba (B0 w2) (.cells #[.int .i64 n, .slice A2 ws.length c2] 30)))
  have k0 : (w2.alloc (.cells #[.int .i64 n, .slice A2 ws.length c2] 30)).cell? ⟨w2.heap.size, 0, none⟩ = some (.int .i64 n) := by simp [go_sem]
  have k1 : (w2.alloc (.cells #[.int .i64 n, .slice A2 ws.length c2] 30)).cell? ⟨w2.heap.size, 1, none⟩ = some (.slice A2 ws.length c2) := by simp [go_sem]
  have l3 : w2.heap.size < (w2.alloc (.cells #[.int .i64 n, .slice A2 ws.length c2] 30)).heap.size := by simp
  generalize (w2.alloc (.cells #[.int .i64 n, .slice A2 ws.length c2] 30)) = w3 at *
  have hP3 := hP3.more (Nat.le_of_lt l3) (Nat.le_refl _)
  have HB3 := Lib.hid hb3
  have HP3 := Lib.hid hP3
  obtain ⟨pb, hpb⟩ : ∃ pb, w2.heap.size = pb := ⟨_, rfl⟩
  rw [hpb] at k0 k1 l3 ⊢
  have HT3 := Lib.hid (HTP.out.below hb3)
  clear hb3 hP3 HM HP2 hpb HTP
  by_cases hbz : b = 0
  · have hz : ((b : Int) == 0) = true := by rw [hbz]; rfl
    go_wp2_with fail
    go_ret
    exact ⟨rfl, HB3.out⟩
  have hz : ((b : Int) == 0) = false := by simpa using hbz
  have HBZ := Lib.hid hbz
  clear hbz
  go_upto_region 7 with fail
  go_cut [7] from 38 to 48 (fun s7 wx => GMade w3 n (ws ++ [b]) s7 wx)
  case first =>
    obtain ⟨us, hv, hrd⟩ := SlII.vals HP3.out.sets (B := w3.heap.size) fun _ h => h
    have hub := hv.cell1
    have hul : us.length = ws.length := by rw [hv.len, setsOf_length]
    have hwl := HPL.out
    have hbl := HB2L.out
    go_wp2_with fail
    refine region_blocks (by kernel_rfl) ?_
    refine from_lawM 12 EG (fun w' => Below w3.heap.size w3 w') (FG pb w3.heap.size n ws.length A2 c2 us b) VG (by kernel_rfl) rfl FG_V (by kernel_rfl) (by kernel_rfl) (B0 w3).drew ⟨?_, ?_, ?_, ?_, ?_, ?_, ?_, ?_, ?_, ?_, ?_, ?_, trivial⟩ ?_
    · refine OpFactM.value FG_below fun a w2 hf D hb => ?_
      have h5 : sl a 5 = .pointer (some ⟨pb, 0, none⟩) := hf 5 (by kernel_rfl)
      refine ⟨.pointer (some ⟨pb, 0, none⟩), w2, ?_, B0 _, hb, fun s _ h => h 38 rfl⟩
      unfold sl at h5
      simp [go_sem, h5]
    · refine OpFactM.value FG_below fun a w2 hf D hb => ?_
      have h5 : sl a 38 = .pointer (some ⟨pb, 0, none⟩) := D 0 (by kernel_rfl)
      refine ⟨.int .i64 n, w2, ?_, B0 _, hb, fun s _ h => h 39 rfl⟩
      have kq := (Bc hb l3).trans k0
      unfold sl at h5
      simp at h5
      simp [go_sem, h5, kq]
    · refine OpFactM.value FG_below fun a w2 hf D hb => ?_
      refine ⟨.slice (some ⟨w2.heap.size, 0, none⟩) 0 0, w2.alloc (.cells #[] 37), ?_, Ba (B0 _) _, Ba hb _, fun s _ h => ⟨_, h 40 rfl⟩⟩
      simp [go_sem]
    · refine OpFactM.value FG_below fun a w2 hf D hb => ?_
      have h5 : sl a 5 = .pointer (some ⟨pb, 0, none⟩) := hf 5 (by kernel_rfl)
      refine ⟨.pointer (some ⟨pb, 1, none⟩), w2, ?_, B0 _, hb, fun s _ h => h 41 rfl⟩
      unfold sl at h5
      simp [go_sem, h5]
    · refine OpFactM.value FG_below fun a w2 hf D hb => ?_
      have h5 : sl a 41 = .pointer (some ⟨pb, 1, none⟩) := D 3 (by kernel_rfl)
      refine ⟨.slice A2 ws.length c2, w2, ?_, B0 _, hb, fun s _ h => h 42 rfl⟩
      have kq := (Bc hb l3).trans k1
      unfold sl at h5
      simp at h5
      simp [go_sem, h5, kq]
    · refine OpFactM.value FG_below fun a w2 hf D hb => ?_
      obtain ⟨A0, h40⟩ : ∃ A0, sl a 40 = .slice A0 0 0 := D 2 (by kernel_rfl)
      have h42 : sl a 42 = .slice A2 ws.length c2 := D 4 (by kernel_rfl)
      obtain ⟨A', c', w', hrun, h2, h3⟩ := run_copy (w := w2) elemS (by omega) 28 A0 w3.heap.size A2 ws.length c2 us (hrd.below hb) hub (by omega) (by omega)
      refine ⟨.slice A' ws.length c', w', ?_, h2, Bt hb h2, fun s _ h => ⟨A', c', h 43 rfl, h3.more hb.size⟩⟩
      unfold sl at h40 h42
      simp at h40 h42
      unfold execOp
      simp [resolve, invoke, builtin, Act.eval, h40, h42, hrun]
    · refine OpFactM.value FG_below fun a w2 hf D hb => ?_
      have h5 : sl a 6 = .int .u64 b := hf 6 (by kernel_rfl)
      refine ⟨.int .u64 b, w2, ?_, B0 _, hb, fun s _ h => h 44 rfl⟩
      unfold sl at h5
      simp [go_sem, h5]
    · refine OpFactM.call FG_below fun a w2 hf D hb => ?_
      have h44 : sl a 44 = .int .u64 b := D 6 (by kernel_rfl)
      refine ⟨24, #[.int .u64 b], ?_, (members_any b (by omega) w2).mono ?_⟩
      · unfold sl at h44
        simp at h44
        simp [Act.eval, h44, go_sem]
      · rintro e w3 ⟨A3, m3, c3, rfl, rfl, hO3, hb3⟩
        exact ⟨_, rfl, hb3, Bt hb hb3, fun s _ h => ⟨A3, c3, h 45 rfl, hO3.more hb.size⟩⟩
    · refine OpFactM.value FG_below fun a w2 hf D hb => ?_
      obtain ⟨A3, c3, h45, hO3⟩ : ∃ A' c', sl a 45 = .slice A' (Hit.members b).length c' ∧ Own0 w2 w3.heap.size 3 1 A' (Hit.members b).length c' (cellsV vN (Hit.members b)) := D 7 (by kernel_rfl)
      refine ⟨.slice (some ⟨w2.heap.size, 0, none⟩) 1 1, w2.alloc (.cells #[.slice A3 (Hit.members b).length c3] 37), ?_, Ba (B0 _) _, Ba hb _, fun s _ h => ⟨_, A3, c3, h 46 rfl, by simp [go_sem], hO3.alloc _⟩⟩
      unfold sl at h45
      simp at h45
      simp [go_sem, h45]
    · refine OpFactM.write fun a w2 hf D hb => ?_
      obtain ⟨A', c', h43, hO⟩ : ∃ A' c', sl a 43 = .slice A' ws.length c' ∧ Own0 w2 w3.heap.size 37 1 A' ws.length c' us := D 5 (by kernel_rfl)
      obtain ⟨g, A3, c3, h46, hcb, hO3⟩ : ∃ g A' c', sl a 46 = .slice (some ⟨g, 0, none⟩) 1 1 ∧ w2.cell? ⟨g, 0, none⟩ = some (.slice A' (Hit.members b).length c') ∧ Own0 w2 w3.heap.size 3 1 A' (Hit.members b).length c' (cellsV vN (Hit.members b)) := D 8 (by kernel_rfl)
      obtain ⟨A8, c8, w', hrun, h2, h3⟩ := run_app0 (w := w2) elemS 28 hO g (.slice A3 (Hit.members b).length c3) hcb rfl (by omega) (by omega) hb.size
      refine ⟨.slice A8 (ws.length + 1) c8, w', ?_, Bg0 hb hO (Nat.le_refl _) h3, fun j hj hE hF => ?_, fun s _ h => ⟨A8, c8, A3, c3, h 47 rfl, h2, hO3.past hO (by decide) h3⟩⟩
      · unfold sl at h43 h46
        simp at h43 h46
        unfold execOp
        simp [resolve, invoke, builtin, Act.eval, h43, h46, hrun]
      · match j with
        | 0 => exact hF
        | 1 => exact hF
        | 2 => exact hF
        | 3 => exact hF
        | 4 => exact hF
        | 5 => exact hE.elim (fun h => absurd h (by decide)) fun h => absurd h (Bool.eq_false_iff.1 (by kernel_rfl))
        | 6 => exact hF
        | 7 => exact hE.elim (fun h => absurd h (by decide)) fun h => absurd h (Bool.eq_false_iff.1 (by kernel_rfl))
        | 8 => exact hE.elim (fun h => absurd h (by decide)) fun h => absurd h (Bool.eq_false_iff.1 (by kernel_rfl))
        | 9 => exact absurd rfl hj
        | 10 => exact hF
        | 11 => obtain ⟨qb, u0, u1, q1, q2, q3⟩ := hF; exact ⟨qb, u0, u1, q1, q2, q3.past hO (by decide) h3⟩
        | _ + 12 => trivial
    · refine OpFactM.value FG_below fun a w2 hf D hb => ?_
      have h39 : sl a 39 = .int .i64 n := D 1 (by kernel_rfl)
      obtain ⟨A8, c8, A3, c3, h47, _, _⟩ : ∃ A8 c8 A' c', sl a 47 = .slice A8 (ws.length + 1) c8 ∧ Own0 w2 w3.heap.size 37 1 A8 (ws.length + 1) c8 (us ++ [Value.slice A' (Hit.members b).length c']) ∧ Own0 w2 w3.heap.size 3 1 A' (Hit.members b).length c' (cellsV vN (Hit.members b)) := D 9 (by kernel_rfl)
      refine ⟨.agg #[.int .i64 n, .slice A8 (ws.length + 1) c8], w2, ?_, B0 _, hb, fun s h1 h => ?_⟩
      · unfold sl at h39 h47
        have g39 := h39
        have g47 := h47
        simp at g39 g47
        simp [go_sem, g39, g47]
      · show s 48 = .agg #[.int .i64 n, s 47]
        rw [h 48 rfl, h1 47 (by decide), h47]
    · refine OpFactM.value FG_below fun a w2 hf D hb => ?_
      refine ⟨.pointer (some ⟨w2.heap.size, 0, none⟩), w2.alloc (.cells #[.int .i64 0, .slice none 0 0] 30), ?_, Ba (B0 _) _, Ba hb _, fun s _ h => ⟨_, _, _, h 7 rfl, hb.size, Blk.new _ _ _⟩⟩
      simp [go_sem]
    · intro y w9 hb9 hF
      obtain ⟨A8, c8, A3, c3, h47, hO8, hO3⟩ : ∃ A8 c8 A' c', y 47 = .slice A8 (ws.length + 1) c8 ∧ Own0 w9 w3.heap.size 37 1 A8 (ws.length + 1) c8 (us ++ [Value.slice A' (Hit.members b).length c']) ∧ Own0 w9 w3.heap.size 3 1 A' (Hit.members b).length c' (cellsV vN (Hit.members b)) := hF 9 (by decide) rfl
      have h48 : y 48 = .agg #[.int .i64 n, y 47] := hF 10 (by decide) rfl
      obtain ⟨qb, u0, u1, h7, hqb, hblk⟩ : ∃ qb u0 u1, y 7 = .pointer (some ⟨qb, 0, none⟩) ∧ w3.heap.size ≤ qb ∧ Blk w9 qb 30 #[u0, u1] := hF 11 (by decide) rfl
      rw [h47] at h48
      have e0 := hblk.cell 0
      have e1 := hblk.cell 1
      have f0 := hblk.frozen
      simp at e0 e1
      have hag : Below w3.heap.size w3 ((w9.setCell ⟨qb, 0, none⟩ (.int .i64 n)).setCell ⟨qb, 1, none⟩ (.slice A8 (ws.length + 1) c8)) := Bs (Bs hb9 _ hqb) _ hqb
      have hfin := (hblk.set_ 0 (.int .i64 n)).set_ 1 (.slice A8 (ws.length + 1) c8)
      have hO8' : Own0 ((w9.setCell ⟨qb, 0, none⟩ (.int .i64 n)).setCell ⟨qb, 1, none⟩ (.slice A8 (ws.length + 1) c8)) w3.heap.size 37 1 A8 (ws.length + 1) c8 (us ++ [Value.slice A3 (Hit.members b).length c3]) := (hO8.far hblk (by decide) 0 _).far (hblk.set_ 0 (.int .i64 n)) (by decide) 1 _
      have hO3' : Own0 ((w9.setCell ⟨qb, 0, none⟩ (.int .i64 n)).setCell ⟨qb, 1, none⟩ (.slice A8 (ws.length + 1) c8)) w3.heap.size 3 1 A3 (Hit.members b).length c3 (cellsV vN (Hit.members b)) := (hO3.far hblk (by decide) 0 _).far (hblk.set_ 0 (.int .i64 n)) (by decide) 1 _
      have hqs : qb < ((w9.setCell ⟨qb, 0, none⟩ (.int .i64 n)).setCell ⟨qb, 1, none⟩ (.slice A8 (ws.length + 1) c8)).heap.size := hfin.lt
      have hV : Vals (fun b => b < ((w9.setCell ⟨qb, 0, none⟩ (.int .i64 n)).setCell ⟨qb, 1, none⟩ (.slice A8 (ws.length + 1) c8)).heap.size) ((w9.setCell ⟨qb, 0, none⟩ (.int .i64 n)).setCell ⟨qb, 1, none⟩ (.slice A8 (ws.length + 1) c8)) (us ++ [Value.slice A3 (Hit.members b).length c3]) (setsOf (ws ++ [b])) := by
        have h1 := hv.keep (Agree.below hag fun _ h => h) (G := fun b => b < ((w9.setCell ⟨qb, 0, none⟩ (.int .i64 n)).setCell ⟨qb, 1, none⟩ (.slice A8 (ws.length + 1) c8)).heap.size) fun b h => Nat.lt_of_lt_of_le h hag.size
        have h2 : SlI (fun b => b < ((w9.setCell ⟨qb, 0, none⟩ (.int .i64 n)).setCell ⟨qb, 1, none⟩ (.slice A8 (ws.length + 1) c8)).heap.size) ((w9.setCell ⟨qb, 0, none⟩ (.int .i64 n)).setCell ⟨qb, 1, none⟩ (.slice A8 (ws.length + 1) c8)) (.slice A3 (Hit.members b).length c3) (Hit.ints (Hit.members b)) := hO3'.ints rfl (red_len _) fun b _ q => q
        have := h1.append (Vals.one h2)
        rwa [show setsOf ws ++ [Hit.ints (Hit.members b)] = setsOf (ws ++ [b]) by simp [setsOf]] at this
      have hS := hV.sl hO8' (by rw [setsOf_length]; simp) (by rw [setsOf_length]; simp; omega) fun b _ q => q
      have HFIN : Hid (GMade w3 n (ws ++ [b]) (.pointer (some ⟨qb, 0, none⟩)) ((w9.setCell ⟨qb, 0, none⟩ (.int .i64 n)).setCell ⟨qb, 1, none⟩ (.slice A8 (ws.length + 1) c8))) := Lib.hid ⟨qb, A8, c8, rfl, hqs, by rw [hfin.cell]; simp, by rw [hfin.cell]; simp, by rw [List.length_append]; exact hS, hag⟩
      clear hF hO8 hO3 hfin hO8' hO3' hV hS hag hqs hblk hv hrd hub
      simp only [after, List.take_succ_cons, List.take_zero, List.filterMap_cons, List.filterMap_nil, List.foldl_cons, List.foldl_nil]
      rw [h47, h48, h7]
      simp only [List.setIfInBounds_toArray, List.set_cons_succ, List.set_cons_zero]
      refine from_list 13 (by kernel_rfl) (by simp only [List.take_succ_cons, List.take_zero, List.drop_succ_cons, List.drop_zero]; exact rfl) ?_
      (intro Q' hQ' hX; clear hX)
      go_wp2_with fail
      refine from_end rfl ?_
      go_wp2_with fail
      go_meet
      exact HFIN.out
  case rest =>
    obtain ⟨qb, A9, c9, rfl, lq, q0, q1, hS9, hb9⟩ := hcut
    have hg2 := Hit.good_snoc HP3.out.good HBZ.out HB2L.out
    have hPw := HP3.out.on hb9
    have hQw : Prob n (.slice A9 (ws ++ [b]).length c9) (ws ++ [b]) wc.heap.size wc := ⟨hPw.le, hg2, by have := HPL.out; simp; omega, Nat.le_refl _, hS9, hPw.tab⟩
    have hTw := HT3.out.below hb9
    have lw : pb < wc.heap.size := Nat.lt_of_lt_of_le l3 hb9.size
    have p0 := (Bc hb9 l3).trans k0
    have p1 := (Bc hb9 l3).trans k1
    have k : ∀ W, Below wc.heap.size wc W → (W.cell? ⟨pb, 0, none⟩ = some (.int .i64 n) ∧ W.cell? ⟨pb, 1, none⟩ = some (.slice A2 ws.length c2)) ∧ W.cell? ⟨qb, 0, none⟩ = some (.int .i64 n) ∧ W.cell? ⟨qb, 1, none⟩ = some (.slice A9 (ws ++ [b]).length c9) := fun W hW =>
      ⟨⟨(Bc hW lw).trans p0, (Bc hW lw).trans p1⟩, (Bc hW lq).trans q0, (Bc hW lq).trans q1⟩
    have hLe := fun W (hW : Below wc.heap.size wc W) => (hPw.on hW).leastC
    have hLq := fun W (hW : Below wc.heap.size wc W) => (hQw.on hW).leastC
    have hCo := fun W (hW : Below wc.heap.size wc W) => (hPw.on hW).countC (hTw.below hW)
    have hCq := fun W (hW : Below wc.heap.size wc W) => (hQw.on hW).countC (hTw.below hW)
    have hwl : (Hit.allF ws n).1.length ≤ 256 := by
      rw [Hit.allF_len]
      have := Hit.irrL_le ws n (2 ^ n)
      omega
    have hAl : ∀ W, Below wc.heap.size wc W → Calls Tryd.prog 20 #[.agg #[.int .i64 n, .slice A2 ws.length c2], .int .i64 1000] W fun e w' => ∃ A c, e = .returned (.tuple #[.slice A (Hit.allF ws n).1.length c, .int .i64 0]) ∧ SlII (fun b => b < w'.heap.size) w' (.slice A (Hit.allF ws n).1.length c) (intsL (Hit.allF ws n).1) ∧ Below W.heap.size W w' := fun W hW =>
      (all_any n (hPw.on hW).le (.slice A2 ws.length c2) ws hPw.good hPw.len 1000 W (fun b => b < w3.heap.size) (hPw.on hW).inW (hPw.on hW).sets (hPw.on hW).tab).mono fun e w' ⟨hb, h⟩ => by
        rcases h with ⟨h1, _⟩ | ⟨⟨h1, h2, h3⟩, _⟩ | ⟨_, A, c, he, hs⟩
        · omega
        · omega
        · exact ⟨A, c, he, hs.wider fun b h => h.2, hb⟩
    have hle : Hit.pop (Hit.least ws n) ≤ Hit.pop (Hit.least (ws ++ [b]) n) := by
      obtain ⟨X, hX⟩ := Hit.least_spec hPw.good
      obtain ⟨Y, hY⟩ := Hit.least_spec hg2
      rw [(hPw.pop_len hX hPw.le).2, (hQw.pop_len hY hQw.le).2]
      exact Hit.least_snoc hX hY
    have hcle := Hit.count_snoc ws n b
    have hcl : ∀ vs, (Hit.allF vs n).2 ≤ 256 := fun vs => by
      rw [Hit.allF_count]
      have h3 : ((List.range (2 ^ n)).filter fun b => Hit.hit vs b).length ≤ 2 ^ n := Nat.le_trans (List.length_filter_le _ _) (by simp)
      omega
    have hCm := fun W (hW : Below wc.heap.size wc W) => compareR_any (Hit.allF (ws ++ [b]) n).2 (Hit.allF ws n).2 (by have := hcl (ws ++ [b]); omega) (by have := hcl ws; omega) W (hTw.below hW)
    have hcr : ((if ((Hit.allF (ws ++ [b]) n).2 : Int) - (Hit.allF ws n).2 = 0 then (0 : Int) else if ((Hit.allF (ws ++ [b]) n).2 : Int) - (Hit.allF ws n).2 < 0 then -1 else 1)) ≤ 0 := by
      split
      · omega
      · split <;> omega
    generalize (if ((Hit.allF (ws ++ [b]) n).2 : Int) - (Hit.allF ws n).2 = 0 then (0 : Int) else if ((Hit.allF (ws ++ [b]) n).2 : Int) - (Hit.allF ws n).2 < 0 then -1 else 1) = cr at *
    have hHi : ∀ W, Below wc.heap.size wc W → ∀ i (hi : i < (Hit.allF ws n).1.length) u, SlI (fun b => b < W.heap.size) W u (Hit.ints (Hit.allF ws n).1[i]) → Calls Tryd.prog 26 #[.agg #[.int .i64 n, .slice A2 ws.length c2], u] W fun e w' => e = .returned (.tuple #[.int .i64 0, .bool true, .int .i64 0]) ∧ Below W.heap.size W w' :=
      fun W hW i hi u hu => (hPw.on hW).hitsA (List.getElem_mem hi) u hu
    have hRe : ∀ W, Below wc.heap.size wc W → ∀ i (hi : i < (Hit.allF ws n).1.length) u, SlI (fun b => b < W.heap.size) W u (Hit.ints (Hit.allF ws n).1[i]) → Calls Tryd.prog 27 #[.agg #[.int .i64 n, .slice A2 ws.length c2], u] W fun e w' => ∃ u', e = .returned (.tuple #[u', .int .i64 0]) ∧ SlI (fun b => b < w'.heap.size) w' u' (Hit.ints (Hit.allF ws n).1[i]) ∧ Below W.heap.size W w' :=
      fun W hW i hi u hu => (hPw.on hW).reduceA (List.getElem_mem hi) u hu
    have hSm : ∀ W va vb (l : List Int), SlI (fun b => b < W.heap.size) W va l → SlI (fun b => b < W.heap.size) W vb l → Calls Tryd.prog 22 #[va, vb] W fun e w' => e = .returned (.bool true) ∧ Below W.heap.size W w' := fun W va vb l ha hb => by
      have := same_any va vb l l W _ _ (fun _ h => h) (fun _ h => h) ha hb
      rwa [decide_eq_true rfl] at this
    have hgl : ∀ i (hi : i < (intsL (Hit.allF ws n).1).length), (intsL (Hit.allF ws n).1)[i] = Hit.ints ((Hit.allF ws n).1[i]'(by simpa [intsL] using hi)) := fun i hi => by simp [intsL]
    have hil : (intsL (Hit.allF ws n).1).length = (Hit.allF ws n).1.length := by simp [intsL]
    rw [itoaI_nat] at hCo hCq
    obtain ⟨l1, hl1⟩ : ∃ l1, Hit.pop (Hit.least ws n) = l1 := ⟨_, rfl⟩
    obtain ⟨l2, hl2⟩ : ∃ l2, Hit.pop (Hit.least (ws ++ [b]) n) = l2 := ⟨_, rfl⟩
    rw [hl1] at hLe hle
    rw [hl2] at hLq hle
    have hlI : decide ((l2 : Int) < l1) = false := decide_eq_false (by omega)
    have hlN : decide (l2 < l1) = false := decide_eq_false (by omega)
    have hlP : ¬ (l2 < l1) := by omega
    obtain ⟨s1, hs1⟩ : ∃ s1, itoaI ((Hit.allF ws n).2 : Int) = s1 := ⟨_, rfl⟩
    obtain ⟨s2, hs2⟩ : ∃ s2, itoaI ((Hit.allF (ws ++ [b]) n).2 : Int) = s2 := ⟨_, rfl⟩
    rw [hs1] at hCo hCm
    rw [hs2] at hCq hCm
    have hcd : decide (0 < cr) = false := decide_eq_false (by omega)
    generalize (Hit.allF ws n).1 = L at hAl hHi hRe hgl hil hwl
    obtain ⟨lq2, hlq2⟩ : ∃ lq2, (ws ++ [b]).length = lq2 := ⟨_, rfl⟩
    rw [hlq2] at hLq hCq k q1
    have K := Lib.hid k
    have HLE := Lib.hid hLe
    have HLQ := Lib.hid hLq
    have HCO := Lib.hid hCo
    have HCQ := Lib.hid hCq
    have HAL := Lib.hid hAl
    have HCM := Lib.hid hCm
    have HHI := Lib.hid hHi
    have HRE := Lib.hid hRe
    have HSM := Lib.hid hSm
    have HGL := Lib.hid hgl
    have HIL := Lib.hid hil
    have HB9 := Lib.hid hb9
    have HWL := Lib.hid hwl
    clear hLe hLq hCo hCq hAl hCm hHi hRe hSm hgl hil hb9 k hcle hcl hle hl1 hl2 hs1 hs2 hPw hQw hTw hg2 hS9 hcr hlq2 hwl k0 k1
    go_wp2_with fail
    (with_reducible refine ((HLE.out _ (B0 wc)).mono ?_))
    rintro e w4 ⟨A4, c4, rfl, _, hb4⟩
    obtain ⟨⟨x0, x1⟩, y0, y1⟩ := K.out _ hb4
    have HB4 := Lib.hid hb4
    clear hb4 p0 p1 q0 q1
    go_wp2_with fail
    (with_reducible refine ((HLQ.out _ HB4.out).mono ?_))
    rintro e w5 ⟨A5, c5, rfl, _, hb5⟩
    obtain ⟨⟨p0, p1⟩, q0, q1⟩ := K.out _ (Bt HB4.out hb5)
    have HB5 := Lib.hid (Bt HB4.out hb5)
    clear hb5 x0 x1 y0 y1
    go_wp2_with fail
    (with_reducible refine ((HCO.out _ HB5.out).mono ?_))
    rintro e w6 ⟨rfl, hb6⟩
    obtain ⟨⟨x0, x1⟩, y0, y1⟩ := K.out _ (Bt HB5.out hb6)
    have HB6 := Lib.hid (Bt HB5.out hb6)
    clear hb6 p0 p1 q0 q1
    go_wp2_with fail
    (with_reducible refine ((HCQ.out _ HB6.out).mono ?_))
    rintro e w7 ⟨rfl, hb7⟩
    obtain ⟨⟨p0, p1⟩, q0, q1⟩ := K.out _ (Bt HB6.out hb7)
    have HB7 := Lib.hid (Bt HB6.out hb7)
    clear hb7 x0 x1 y0 y1
    go_wp2_with fail
    (with_reducible refine ((HAL.out _ HB7.out).mono ?_))
    rintro e w8 ⟨A8, c8, rfl, hs8, hb8⟩
    have HB8 := Lib.hid (Bt HB7.out hb8)
    have HS8 := Lib.hid hs8
    clear hb8 hs8 p0 p1 q0 q1
    go_wp2_with fail
    (with_reducible refine ((HCM.out _ HB8.out).mono ?_))
    rintro e wd ⟨rfl, hbd⟩
    have HBD := Lib.hid (Bt HB8.out hbd)
    have HSD := Lib.hid (SlII.on HS8.out hbd)
    clear hbd
    go_wp2_with fail
    go_loopg [18] L.length (fun gg s18 wr => ∃ k : Nat, k ≤ L.length ∧ L.length - k ≤ gg ∧ s18 = .int .i64 k ∧ Aside (Below wd.heap.size wd wr))
    case atStart => exact ⟨0, by omega, by omega, rfl, B0 wd⟩
    case round =>
      obtain ⟨k, hk, hg, rfl, HBk⟩ := hrel
      by_cases hlt : k < L.length
      · have hki : decide ((k : Int) < L.length) = true := decide_eq_true (by omega)
        have hk2 : (k : Int) < L.length := by omega
        have hSa := SlII.on HSD.out HBk.out
        obtain ⟨A8', c8', hv8, _, _, hat8⟩ := hSa.open
        injection hv8 with r1 r2 r3
        subst r1; subst r3
        obtain ⟨ad8, u8, hA8, hf8, hc8, hu8⟩ := hat8 k (by rw [HIL.out]; exact hlt)
        subst hA8
        rw [HGL.out] at hu8
        have hBr := Bt HBD.out HBk.out
        obtain ⟨⟨x0, x1⟩, _⟩ := K.out _ hBr
        have hcall := HHI.out wr.drew hBr.drew k hlt u8 hu8
        have HCALL := Lib.hid hcall
        have HU8 := Lib.hid hu8
        have HBR := Lib.hid hBr
        clear hat8 hSa hcall hu8 r2 hBr
        go_wp2_with fail
        go_region_held3 (fun w' => (w'.cell? ⟨pb, 0, none⟩ = some (.int .i64 n) ∧ w'.cell? ⟨pb, 1, none⟩ = some (.slice A2 ws.length c2)) ∧ w'.cell? (ad8.add k) = some u8) (first | exact ⟨⟨x0, x1⟩, hc8⟩ | exact ⟨⟨z0, z1⟩, j8⟩)
          ((go_at_call 26; (with_reducible refine (HCALL.out.mono ?_)); rintro e wx ⟨rfl, hbx⟩; have j8 := (hbx.cell (p := ad8.add k) (by rw [block_of_add]; exact hf8)).trans hc8; have HBX0 := Lib.hid hbx; have HBX := Lib.hid (Bt (B0 wr).drew hbx); obtain ⟨⟨z0, z1⟩, _⟩ := K.out _ (Bt HBR.out HBX.out); clear hbx))
        have hSb := SlI.on (w' := wx) (show SlI (fun b => b < wr.drew.heap.size) wr.drew u8 (Hit.ints L[k]) from HU8.out) HBX0.out
        have hcall2 := HRE.out wx.drew (Bt HBR.out HBX.out).drew k hlt u8 hSb
        have HCALL2 := Lib.hid hcall2
        have HSB := Lib.hid hSb
        have hf9 : ad8.block < wx.heap.size := Nat.lt_of_lt_of_le hf8 HBX.out.size
        clear hcall2 hSb
        go_wp2_with fail
        go_region_held3 (fun w' => (w'.cell? ⟨pb, 0, none⟩ = some (.int .i64 n) ∧ w'.cell? ⟨pb, 1, none⟩ = some (.slice A2 ws.length c2)) ∧ w'.cell? (ad8.add k) = some u8) (first | exact ⟨⟨z0, z1⟩, j8⟩ | exact ⟨⟨n0, n1⟩, j9⟩)
          ((go_at_call 27; (with_reducible refine (HCALL2.out.mono ?_)); rintro e wy ⟨u9, rfl, hu9, hby⟩; have j9 := (hby.cell (p := ad8.add k) (by rw [block_of_add]; exact hf9)).trans j8; have HBY := Lib.hid (Bt HBX.out (Bt (B0 wx).drew hby)); obtain ⟨⟨n0, n1⟩, _⟩ := K.out _ (Bt HBR.out HBY.out); have HSC := Lib.hid (SlI.on (show SlI (fun b => b < wx.drew.heap.size) wx.drew u8 (Hit.ints L[k]) from HSB.out) hby); have HU9 := Lib.hid hu9; clear hby hu9))
        go_wp2_with (go_at_call 22; (with_reducible refine ((HSM.out _ _ _ _ HU9.out HSC.out).mono ?_)); rintro e wz ⟨rfl, hbz⟩; have HBZ2 := Lib.hid (Bt HBY.out hbz); clear hbz)
        have hwl := HWL.out
        go_roundg (L.length - (k + 1))
        case measure => omega
        case rel => exact ⟨k + 1, by omega, by omega, by rw [IntWalk.wrap64_in _ (by omega)]; rfl, Bt HBk.out HBZ2.out⟩
      · have hki : decide ((k : Int) < L.length) = false := decide_eq_false (by omega)
        go_wp2_with fail
        go_ret
        exact ⟨rfl, Bt HB3.out (Bt HB9.out (Bt HBD.out HBk.out))⟩
end Go.Proofs.YthgjhfapnilfhaaDoor
