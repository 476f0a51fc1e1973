/- Walk: checker's Reason at a sound that is not right (its drawn region printed by mkre.py). -/
import Derived.Test.YtnfpjcjlapljjaaGreatDoorDr
namespace Go.Proofs.YtnfpjcjlapljjaaGreatDoor
open Go Go.RowKit Go.Shelf
open Org
theorem aft29 {l : List Oper} {a0 : Act} {y : Nat → Value} {d0 d1 d2 d3 d4 d5 d6 d7 d8 d9 d10 d11 d12 d13 d14 d15 d16 d17 d18 d19 d20 d21 d22 d23 d24 d25 d26 d27 d28 : Nat} {L : List Value} {df} (h : l.filterMap (·.dst) = [d0, d1, d2, d3, d4, d5, d6, d7, d8, d9, d10, d11, d12, d13, d14, d15, d16, d17, d18, d19, d20, d21, d22, d23, d24, d25, d26, d27, d28]) (e : a0 = ⟨L.toArray, df⟩) : after l a0 y = ⟨(((((((((((((((((((((((((((((L.set d0 (y d0)).set d1 (y d1)).set d2 (y d2)).set d3 (y d3)).set d4 (y d4)).set d5 (y d5)).set d6 (y d6)).set d7 (y d7)).set d8 (y d8)).set d9 (y d9)).set d10 (y d10)).set d11 (y d11)).set d12 (y d12)).set d13 (y d13)).set d14 (y d14)).set d15 (y d15)).set d16 (y d16)).set d17 (y d17)).set d18 (y d18)).set d19 (y d19)).set d20 (y d20)).set d21 (y d21)).set d22 (y d22)).set d23 (y d23)).set d24 (y d24)).set d25 (y d25)).set d26 (y d26)).set d27 (y d27)).set d28 (y d28)).toArray, df⟩ := by
  subst e
  unfold after; rw [h]; simp only [List.foldl_cons, List.foldl_nil, List.setIfInBounds_toArray]
/-- What holds behind each operation of a drawn region. -/
def FE1 (b : Nat) (on : ByteArray) (Ar Ad Ac As Ak : Option Addr) (nr cr nd cd nc cc ns c4 nk ck cp of : Nat) (rank num : Int) (j : Nat) (s : Nat → Value) (_w : World) : Prop :=
  match j with
  | 0 => s 11 = .agg #[.string on, .slice Ar nr cr, .slice Ad nd cd, .slice Ac nc cc, .slice As ns c4, .int .u64 (cp : Int), .int .u64 (of : Int), .slice Ak nk ck, .int .i64 rank, .int .i64 num]
  | 1 => s 12 = .bool false
  | 2 => s 13 = .bool true
  | 3 => s 14 = .bool true
  | 4 => True
  | 5 => True
  | 6 => True
  | 7 => True
  | 8 => True
  | 9 => True
  | 10 => True
  | 11 => True
  | 12 => True
  | 13 => True
  | 14 => s 25 = .bool true
  | 15 => s 26 = .bool true
  | 16 => True
  | 17 => True
  | 18 => True
  | 19 => True
  | 20 => True
  | 21 => True
  | 22 => True
  | 23 => True
  | 24 => True
  | 25 => True
  | 26 => True
  | 27 => True
  | 28 => s 39 = .bool true
  | _ => True
def VE1 (j : Nat) : List Nat := match j with
  | 0 => [11] | 1 => [12] | 2 => [13] | 3 => [14] | 4 => [15] | 5 => [16] | 6 => [17] | 7 => [18] | 8 => [19] | 9 => [20] | 10 => [21] | 11 => [22] | 12 => [23] | 13 => [24] | 14 => [25] | 15 => [26] | 16 => [27] | 17 => [28] | 18 => [29] | 19 => [30] | 20 => [31] | 21 => [32] | 22 => [33] | 23 => [34] | 24 => [35] | 25 => [36] | 26 => [37] | 27 => [38] | 28 => [39] | _ => []
def EE1 (j : Nat) : Bool := j == 28
theorem FE1_V (b : Nat) (on : ByteArray) (Ar Ad Ac As Ak : Option Addr) (nr cr nd cd nc cc ns c4 nk ck cp of : Nat) (rank num : Int) (j : Nat) (s s' : Nat → Value) (w : World) (h : ∀ t, t ∈ VE1 j → s' t = s t) (hF : FE1 b on Ar Ad Ac As Ak nr cr nd cd nc cc ns c4 nk ck cp of rank num j s w) : FE1 b on Ar Ad Ac As Ak nr cr nd cd nc cc ns c4 nk ck cp of rank num j s' w := by
  match j with
  | 0 => unfold FE1 at hF ⊢; simp only at hF ⊢; rw [h 11 (by simp [VE1])]; exact hF
  | 1 => unfold FE1 at hF ⊢; simp only at hF ⊢; rw [h 12 (by simp [VE1])]; exact hF
  | 2 => unfold FE1 at hF ⊢; simp only at hF ⊢; rw [h 13 (by simp [VE1])]; exact hF
  | 3 => unfold FE1 at hF ⊢; simp only at hF ⊢; rw [h 14 (by simp [VE1])]; exact hF
  | 4 => exact hF
  | 5 => exact hF
  | 6 => exact hF
  | 7 => exact hF
  | 8 => exact hF
  | 9 => exact hF
  | 10 => exact hF
  | 11 => exact hF
  | 12 => exact hF
  | 13 => exact hF
  | 14 => unfold FE1 at hF ⊢; simp only at hF ⊢; rw [h 25 (by simp [VE1])]; exact hF
  | 15 => unfold FE1 at hF ⊢; simp only at hF ⊢; rw [h 26 (by simp [VE1])]; exact hF
  | 16 => exact hF
  | 17 => exact hF
  | 18 => exact hF
  | 19 => exact hF
  | 20 => exact hF
  | 21 => exact hF
  | 22 => exact hF
  | 23 => exact hF
  | 24 => exact hF
  | 25 => exact hF
  | 26 => exact hF
  | 27 => exact hF
  | 28 => unfold FE1 at hF ⊢; simp only at hF ⊢; rw [h 39 (by simp [VE1])]; exact hF
  | _ + 29 => trivial
theorem FE1_below (b : Nat) (on : ByteArray) (Ar Ad Ac As Ak : Option Addr) (nr cr nd cd nc cc ns c4 nk ck cp of : Nat) (rank num : Int) (j : Nat) (s : Nat → Value) (w w' : World) (_hb : Below w.heap.size w w') (hF : FE1 b on Ar Ad Ac As Ak nr cr nd cd nc cc ns c4 nk ck cp of rank num j s w) : FE1 b on Ar Ad Ac As Ak nr cr nd cd nc cc ns c4 nk ck cp of rank num j s w' := by
  match j with
  | 0 => exact hF
  | 1 => exact hF
  | 2 => exact hF
  | 3 => exact hF
  | 4 => exact hF
  | 5 => exact hF
  | 6 => exact hF
  | 7 => exact hF
  | 8 => exact hF
  | 9 => exact hF
  | 10 => exact hF
  | 11 => exact hF
  | 12 => exact hF
  | 13 => exact hF
  | 14 => exact hF
  | 15 => exact hF
  | 16 => exact hF
  | 17 => exact hF
  | 18 => exact hF
  | 19 => exact hF
  | 20 => exact hF
  | 21 => exact hF
  | 22 => exact hF
  | 23 => exact hF
  | 24 => exact hF
  | 25 => exact hF
  | 26 => exact hF
  | 27 => exact hF
  | 28 => exact hF
  | _ + 29 => trivial
set_option maxRecDepth 100000 in
set_option maxHeartbeats 2000000 in
theorem reason_not (s : Snd) (hn : s.Num) (hr : rightF s = false) (cs : List Value) (w : World) (F : Nat → Prop) (hF : ∀ c, F c → c < w.heap.size) (hC : SndC F w cs s) :
    Calls Tryz.prog 12 #[.agg cs.toArray, .agg #[.int .i64 0, .int .i64 0, .slice none 0 0, .int .i64 0, .int .i64 0, .int .i64 0]] w fun e w' => e = .returned (.bool false) ∧ Below w.heap.size w w' := by
  obtain ⟨Ar, Ad, Ac, As, Ak, nr, cr, nd, cd, nc, cc, ns, c4, nk, ck, rfl⟩ := snd_open hC
  obtain ⟨⟨on, ors, ods, ocs⟩, ⟨rst, cp, of⟩, kys, rank, num⟩ := s
  dsimp only at hC ⊢
  have hR := fun W (hb : Below w.heap.size w W) => right_any _ hn _ W F (fun c hc => Nat.lt_of_lt_of_le (hF c hc) hb.size) (relSnd.keep hC (Agree.below hb hF))
  rw [hr] at hR
  obtain ⟨w1, hw1⟩ : ∃ w1 : World, (w.alloc (.cells #[.string on, .slice Ar nr cr, .slice Ad nd cd, .slice Ac nc cc, .slice As ns c4, .int .u64 (cp : Int), .int .u64 (of : Int), .slice Ak nk ck, .int .i64 rank, .int .i64 num] 50)).alloc (.cells #[.int .i64 0, .int .i64 0, .slice none 0 0, .int .i64 0, .int .i64 0, .int .i64 0] 61) = w1 := ⟨_, rfl⟩
  obtain ⟨b, hb⟩ : ∃ b, w.heap.size = b := ⟨_, rfl⟩
  have C1 : Blk w1 b 50 #[.string on, .slice Ar nr cr, .slice Ad nd cd, .slice Ac nc cc, .slice As ns c4, .int .u64 (cp : Int), .int .u64 (of : Int), .slice Ak nk ck, .int .i64 rank, .int .i64 num] := by rw [← hw1, ← hb]; exact (Blk.new _ _ _).alloc _
  have HB1 : Hid (Below w.heap.size w w1) := Lib.hid (by rw [← hw1]; exact Ba (Ba (B0 w) _) _)
  have HS := Lib.hid (fun W (hb : Below w1.heap.size w1 W) => (show (W.cell? ⟨b, 0, none⟩ = some (.string on) ∧ W.cell? ⟨b, 1, none⟩ = some (.slice Ar nr cr) ∧ W.cell? ⟨b, 2, none⟩ = some (.slice Ad nd cd) ∧ W.cell? ⟨b, 3, none⟩ = some (.slice Ac nc cc)) ∧ (W.cell? ⟨b, 4, none⟩ = some (.slice As ns c4) ∧ W.cell? ⟨b, 5, none⟩ = some (.int .u64 (cp : Int)) ∧ W.cell? ⟨b, 6, none⟩ = some (.int .u64 (of : Int))) ∧ W.cell? ⟨b, 7, none⟩ = some (.slice Ak nk ck) ∧ W.cell? ⟨b, 8, none⟩ = some (.int .i64 rank) ∧ W.cell? ⟨b, 9, none⟩ = some (.int .i64 num) from by
    have h := C1.below hb C1.lt
    exact ⟨⟨h.cell 0, h.cell 1, h.cell 2, h.cell 3⟩, ⟨h.cell 4, h.cell 5, h.cell 6⟩, h.cell 7, h.cell 8, h.cell 9⟩))
  have HR := Lib.hid (fun W (hb : Below w1.heap.size w1 W) => hR W (Bt HB1.out hb))
  have HW1 := Lib.hid hw1
  have HBB := Lib.hid hb
  have hBB : ∀ (L : Nat → Bool) (i : Nat) (w w' : World), Below w.heap.size w w' → Below w1.heap.size w1 w → Below w1.heap.size w1 w' := fun _ _ _ _ h1 h2 => Bt h2 h1
  clear hC hr hR hw1 hb C1 hn
  go_enter Tryz.func12, Tryz.ntmps12
  go_upto_region 1 with fail
  rw [HW1.out, HBB.out]
  refine region_blocks (by kernel_rfl) ?_
  refine from_lawW 29 EE1 (fun _ W => Below w1.heap.size w1 W) (FE1 b on Ar Ad Ac As Ak nr cr nd cd nc cc ns c4 nk ck cp of rank num) VE1 (by kernel_rfl) rfl (FE1_V _ _ _ _ _ _ _ _ _ _ _ _ _ _ _ _ _ _ _ _ _) (by kernel_rfl) (by kernel_rfl) ((B0 w1).drew) ⟨?_, ?_, ?_, ?_, ?_, ?_, ?_, ?_, ?_, ?_, ?_, ?_, ?_, ?_, ?_, ?_, ?_, ?_, ?_, ?_, ?_, ?_, ?_, ?_, ?_, ?_, ?_, ?_, ?_, trivial⟩ ?_
  · refine OpFactW.value rfl (FE1_below _ _ _ _ _ _ _ _ _ _ _ _ _ _ _ _ _ _ _ _ _) hBB fun L a w2 hl hf D hb => ?_
    have h0 : sl a 2 = .pointer (some ⟨b, 0, none⟩) := hf 2 (by kernel_rfl)
    have es := HS.out w2 hb
    refine ⟨.agg #[.string on, .slice Ar nr cr, .slice Ad nd cd, .slice Ac nc cc, .slice As ns c4, .int .u64 (cp : Int), .int .u64 (of : Int), .slice Ak nk ck, .int .i64 rank, .int .i64 num], w2, ?_, B0 _, fun s _ h => h 11 rfl⟩
    unfold sl at h0
    simp at h0
    simp [go_sem, h0, es]
  · refine OpFactW.call rfl (FE1_below _ _ _ _ _ _ _ _ _ _ _ _ _ _ _ _ _ _ _ _ _) hBB fun L a w2 hl hf D hb => ?_
    have h11 : sl a 11 = .agg #[.string on, .slice Ar nr cr, .slice Ad nd cd, .slice Ac nc cc, .slice As ns c4, .int .u64 (cp : Int), .int .u64 (of : Int), .slice Ak nk ck, .int .i64 rank, .int .i64 num] := D 0 (by kernel_rfl)
    refine ⟨10, #[.agg #[.string on, .slice Ar nr cr, .slice Ad nd cd, .slice Ac nc cc, .slice As ns c4, .int .u64 (cp : Int), .int .u64 (of : Int), .slice Ak nk ck, .int .i64 rank, .int .i64 num]], ?_, (HR.out w2 hb).mono ?_⟩
    · unfold sl at h11
      simp at h11
      simp [go_sem, h11]
    · rintro e w' ⟨rfl, hb3⟩
      exact ⟨_, rfl, hb3, fun s _ h => h 12 rfl⟩
  · refine OpFactW.value rfl (FE1_below _ _ _ _ _ _ _ _ _ _ _ _ _ _ _ _ _ _ _ _ _) hBB fun L a w2 hl hf D hb => ?_
    have h11 : sl a 12 = .bool false := D 1 (by kernel_rfl)
    refine ⟨.bool true, w2, ?_, B0 _, fun s _ h => h 13 rfl⟩
    unfold sl at h11
    simp at h11
    simp [go_sem, h11]
  · refine OpFactW.value rfl (FE1_below _ _ _ _ _ _ _ _ _ _ _ _ _ _ _ _ _ _ _ _ _) hBB fun L a w2 hl hf D hb => ?_
    have h11 : sl a 13 = .bool true := D 2 (by kernel_rfl)
    refine ⟨.bool true, w2, ?_, B0 _, fun s _ h => h 14 rfl⟩
    unfold sl at h11
    simp at h11
    simp [go_sem, h11]
  · refine OpFactW.off (g := 3) (d := 14) (c := true) rfl rfl (by simp) (by decide) (fun _ _ _ h => h) (fun s w h => h) (by kernel_rfl) (fun s w => trivial)
  · refine OpFactW.off (g := 3) (d := 14) (c := true) rfl rfl (by simp) (by decide) (fun _ _ _ h => h) (fun s w h => h) (by kernel_rfl) (fun s w => trivial)
  · refine OpFactW.off (g := 3) (d := 14) (c := true) rfl rfl (by simp) (by decide) (fun _ _ _ h => h) (fun s w h => h) (by kernel_rfl) (fun s w => trivial)
  · refine OpFactW.off (g := 3) (d := 14) (c := true) rfl rfl (by simp) (by decide) (fun _ _ _ h => h) (fun s w h => h) (by kernel_rfl) (fun s w => trivial)
  · refine OpFactW.off (g := 3) (d := 14) (c := true) rfl rfl (by simp) (by decide) (fun _ _ _ h => h) (fun s w h => h) (by kernel_rfl) (fun s w => trivial)
  · refine OpFactW.off (g := 3) (d := 14) (c := true) rfl rfl (by simp) (by decide) (fun _ _ _ h => h) (fun s w h => h) (by kernel_rfl) (fun s w => trivial)
  · refine OpFactW.off (g := 3) (d := 14) (c := true) rfl rfl (by simp) (by decide) (fun _ _ _ h => h) (fun s w h => h) (by kernel_rfl) (fun s w => trivial)
  · refine OpFactW.off (g := 3) (d := 14) (c := true) rfl rfl (by simp) (by decide) (fun _ _ _ h => h) (fun s w h => h) (by kernel_rfl) (fun s w => trivial)
  · refine OpFactW.off (g := 3) (d := 14) (c := true) rfl rfl (by simp) (by decide) (fun _ _ _ h => h) (fun s w h => h) (by kernel_rfl) (fun s w => trivial)
  · refine OpFactW.off (g := 3) (d := 14) (c := true) rfl rfl (by simp) (by decide) (fun _ _ _ h => h) (fun s w h => h) (by kernel_rfl) (fun s w => trivial)
  · refine OpFactW.value rfl (FE1_below _ _ _ _ _ _ _ _ _ _ _ _ _ _ _ _ _ _ _ _ _) hBB fun L a w2 hl hf D hb => ?_
    have h11 : sl a 14 = .bool true := D 3 (by kernel_rfl)
    refine ⟨.bool true, w2, ?_, B0 _, fun s _ h => h 25 rfl⟩
    unfold sl at h11
    simp at h11
    simp [go_sem, h11]
  · refine OpFactW.value rfl (FE1_below _ _ _ _ _ _ _ _ _ _ _ _ _ _ _ _ _ _ _ _ _) hBB fun L a w2 hl hf D hb => ?_
    have h11 : sl a 25 = .bool true := D 14 (by kernel_rfl)
    refine ⟨.bool true, w2, ?_, B0 _, fun s _ h => h 26 rfl⟩
    unfold sl at h11
    simp at h11
    simp [go_sem, h11]
  · refine OpFactW.off (g := 15) (d := 26) (c := true) rfl rfl (by simp) (by decide) (fun _ _ _ h => h) (fun s w h => h) (by kernel_rfl) (fun s w => trivial)
  · refine OpFactW.off (g := 15) (d := 26) (c := true) rfl rfl (by simp) (by decide) (fun _ _ _ h => h) (fun s w h => h) (by kernel_rfl) (fun s w => trivial)
  · refine OpFactW.off (g := 15) (d := 26) (c := true) rfl rfl (by simp) (by decide) (fun _ _ _ h => h) (fun s w h => h) (by kernel_rfl) (fun s w => trivial)
  · refine OpFactW.off (g := 15) (d := 26) (c := true) rfl rfl (by simp) (by decide) (fun _ _ _ h => h) (fun s w h => h) (by kernel_rfl) (fun s w => trivial)
  · refine OpFactW.off (g := 15) (d := 26) (c := true) rfl rfl (by simp) (by decide) (fun _ _ _ h => h) (fun s w h => h) (by kernel_rfl) (fun s w => trivial)
  · refine OpFactW.off (g := 15) (d := 26) (c := true) rfl rfl (by simp) (by decide) (fun _ _ _ h => h) (fun s w h => h) (by kernel_rfl) (fun s w => trivial)
  · refine OpFactW.off (g := 15) (d := 26) (c := true) rfl rfl (by simp) (by decide) (fun _ _ _ h => h) (fun s w h => h) (by kernel_rfl) (fun s w => trivial)
  · refine OpFactW.off (g := 15) (d := 26) (c := true) rfl rfl (by simp) (by decide) (fun _ _ _ h => h) (fun s w h => h) (by kernel_rfl) (fun s w => trivial)
  · refine OpFactW.off (g := 15) (d := 26) (c := true) rfl rfl (by simp) (by decide) (fun _ _ _ h => h) (fun s w h => h) (by kernel_rfl) (fun s w => trivial)
  · refine OpFactW.off (g := 15) (d := 26) (c := true) rfl rfl (by simp) (by decide) (fun _ _ _ h => h) (fun s w h => h) (by kernel_rfl) (fun s w => trivial)
  · refine OpFactW.off (g := 15) (d := 26) (c := true) rfl rfl (by simp) (by decide) (fun _ _ _ h => h) (fun s w h => h) (by kernel_rfl) (fun s w => trivial)
  · refine OpFactW.off (g := 15) (d := 26) (c := true) rfl rfl (by simp) (by decide) (fun _ _ _ h => h) (fun s w h => h) (by kernel_rfl) (fun s w => trivial)
  · refine OpFactW.value rfl (FE1_below _ _ _ _ _ _ _ _ _ _ _ _ _ _ _ _ _ _ _ _ _) hBB fun L a w2 hl hf D hb => ?_
    have h11 : sl a 26 = .bool true := D 15 (by kernel_rfl)
    refine ⟨.bool true, w2, ?_, B0 _, fun s _ h => h 39 rfl⟩
    unfold sl at h11
    simp at h11
    simp [go_sem, h11]
  intro L9 y9 w9 hb9 hF9
  have e39 := hF9 28 (by decide) rfl
  simp only [FE1] at e39
  have HB9 := Lib.hid (show Below w1.heap.size w1 w9 from hb9)
  clear hF9 hb9
  rw [aft29 (d0 := 11) (d1 := 12) (d2 := 13) (d3 := 14) (d4 := 15) (d5 := 16) (d6 := 17) (d7 := 18) (d8 := 19) (d9 := 20) (d10 := 21) (d11 := 22) (d12 := 23) (d13 := 24) (d14 := 25) (d15 := 26) (d16 := 27) (d17 := 28) (d18 := 29) (d19 := 30) (d20 := 31) (d21 := 32) (d22 := 33) (d23 := 34) (d24 := 35) (d25 := 36) (d26 := 37) (d27 := 38) (d28 := 39) (by kernel_rfl) rfl]
  rw [e39]
  simp only [List.set_cons_succ, List.set_cons_zero]
  refine from_end rfl ?_
  go_wp2_with fail
  go_ret
  exact ⟨rfl, Bt HB1.out HB9.out⟩
end Go.Proofs.YtnfpjcjlapljjaaGreatDoor
