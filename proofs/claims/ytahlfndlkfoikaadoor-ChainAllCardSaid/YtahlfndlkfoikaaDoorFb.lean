/- Walks over chain: Compare. -/
import Derived.Test.YtahlfndlkfoikaaDoorQ1
namespace Go.Proofs.YtahlfndlkfoikaaDoor
open Go Go.RowKit Go.Shelf
/-- What holds behind each operation of a drawn region. -/
def FO (bA bB n m : Nat) (A1 A2 : Option Addr) (c1 c2 : Nat) (r1 r2 : Int) (j : Nat) (s : Nat → Value) (w : World) : Prop :=
  match j with
  | 0 => s 5 = .pointer (some ⟨bA, 0, none⟩)
  | 1 => s 6 = .slice A1 n c1
  | 2 => s 7 = .int .i64 n
  | 3 => s 8 = .pointer (some ⟨bB, 0, none⟩)
  | 4 => s 9 = .slice A2 m c2
  | 5 => s 10 = .int .i64 m
  | 6 => s 11 = .int .i64 r1
  | 7 => s 12 = .pointer (some ⟨bA, 0, none⟩)
  | 8 => s 13 = .slice A1 n c1
  | 9 => s 14 = .pointer (some ⟨bB, 0, none⟩)
  | 10 => s 15 = .slice A2 m c2
  | 11 => s 16 = .int .i64 r2
  | 12 => ∃ g, s 17 = .slice (some ⟨g, 0, none⟩) 2 2 ∧ Blk w g 3 #[.int .i64 r1, .int .i64 r2]
  | 13 => s 18 = .int .i64 (Cou.orI r1 r2)
  | 14 => s 4 = .int .i64 (Cou.orI r1 r2)
  | _ => True
def VO (j : Nat) : List Nat := match j with
  | 0 => [5] | 1 => [6] | 2 => [7] | 3 => [8] | 4 => [9] | 5 => [10] | 6 => [11] | 7 => [12] | 8 => [13] | 9 => [14] | 10 => [15] | 11 => [16] | 12 => [17] | 13 => [18] | 14 => [4] | _ => []
def EO (j : Nat) : Bool := j == 14
theorem FO_V (bA bB n m : Nat) (A1 A2 : Option Addr) (c1 c2 : Nat) (r1 r2 : Int) (j : Nat) (s s' : Nat → Value) (w : World) (h : ∀ t, t ∈ VO j → s' t = s t) (hF : FO bA bB n m A1 A2 c1 c2 r1 r2 j s w) : FO bA bB n m A1 A2 c1 c2 r1 r2 j s' w := by
  match j with
  | 0 => unfold FO at hF ⊢; simp only at hF ⊢; rw [h 5 (by simp [VO])]; exact hF
  | 1 => unfold FO at hF ⊢; simp only at hF ⊢; rw [h 6 (by simp [VO])]; exact hF
  | 2 => unfold FO at hF ⊢; simp only at hF ⊢; rw [h 7 (by simp [VO])]; exact hF
  | 3 => unfold FO at hF ⊢; simp only at hF ⊢; rw [h 8 (by simp [VO])]; exact hF
  | 4 => unfold FO at hF ⊢; simp only at hF ⊢; rw [h 9 (by simp [VO])]; exact hF
  | 5 => unfold FO at hF ⊢; simp only at hF ⊢; rw [h 10 (by simp [VO])]; exact hF
  | 6 => unfold FO at hF ⊢; simp only at hF ⊢; rw [h 11 (by simp [VO])]; exact hF
  | 7 => unfold FO at hF ⊢; simp only at hF ⊢; rw [h 12 (by simp [VO])]; exact hF
  | 8 => unfold FO at hF ⊢; simp only at hF ⊢; rw [h 13 (by simp [VO])]; exact hF
  | 9 => unfold FO at hF ⊢; simp only at hF ⊢; rw [h 14 (by simp [VO])]; exact hF
  | 10 => unfold FO at hF ⊢; simp only at hF ⊢; rw [h 15 (by simp [VO])]; exact hF
  | 11 => unfold FO at hF ⊢; simp only at hF ⊢; rw [h 16 (by simp [VO])]; exact hF
  | 12 => unfold FO at hF ⊢; simp only at hF ⊢; rw [h 17 (by simp [VO])]; exact hF
  | 13 => unfold FO at hF ⊢; simp only at hF ⊢; rw [h 18 (by simp [VO])]; exact hF
  | 14 => unfold FO at hF ⊢; simp only at hF ⊢; rw [h 4 (by simp [VO])]; exact hF
  | _ + 15 => trivial
theorem FO_below (bA bB n m : Nat) (A1 A2 : Option Addr) (c1 c2 : Nat) (r1 r2 : Int) (j : Nat) (s : Nat → Value) (w w' : World) (hb : Below w.heap.size w w') (hF : FO bA bB n m A1 A2 c1 c2 r1 r2 j s w) : FO bA bB n m A1 A2 c1 c2 r1 r2 j s w' := by
  match j with
  | 0 => exact hF
  | 1 => exact hF
  | 2 => exact hF
  | 3 => exact hF
  | 4 => exact hF
  | 5 => exact hF
  | 6 => exact hF
  | 7 => exact hF
  | 8 => exact hF
  | 9 => exact hF
  | 10 => exact hF
  | 11 => exact hF
  | 12 => obtain ⟨g, q1, q2⟩ := hF; exact ⟨g, q1, q2.below hb q2.lt⟩
  | 13 => exact hF
  | 14 => exact hF
  | _ + 15 => trivial
set_option maxRecDepth 100000 in
set_option maxHeartbeats 2000000 in
theorem Compare_any (v v' : Value) (x y : Int × Int) (l m : List Int) (w : World) (F : Nat → Prop) (hF : ∀ b, F b → b < w.heap.size) (h : SlI F w v l) (h' : SlI F w v' m) :
    Calls Tryd.prog 23 #[.agg #[v, .int .i64 x.1, .int .i64 x.2], .agg #[v', .int .i64 y.1, .int .i64 y.2]] w fun e w' => e = .returned (.int .i64 (Cha.cmpF l m)) ∧ Below w.heap.size w w' := by
  obtain ⟨A1, c1, rfl, -, -, -⟩ := id h.open
  obtain ⟨A2, c2, rfl, -, -, -⟩ := id h'.open
  obtain ⟨w1, hw1⟩ : ∃ w1 : World, (w.alloc (.cells #[.slice A1 l.length c1, .int .i64 x.1, .int .i64 x.2] 56)).alloc (.cells #[.slice A2 m.length c2, .int .i64 y.1, .int .i64 y.2] 56) = w1 := ⟨_, rfl⟩
  obtain ⟨bA, hbA⟩ : ∃ bA, w.heap.size = bA := ⟨_, rfl⟩
  obtain ⟨bB, hbB⟩ : ∃ bB, bA + 1 = bB := ⟨_, rfl⟩
  have c3 : w1.cell? ⟨bA, 0, none⟩ = some (.slice A1 l.length c1) := by rw [← hw1, ← hbA]; simp [go_sem]
  have c4 : w1.cell? ⟨bB, 0, none⟩ = some (.slice A2 m.length c2) := by rw [← hw1, ← hbB, ← hbA]; simp [go_sem]
  have l1 : bB < w1.heap.size := by rw [← hw1, ← hbB, ← hbA]; simp
  have B1 : Below w.heap.size w w1 := by rw [← hw1]; exact Ba (Ba (B0 w) _) _
  have HC1 := Lib.hid (fun W => compare_any (l.length : Int) (m.length : Int) W)
  have HC2 := Lib.hid (fun W (hb : Below w1.heap.size w1 W) => slcmp_any _ _ l m W F (SlI.keep h (Agree.below (Bt B1 hb) hF)) (SlI.keep h' (Agree.below (Bt B1 hb) hF)))
  have HZ : Hid (Cha.cmpF l m = Cou.orI (Cou.cmpI l.length m.length) (Cha.slC l m)) := Lib.hid rfl
  have HS := Lib.hid (fun W (hb : Below w1.heap.size w1 W) => (show W.cell? ⟨bA, 0, none⟩ = some (.slice A1 l.length c1) ∧ W.cell? ⟨bB, 0, none⟩ = some (.slice A2 m.length c2) from ⟨(Bc hb (by omega)).trans c3, (Bc hb l1).trans c4⟩))
  obtain ⟨r1, hr1⟩ : ∃ r, Cou.cmpI (l.length : Int) (m.length : Int) = r := ⟨_, rfl⟩
  obtain ⟨r2, hr2⟩ : ∃ r, Cha.slC l m = r := ⟨_, rfl⟩
  rw [hr1] at HC1 HZ
  rw [hr2] at HC2 HZ
  obtain ⟨n, hn⟩ : ∃ n, l.length = n := ⟨_, rfl⟩
  obtain ⟨k, hk⟩ : ∃ n, m.length = n := ⟨_, rfl⟩
  rw [hn, hk] at HC1 HC2 HS hw1 ⊢
  have HB1 := Lib.hid B1
  have HW1 := Lib.hid hw1
  have HBA := Lib.hid hbA
  have HBB := Lib.hid hbB
  clear h h' B1 hw1 hbA hbB c3 c4 l1 hr1 hr2 hn hk
  have hBB : ∀ (L : Nat → Bool) (i : Nat) (W W' : World), Below W.heap.size W W' → Below w1.heap.size w1 W → Below w1.heap.size w1 W' := fun _ _ _ _ hb h => Bt h hb
  go_enter Tryd.func23, Tryd.ntmps23
  go_upto_region 1 with fail
  rw [HW1.out, HBA.out, HBB.out]
  refine region_blocks (by kernel_rfl) ?_
  refine from_lawW 15 EO (fun _ W => Below w1.heap.size w1 W) (FO bA bB n k A1 A2 c1 c2 r1 r2) VO (by kernel_rfl) rfl (FO_V _ _ _ _ _ _ _ _ _ _) (by kernel_rfl) (by kernel_rfl) ((B0 w1).drew) ⟨?_, ?_, ?_, ?_, ?_, ?_, ?_, ?_, ?_, ?_, ?_, ?_, ?_, ?_, ?_, trivial⟩ ?_
  · refine OpFactW.value rfl (FO_below _ _ _ _ _ _ _ _ _ _) hBB fun L a wx hl hf D hb => ?_
    have h0 : sl a 2 = .pointer (some ⟨bA, 0, none⟩) := hf 2 (by kernel_rfl)
    refine ⟨.pointer (some ⟨bA, 0, none⟩), wx, ?_, B0 _, fun s _ h => h 5 rfl⟩
    unfold sl at h0
    simp at h0
    simp [go_sem, h0]
  · refine OpFactW.value rfl (FO_below _ _ _ _ _ _ _ _ _ _) hBB fun L a wx hl hf D hb => ?_
    have h0 : sl a 5 = .pointer (some ⟨bA, 0, none⟩) := D 0 (by kernel_rfl)
    have es := HS.out wx hb
    refine ⟨.slice A1 n c1, wx, ?_, B0 _, fun s _ h => h 6 rfl⟩
    unfold sl at h0
    simp at h0
    simp [go_sem, h0, es]
  · refine OpFactW.value rfl (FO_below _ _ _ _ _ _ _ _ _ _) hBB fun L a wx hl hf D hb => ?_
    have h1 : sl a 6 = .slice A1 n c1 := D 1 (by kernel_rfl)
    refine ⟨.int .i64 n, wx, ?_, B0 _, fun s _ h => h 7 rfl⟩
    unfold sl at h1
    simp at h1
    simp [go_sem, h1]
  · refine OpFactW.value rfl (FO_below _ _ _ _ _ _ _ _ _ _) hBB fun L a wx hl hf D hb => ?_
    have h0 : sl a 3 = .pointer (some ⟨bB, 0, none⟩) := hf 3 (by kernel_rfl)
    refine ⟨.pointer (some ⟨bB, 0, none⟩), wx, ?_, B0 _, fun s _ h => h 8 rfl⟩
    unfold sl at h0
    simp at h0
    simp [go_sem, h0]
  · refine OpFactW.value rfl (FO_below _ _ _ _ _ _ _ _ _ _) hBB fun L a wx hl hf D hb => ?_
    have h0 : sl a 8 = .pointer (some ⟨bB, 0, none⟩) := D 3 (by kernel_rfl)
    have es := HS.out wx hb
    refine ⟨.slice A2 k c2, wx, ?_, B0 _, fun s _ h => h 9 rfl⟩
    unfold sl at h0
    simp at h0
    simp [go_sem, h0, es]
  · refine OpFactW.value rfl (FO_below _ _ _ _ _ _ _ _ _ _) hBB fun L a wx hl hf D hb => ?_
    have h1 : sl a 9 = .slice A2 k c2 := D 4 (by kernel_rfl)
    refine ⟨.int .i64 k, wx, ?_, B0 _, fun s _ h => h 10 rfl⟩
    unfold sl at h1
    simp at h1
    simp [go_sem, h1]
  · refine OpFactW.call rfl (FO_below _ _ _ _ _ _ _ _ _ _) hBB fun L a wx hl hf D hb => ?_
    have h1 : sl a 7 = .int .i64 n := D 2 (by kernel_rfl)
    have h2 : sl a 10 = .int .i64 k := D 5 (by kernel_rfl)
    refine ⟨49, #[.int .i64 n, .int .i64 k], ?_, (HC1.out wx).mono ?_⟩
    · unfold sl at h1 h2
      simp at h1 h2
      simp [go_sem, h1, h2]
    · rintro e w' ⟨rfl, rfl⟩
      exact ⟨_, rfl, B0 _, fun s _ h => h 11 rfl⟩
  · refine OpFactW.value rfl (FO_below _ _ _ _ _ _ _ _ _ _) hBB fun L a wx hl hf D hb => ?_
    have h0 : sl a 2 = .pointer (some ⟨bA, 0, none⟩) := hf 2 (by kernel_rfl)
    refine ⟨.pointer (some ⟨bA, 0, none⟩), wx, ?_, B0 _, fun s _ h => h 12 rfl⟩
    unfold sl at h0
    simp at h0
    simp [go_sem, h0]
  · refine OpFactW.value rfl (FO_below _ _ _ _ _ _ _ _ _ _) hBB fun L a wx hl hf D hb => ?_
    have h0 : sl a 12 = .pointer (some ⟨bA, 0, none⟩) := D 7 (by kernel_rfl)
    have es := HS.out wx hb
    refine ⟨.slice A1 n c1, wx, ?_, B0 _, fun s _ h => h 13 rfl⟩
    unfold sl at h0
    simp at h0
    simp [go_sem, h0, es]
  · refine OpFactW.value rfl (FO_below _ _ _ _ _ _ _ _ _ _) hBB fun L a wx hl hf D hb => ?_
    have h0 : sl a 3 = .pointer (some ⟨bB, 0, none⟩) := hf 3 (by kernel_rfl)
    refine ⟨.pointer (some ⟨bB, 0, none⟩), wx, ?_, B0 _, fun s _ h => h 14 rfl⟩
    unfold sl at h0
    simp at h0
    simp [go_sem, h0]
  · refine OpFactW.value rfl (FO_below _ _ _ _ _ _ _ _ _ _) hBB fun L a wx hl hf D hb => ?_
    have h0 : sl a 14 = .pointer (some ⟨bB, 0, none⟩) := D 9 (by kernel_rfl)
    have es := HS.out wx hb
    refine ⟨.slice A2 k c2, wx, ?_, B0 _, fun s _ h => h 15 rfl⟩
    unfold sl at h0
    simp at h0
    simp [go_sem, h0, es]
  · refine OpFactW.call rfl (FO_below _ _ _ _ _ _ _ _ _ _) hBB fun L a wx hl hf D hb => ?_
    have h1 : sl a 13 = .slice A1 n c1 := D 8 (by kernel_rfl)
    have h2 : sl a 15 = .slice A2 k c2 := D 10 (by kernel_rfl)
    refine ⟨50, #[.slice A1 n c1, .slice A2 k c2], ?_, (HC2.out wx hb).mono ?_⟩
    · unfold sl at h1 h2
      simp at h1 h2
      simp [go_sem, h1, h2]
    · rintro e w' ⟨rfl, rfl⟩
      exact ⟨_, rfl, B0 _, fun s _ h => h 16 rfl⟩
  · refine OpFactW.value rfl (FO_below _ _ _ _ _ _ _ _ _ _) hBB fun L a wx hl hf D hb => ?_
    have h1 : sl a 11 = .int .i64 r1 := D 6 (by kernel_rfl)
    have h2 : sl a 16 = .int .i64 r2 := D 11 (by kernel_rfl)
    refine ⟨.slice (some ⟨wx.heap.size, 0, none⟩) 2 2, wx.alloc (.cells #[.int .i64 r1, .int .i64 r2] 3), ?_, Ba (B0 _) _, fun s _ h => ⟨_, h 17 rfl, Blk.new _ _ _⟩⟩
    unfold sl at h1 h2
    simp at h1 h2
    simp [go_sem, h1, h2]
  · refine OpFactW.call rfl (FO_below _ _ _ _ _ _ _ _ _ _) hBB fun L a wx hl hf D hb => ?_
    obtain ⟨g, h1, hK⟩ : ∃ g, sl a 17 = .slice (some ⟨g, 0, none⟩) 2 2 ∧ Blk wx g 3 #[.int .i64 r1, .int .i64 r2] := D 12 (by kernel_rfl)
    refine ⟨48, #[.slice (some ⟨g, 0, none⟩) 2 2], ?_, (or_any r1 r2 g wx (hK.cell 0) (hK.cell 1)).mono ?_⟩
    · unfold sl at h1
      simp at h1
      simp [go_sem, h1]
    · rintro e w' ⟨rfl, rfl⟩
      exact ⟨_, rfl, B0 _, fun s _ h => h 18 rfl⟩
  · refine OpFactW.value rfl (FO_below _ _ _ _ _ _ _ _ _ _) hBB fun L a wx hl hf D hb => ?_
    have h1 : sl a 18 = .int .i64 (Cou.orI r1 r2) := D 13 (by kernel_rfl)
    refine ⟨.int .i64 (Cou.orI r1 r2), wx, ?_, B0 _, fun s _ h => h 4 rfl⟩
    unfold sl at h1
    simp at h1
    simp [go_sem, h1]
  · intro L9 y9 w9 hb9 hF9
    have h4 : y9 4 = .int .i64 (Cou.orI r1 r2) := hF9 14 (by decide) rfl
    clear hF9
    rw [aft15 (d0 := 5) (d1 := 6) (d2 := 7) (d3 := 8) (d4 := 9) (d5 := 10) (d6 := 11) (d7 := 12) (d8 := 13) (d9 := 14) (d10 := 15) (d11 := 16) (d12 := 17) (d13 := 18) (d14 := 4) (by kernel_rfl) rfl]
    rw [h4]
    simp only [List.set_cons_succ, List.set_cons_zero]
    refine from_end rfl ?_
    go_wp2_with fail
    go_ret
    exact ⟨by rw [HZ.out]; rfl, Bt HB1.out hb9⟩
end Go.Proofs.YtahlfndlkfoikaaDoor
