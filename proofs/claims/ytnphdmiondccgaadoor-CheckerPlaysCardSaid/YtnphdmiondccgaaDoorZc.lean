/- Walks over noteset: Count, CheckCompass, Range. -/
import Derived.Test.YtnphdmiondccgaaDoorZb
import Derived.Test.YtnphdmiondccgaaDoorW7
namespace Go.Proofs.YtnphdmiondccgaaDoor
open Go Go.RowKit
open Pop
set_option maxRecDepth 100000 in
theorem count_any (x : Nat) (hx : x < 2 ^ 128) (w : World) : Calls Tryd.prog 24 #[ntV x] w fun e w' => e = .returned (.int .i64 ((Nt.mem x).length : Nat)) ∧ Below w.heap.size w w' := by
  obtain ⟨w1, hw1⟩ : ∃ w1 : World, w.alloc (.cells #[.int .u64 ((Nt.lo x : Nat) : Int), .int .u64 ((Nt.hi x : Nat) : Int)] 87) = w1 := ⟨_, rfl⟩
  obtain ⟨b, hb⟩ : ∃ b, w.heap.size = b := ⟨_, rfl⟩
  have C1 : Blk w1 b 87 #[.int .u64 ((Nt.lo x : Nat) : Int), .int .u64 ((Nt.hi x : Nat) : Int)] := by rw [← hw1, ← hb]; exact Blk.new _ _ _
  have B1 : Below w.heap.size w w1 := by rw [← hw1]; exact Ba (B0 w) _
  have c0 := C1.cell 0
  have c1 := C1.cell 1
  simp only [List.getElem?_toArray, List.getElem?_cons_zero, List.getElem?_cons_succ] at c0 c1
  have hm := mem_count x
  have hlo := Nt.lo_lt x
  have hhi := Nt.hi_lt hx
  have hp1 := pc_le 64 (Nt.lo x)
  have hp2 := pc_le 64 (Nt.hi x)
  have HO1 := Lib.hid (fun W => ones_any (Nt.lo x) hlo W)
  have HO2 := Lib.hid (fun W => ones_any (Nt.hi x) hhi W)
  obtain ⟨p1, hpp1⟩ : ∃ p, pc 64 (Nt.lo x) = p := ⟨_, rfl⟩
  obtain ⟨p2, hpp2⟩ : ∃ p, pc 64 (Nt.hi x) = p := ⟨_, rfl⟩
  obtain ⟨mm, hmm⟩ : ∃ m, (Nt.mem x).length = m := ⟨_, rfl⟩
  obtain ⟨lo, hlo'⟩ : ∃ m, Nt.lo x = m := ⟨_, rfl⟩
  obtain ⟨hi, hhi'⟩ : ∃ m, Nt.hi x = m := ⟨_, rfl⟩
  rw [hpp1, hpp2, hmm] at hm
  rw [hpp1] at HO1 hp1
  rw [hpp2] at HO2 hp2
  rw [hmm]
  have hnt : ntV x = .agg #[.int .u64 (lo : Int), .int .u64 (hi : Int)] := by rw [← hlo', ← hhi']; rfl
  rw [hnt]
  rw [hlo'] at c0 HO1 hw1
  rw [hhi'] at c1 HO2 hw1
  have HC := Lib.hid C1
  have HB := Lib.hid B1
  have HW1 := Lib.hid hw1
  have HBB := Lib.hid hb
  have eS : (p1 : Int) + p2 = mm := by omega
  have e64 : IntKind.i64.wrap ((p1 : Int) + p2) = mm := by rw [IntWalk.i64_in _ (by omega)]; exact eS
  clear C1 B1 hw1 hb hlo hhi hnt hlo' hhi' hm hpp1 hpp2 hmm
  go_enter Tryd.func24, Tryd.ntmps24
  go_upto_region 1 with fail
  rw [HW1.out, HBB.out]
  have k0 : ∀ q : Cls54 w1, q.w.cell? ⟨b, 0, none⟩ = some (.int .u64 (lo : Int)) := fun q => (Bc q.b HC.out.lt).trans c0
  have k1 : ∀ q : Cls54 w1, q.w.cell? ⟨b, 1, none⟩ = some (.int .u64 (hi : Int)) := fun q => (Bc q.b HC.out.lt).trans c1
  have HL1 := Lib.hid (fun q : Cls54 w1 => (show Calls Tryd.prog 61 #[.int .u64 (lo : Int)] q.w fun e w' => e = .returned (.int .i64 (p1 : Nat)) ∧ ∃ r : Cls54 w1, w' = r.w from (HO1.out q.w).mono fun e w' ⟨q1, q2⟩ => ⟨q1, q, q2⟩))
  have HL2 := Lib.hid (fun q : Cls54 w1 => (show Calls Tryd.prog 61 #[.int .u64 (hi : Int)] q.w fun e w' => e = .returned (.int .i64 (p2 : Nat)) ∧ ∃ r : Cls54 w1, w' = r.w from (HO2.out q.w).mono fun e w' ⟨q1, q2⟩ => ⟨q1, q, q2⟩))
  clear c0 c1
  refine wp_region_class54_lit (C := fun w' => ∃ q : Cls54 w1, w' = q.w) (by kernel_rfl) (by kernel_rfl) ⟨Cls54.mk' (B0 w1).drew, rfl⟩ ?_
  repeat (any_goals (first | go_big_quiet_step (first | (go_at_call 61; with_reducible exact HL1.out _) | (go_at_call 61; with_reducible exact HL2.out _)) | quiet_step (first | (go_at_call 61; with_reducible exact HL1.out _) | (go_at_call 61; with_reducible exact HL2.out _))))
  refine wpQuiet_nil ?_
  rintro _ ⟨q, rfl⟩
  have B2 := Lib.hid (Bt HB.out q.b)
  clear k0 k1
  generalize q.w = w5 at *
  go_wp2_with fail
  go_ret
  exact ⟨rfl, B2.out⟩
/-- A right compass. -/
def CmpOk (lo hi : Int) : Prop := 0 ≤ lo ∧ hi ≤ 127 ∧ lo ≤ hi
theorem compass_err (lo hi : Int) (w : World) : Calls Tryd.prog 58 #[.agg #[.int .i64 lo, .int .i64 hi]] w fun e w' => (∃ e0, e = .returned (.int .i64 e0) ∧ (e0 = 0 ↔ CmpOk lo hi)) ∧ Below w.heap.size w w' := by
  obtain ⟨Q, hQ⟩ : ∃ Q : Prop, CmpOk lo hi = Q := ⟨_, rfl⟩
  rw [hQ]
  have HQ := Lib.hid hQ
  clear hQ
  by_cases h1 : lo < 0
  · go_enter Tryd.func58, Tryd.ntmps58
    go_wp2_with fail
    go_ret
    exact ⟨⟨3, rfl, fun h => absurd h (by decide), fun h => by have := (HQ.out.mpr h).1; omega⟩, Ba (B0 w) _⟩
  · by_cases h2 : 127 < hi
    · go_enter Tryd.func58, Tryd.ntmps58
      go_wp2_with fail
      go_ret
      exact ⟨⟨3, rfl, fun h => absurd h (by decide), fun h => by have := (HQ.out.mpr h).2.1; omega⟩, Ba (B0 w) _⟩
    · by_cases h3 : hi < lo
      · go_enter Tryd.func58, Tryd.ntmps58
        go_wp2_with fail
        go_ret
        exact ⟨⟨23, rfl, fun h => absurd h (by decide), fun h => by have := (HQ.out.mpr h).2.2; omega⟩, Ba (B0 w) _⟩
      · have HX := Lib.hid (HQ.out.mp ⟨by omega, by omega, by omega⟩)
        go_enter Tryd.func58, Tryd.ntmps58
        go_wp2_with fail
        go_ret
        exact ⟨⟨0, rfl, fun _ => HX.out, fun _ => rfl⟩, Ba (B0 w) _⟩
set_option maxRecDepth 100000 in
set_option maxHeartbeats 2000000 in
theorem range_any (lo hi : Int) (w : World) : Calls Tryd.prog 22 #[.agg #[.int .i64 lo, .int .i64 hi]] w fun e w' =>
    (∃ (x : Nat) (e0 : Int), e = .returned (.tuple #[ntV x, .int .i64 e0]) ∧ x < 2 ^ 128 ∧ (e0 = 0 ↔ CmpOk lo hi) ∧ (e0 = 0 → ∀ i : Nat, x.testBit i = true ↔ lo ≤ (i : Int) ∧ (i : Int) ≤ hi)) ∧ Below w.heap.size w w' := by
  obtain ⟨w1, hw1⟩ : ∃ w1 : World, ((w.alloc (.cells #[.int .i64 lo, .int .i64 hi] 82)).alloc (.cells #[.int .u64 0, .int .u64 0] 87)).alloc (.cells #[.int .u64 0, .int .u64 0] 87) = w1 := ⟨_, rfl⟩
  obtain ⟨b1, hb1⟩ : ∃ b, w.heap.size = b := ⟨_, rfl⟩
  have hB1 : Below w.heap.size w w1 := by rw [← hw1]; exact Ba (Ba (Ba (B0 w) _) _) _
  have hK1 : Blk w1 b1 82 #[.int .i64 lo, .int .i64 hi] := by rw [← hw1, ← hb1]; exact ((Blk.new _ _ _).alloc _).alloc _
  have hK2 : Blk w1 (b1 + 1) 87 #[.int .u64 0, .int .u64 0] := by
    rw [← hw1, ← hb1]
    have h := (Blk.new (w.alloc (.cells #[.int .i64 lo, .int .i64 hi] 82)) 87 #[.int .u64 0, .int .u64 0]).alloc (.cells #[.int .u64 0, .int .u64 0] 87)
    rw [World.size_alloc] at h
    exact h
  have hK3 : Blk w1 (b1 + 1 + 1) 87 #[.int .u64 0, .int .u64 0] := by
    rw [← hw1, ← hb1]
    have h := Blk.new ((w.alloc (.cells #[.int .i64 lo, .int .i64 hi] 82)).alloc (.cells #[.int .u64 0, .int .u64 0] 87)) 87 #[.int .u64 0, .int .u64 0]
    rw [World.size_alloc, World.size_alloc] at h
    exact h
  have HCC := Lib.hid (fun W => compass_err lo hi W)
  have HK1 := Lib.hid hK1
  have HK2 := Lib.hid hK2
  have HK3 := Lib.hid hK3
  have HB1 := Lib.hid hB1
  have HW1 := Lib.hid hw1
  have HBB := Lib.hid hb1
  clear hK1 hK2 hK3 hB1 hw1 hb1
  go_enter Tryd.func22, Tryd.ntmps22
  go_upto_region 2 with fail
  rw [HBB.out]
  have hw1 := HW1.out
  rw [hw1]
  obtain ⟨b2, hb2⟩ : ∃ b, b1 + 1 = b := ⟨_, rfl⟩
  obtain ⟨b3, hb3⟩ : ∃ b, b2 + 1 = b := ⟨_, rfl⟩
  have k2 := HK2.out
  have k3 := HK3.out
  rw [hb2] at k2 k3 ⊢
  rw [hb3] at k3 ⊢
  have k1 := HK1.out
  have c0 := k1.cell 0
  have c1 := k1.cell 1
  simp only [List.getElem?_toArray, List.getElem?_cons_zero, List.getElem?_cons_succ] at c0 c1
  have n12 : b1 ≠ b3 := by omega
  have n23 : b2 ≠ b3 := by omega
  have hwb : w.heap.size ≤ b1 := by rw [HBB.out]; exact Nat.le_refl _
  have hb12 : b1 ≤ b2 := by omega
  have hb13 : b1 ≤ b3 := by omega
  have HL1 := Lib.hid k1
  have HL2 := Lib.hid k2
  have HL3 := Lib.hid k3
  clear hw1 HW1 HBB HK1 HK2 HK3 k1 k2 k3 hb2 hb3
  go_upto_region 3 with (go_at_call 58; (with_reducible refine ((HCC.out _).mono ?_)); rintro e w2 ⟨⟨e0, rfl, he⟩, hbw⟩; have HE := Lib.hid he; have HB2 := Lib.hid (Bt HB1.out hbw); have HM1 := Lib.hid (HL1.out.below hbw HL1.out.lt); have HM2 := Lib.hid (HL2.out.below hbw HL2.out.lt); have HM3 := Lib.hid (HL3.out.below hbw HL3.out.lt); clear he hbw c0 c1)
  clear HL1 HL2 HL3 HB1 HCC
  have hz2 : ∀ (W : World) (xl xh u0 u1 : Value), Blk W b2 87 #[u0, u1] → ((W.setCell ⟨b2, 0, none⟩ xl).setCell ⟨b2, 1, none⟩ xh).cell? ⟨b2, 0, none⟩ = some xl ∧ ((W.setCell ⟨b2, 0, none⟩ xl).setCell ⟨b2, 1, none⟩ xh).cell? ⟨b2, 1, none⟩ = some xh := fun W xl xh u0 u1 hK => by
    have h := (hK.set_ 0 xl).set_ 1 xh
    exact ⟨(h.cell 0).trans rfl, (h.cell 1).trans rfl⟩
  by_cases he : e0 = 0
  · subst he
    have hok := HE.out.1 rfl
    obtain ⟨o1, o2, o3⟩ := hok
    obtain ⟨a, rfl⟩ : ∃ a : Nat, lo = a := ⟨lo.toNat, by omega⟩
    obtain ⟨h, rfl⟩ : ∃ h : Nat, hi = h := ⟨hi.toNat, by omega⟩
    have c0 := HM1.out.cell 0
    simp only [List.getElem?_toArray, List.getElem?_cons_zero] at c0
    go_wp2_with fail
    clear c0
    go_loopg [6] (h + 1 - a) (fun gg s6 wr => ∃ (n x : Nat), a ≤ n ∧ n ≤ h + 1 ∧ h + 1 - n ≤ gg ∧ s6 = .int .i64 n ∧ x < 2 ^ 128 ∧ Aside (∀ i : Nat, x.testBit i = true ↔ a ≤ i ∧ i < n) ∧ Aside (Blk wr b1 82 #[.int .i64 (a : Int), .int .i64 (h : Int)]) ∧ Aside (Blk wr b2 87 #[.int .u64 0, .int .u64 0]) ∧ Aside (Blk wr b3 87 #[.int .u64 ((Nt.lo x : Nat) : Int), .int .u64 ((Nt.hi x : Nat) : Int)]) ∧ Aside (Below w.heap.size w wr))
    case atStart => exact ⟨a, 0, by omega, by omega, by omega, rfl, by decide, fun i => by simp, HM1.out, HM2.out, HM3.out, HB2.out⟩
    case round =>
      clear HM1 HM2 HM3 HB2
      obtain ⟨n, x, hn1, hn2, hg, rfl, hx, HX, HK1, HK2, HK3, HB⟩ := hrel
      replace HX : Hid (∀ i : Nat, x.testBit i = true ↔ a ≤ i ∧ i < n) := Lib.hid HX
      replace HK1 : Hid (Blk wr b1 82 #[.int .i64 (a : Int), .int .i64 (h : Int)]) := Lib.hid HK1
      replace HK2 : Hid (Blk wr b2 87 #[.int .u64 0, .int .u64 0]) := Lib.hid HK2
      replace HK3 : Hid (Blk wr b3 87 #[.int .u64 ((Nt.lo x : Nat) : Int), .int .u64 ((Nt.hi x : Nat) : Int)]) := Lib.hid HK3
      replace HB : Hid (Below w.heap.size w wr) := Lib.hid HB
      obtain ⟨wo, rfl⟩ : ∃ wo : World, wo = wr := ⟨_, rfl⟩
      have c1 := HK1.out.cell 1
      have y0 := HK3.out.cell 0
      have y1 := HK3.out.cell 1
      simp only [List.getElem?_toArray, List.getElem?_cons_zero, List.getElem?_cons_succ] at c1 y0 y1
      by_cases hle : n ≤ h
      · have hleI : (n : Int) ≤ h := by omega
        have hwt := fun W => with_any x n hx (by omega) W
        obtain ⟨X, hX⟩ : ∃ X, x ||| Hit.bit n = X := ⟨_, rfl⟩
        rw [hX] at hwt
        have hXlt : X < 2 ^ 128 := by rw [← hX]; exact Nt.or_bit_lt hx (by omega)
        have hXt : ∀ i : Nat, X.testBit i = true ↔ a ≤ i ∧ i < n + 1 := fun i => by
          rw [← hX, Nat.testBit_or, Bool.or_eq_true, HX.out i, Hit.bit_test, decide_eq_true_eq]
          omega
        have HWT : Hid (∀ W, Calls Tryd.prog 59 #[.agg #[.int .u64 ((Nt.lo x : Nat) : Int), .int .u64 ((Nt.hi x : Nat) : Int)], .int .i64 (n : Int)] W fun e w' => e = .returned (.agg #[.int .u64 ((Nt.lo X : Nat) : Int), .int .u64 ((Nt.hi X : Nat) : Int)]) ∧ Below W.heap.size W w') := Lib.hid hwt
        have HXT := Lib.hid hXt
        have HXL := Lib.hid hXlt
        clear hwt hX hXt hXlt
        go_upto_region 7 with (go_at_call 59; (with_reducible refine ((HWT.out _).mono ?_)); rintro e w4 ⟨rfl, hb4⟩; have k3 := HK3.out.below hb4 HK3.out.lt; have f0 := k3.frozen 0; have f1 := k3.frozen 1; have z0 := k3.cell 0; have z1 := k3.cell 1; simp only [List.getElem?_toArray, List.getElem?_cons_zero, List.getElem?_cons_succ] at z0 z1; have HB4 := Lib.hid hb4; have HM3 := Lib.hid k3; clear hb4 k3)
        obtain ⟨w5, hw5⟩ : ∃ w5 : World, (w4.setCell ⟨b3, 0, none⟩ (.int .u64 ((Nt.lo X : Nat) : Int))).setCell ⟨b3, 1, none⟩ (.int .u64 ((Nt.hi X : Nat) : Int)) = w5 := ⟨_, rfl⟩
        have m3 := (HM3.out.set_ 0 (.int .u64 ((Nt.lo X : Nat) : Int))).set_ 1 (.int .u64 ((Nt.hi X : Nat) : Int))
        have m1 := ((HK1.out.below HB4.out HK1.out.lt).far (p := ⟨b3, 0, none⟩) n12 (.int .u64 ((Nt.lo X : Nat) : Int))).far (p := ⟨b3, 1, none⟩) n12 (.int .u64 ((Nt.hi X : Nat) : Int))
        have m2 := ((HK2.out.below HB4.out HK2.out.lt).far (p := ⟨b3, 0, none⟩) n23 (.int .u64 ((Nt.lo X : Nat) : Int))).far (p := ⟨b3, 1, none⟩) n23 (.int .u64 ((Nt.hi X : Nat) : Int))
        have mB := Bs (Bs (Bt HB.out HB4.out) (.int .u64 ((Nt.lo X : Nat) : Int)) (p := ⟨b3, 0, none⟩) (show w.heap.size ≤ b3 by omega)) (.int .u64 ((Nt.hi X : Nat) : Int)) (p := ⟨b3, 1, none⟩) (show w.heap.size ≤ b3 by omega)
        rw [hw5] at m1 m2 m3 mB
        try rw [hw5]
        have G1 := Lib.hid m1
        have G2 := Lib.hid m2
        have G3 : Hid (Blk w5 b3 87 #[.int .u64 ((Nt.lo X : Nat) : Int), .int .u64 ((Nt.hi X : Nat) : Int)]) := Lib.hid m3
        have GB := Lib.hid mB
        clear m1 m2 m3 mB hw5 f0 f1 z0 z1 c1 y0 y1
        go_wp2_with fail
        go_roundg (h + 1 - (n + 1))
        case measure => omega
        case rel => exact ⟨n + 1, X, by omega, by omega, by omega, by go_num, HXL.out, HXT.out, G1.out, G2.out, G3.out, GB.out⟩
      · obtain rfl : n = h + 1 := by omega
        have z0 := HK2.out.cell 0
        have z1 := HK2.out.cell 1
        have f0 := HK2.out.frozen 0
        have f1 := HK2.out.frozen 1
        simp only [List.getElem?_toArray, List.getElem?_cons_zero, List.getElem?_cons_succ] at z0 z1
        obtain ⟨g1, g2⟩ := hz2 wo (.int .u64 ((Nt.lo x : Nat) : Int)) (.int .u64 ((Nt.hi x : Nat) : Int)) _ _ HK2.out
        have HG := Lib.hid (And.intro g1 g2)
        have GB := Lib.hid (Bs (Bs HB.out (.int .u64 ((Nt.lo x : Nat) : Int)) (p := ⟨b2, 0, none⟩) (show w.heap.size ≤ b2 by omega)) (.int .u64 ((Nt.hi x : Nat) : Int)) (p := ⟨b2, 1, none⟩) (show w.heap.size ≤ b2 by omega))
        clear g1 g2 hz2
        go_wp2_with fail
        obtain ⟨g1, g2⟩ := HG.out
        refine bodyPost_ret (v := .tuple #[.agg #[.int .u64 ((Nt.lo x : Nat) : Int), .int .u64 ((Nt.hi x : Nat) : Int)], .int .i64 0]) (by simp [results, Tryd.f22, go_sem, g1, g2]) rfl ?_
        exact ⟨⟨x, 0, rfl, hx, ⟨fun _ => by simpa using HE.out, fun _ => rfl⟩, fun _ i => by rw [HX.out i]; omega⟩, GB.out⟩
  · have hI : (e0 != 0) = true := by simpa using he
    have y0 := HM3.out.cell 0
    have y1 := HM3.out.cell 1
    have z0 := HM2.out.cell 0
    have z1 := HM2.out.cell 1
    have f0 := HM2.out.frozen 0
    have f1 := HM2.out.frozen 1
    simp only [List.getElem?_toArray, List.getElem?_cons_zero, List.getElem?_cons_succ] at y0 y1 z0 z1
    obtain ⟨g1, g2⟩ := hz2 w2 (.int .u64 0) (.int .u64 0) _ _ HM2.out
    have HG := Lib.hid (And.intro g1 g2)
    have GB := Lib.hid (Bs (Bs HB2.out (.int .u64 0) (p := ⟨b2, 0, none⟩) (show w.heap.size ≤ b2 by omega)) (.int .u64 0) (p := ⟨b2, 1, none⟩) (show w.heap.size ≤ b2 by omega))
    clear g1 g2 hz2
    go_wp2_with fail
    obtain ⟨g1, g2⟩ := HG.out
    refine bodyPost_ret (v := .tuple #[.agg #[.int .u64 0, .int .u64 0], .int .i64 e0]) (by simp [results, Tryd.f22, go_sem, g1, g2]) rfl ?_
    exact ⟨⟨0, e0, rfl, by decide, HE.out, fun h => absurd h he⟩, GB.out⟩
end Go.Proofs.YtnphdmiondccgaaDoor
