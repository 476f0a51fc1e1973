/- Walk over span: feet. -/
import Derived.Test.YtnphdmiondccgaaDoorZg
import Derived.Test.YtnphdmiondccgaaDoorRegW
namespace Go.Proofs.YtnphdmiondccgaaDoor
open Go Go.RowKit
open Pop
/-- A row of ints in a later world. -/
theorem SlI.later {w w' : World} {v : Value} {l : List Int} (h : SlI (fun b => b < w.heap.size) w v l) (hb : Below w.heap.size w w') : SlI (fun b => b < w'.heap.size) w' v l :=
  Sl.mono (SlI.keep h (Agree.below hb fun _ h => h)) fun _ h => Nat.lt_of_lt_of_le h hb.size
/-- What a value reads as. -/
def rdI (w : World) (v : Value) (l : List Int) : Prop := SlI (fun b => b < w.heap.size) w v l
/-- What holds behind each operation of a drawn region. -/
def FF9 (b b2 m : Nat) (fn fs wd : Int) (xl xh : Nat) (M : List Int) (j : Nat) (s : Nat → Value) (w : World) : Prop :=
  match j with
  | 0 => s 23 = .int .i64 (m : Int)
  | 1 => s 24 = .pointer (some ⟨b, 2, none⟩)
  | 2 => s 25 = .int .i64 fn
  | 3 => s 26 = .bool true
  | 4 => s 27 = .bool true
  | 5 => s 28 = .agg #[.int .u64 (xl : Int), .int .u64 (xh : Int)]
  | 6 => rdI w (s 29) M
  | 7 => s 30 = .int .i64 wd
  | 8 => s 31 = .pointer (some ⟨b, 3, none⟩)
  | 9 => s 32 = .int .i64 fs
  | 10 => s 33 = .bool (decide (wd ≤ fs))
  | 11 => s 34 = .bool (decide (wd ≤ fs))
  | 12 => s 4 = .bool (decide (wd ≤ fs))
  | _ => True
def VF9 (j : Nat) : List Nat := match j with
  | 0 => [23] | 1 => [24] | 2 => [25] | 3 => [26] | 4 => [27] | 5 => [28] | 6 => [29] | 7 => [30] | 8 => [31] | 9 => [32] | 10 => [33] | 11 => [34] | 12 => [4] | _ => []
def EF9 (j : Nat) : Bool := j == 12
theorem FF9_V (b b2 m : Nat) (fn fs wd : Int) (xl xh : Nat) (M : List Int) (j : Nat) (s s' : Nat → Value) (w : World) (h : ∀ t, t ∈ VF9 j → s' t = s t) (hF : FF9 b b2 m fn fs wd xl xh M j s w) : FF9 b b2 m fn fs wd xl xh M j s' w := by
  match j with
  | 0 => unfold FF9 at hF ⊢; simp only at hF ⊢; rw [h 23 (by simp [VF9])]; exact hF
  | 1 => unfold FF9 at hF ⊢; simp only at hF ⊢; rw [h 24 (by simp [VF9])]; exact hF
  | 2 => unfold FF9 at hF ⊢; simp only at hF ⊢; rw [h 25 (by simp [VF9])]; exact hF
  | 3 => unfold FF9 at hF ⊢; simp only at hF ⊢; rw [h 26 (by simp [VF9])]; exact hF
  | 4 => unfold FF9 at hF ⊢; simp only at hF ⊢; rw [h 27 (by simp [VF9])]; exact hF
  | 5 => unfold FF9 at hF ⊢; simp only at hF ⊢; rw [h 28 (by simp [VF9])]; exact hF
  | 6 => unfold FF9 at hF ⊢; simp only at hF ⊢; rw [h 29 (by simp [VF9])]; exact hF
  | 7 => unfold FF9 at hF ⊢; simp only at hF ⊢; rw [h 30 (by simp [VF9])]; exact hF
  | 8 => unfold FF9 at hF ⊢; simp only at hF ⊢; rw [h 31 (by simp [VF9])]; exact hF
  | 9 => unfold FF9 at hF ⊢; simp only at hF ⊢; rw [h 32 (by simp [VF9])]; exact hF
  | 10 => unfold FF9 at hF ⊢; simp only at hF ⊢; rw [h 33 (by simp [VF9])]; exact hF
  | 11 => unfold FF9 at hF ⊢; simp only at hF ⊢; rw [h 34 (by simp [VF9])]; exact hF
  | 12 => unfold FF9 at hF ⊢; simp only at hF ⊢; rw [h 4 (by simp [VF9])]; exact hF
  | _ + 13 => trivial
theorem FF9_below (b b2 m : Nat) (fn fs wd : Int) (xl xh : Nat) (M : List Int) (j : Nat) (s : Nat → Value) (w w' : World) (hb : Below w.heap.size w w') (hF : FF9 b b2 m fn fs wd xl xh M j s w) : FF9 b b2 m fn fs wd xl xh M j s w' := by
  match j with
  | 0 => exact hF
  | 1 => exact hF
  | 2 => exact hF
  | 3 => exact hF
  | 4 => exact hF
  | 5 => exact hF
  | 6 => exact SlI.later hF hb
  | 7 => exact hF
  | 8 => exact hF
  | 9 => exact hF
  | 10 => exact hF
  | 11 => exact hF
  | 12 => exact hF
  | _ + 13 => trivial
set_option maxRecDepth 100000 in
set_option maxHeartbeats 2000000 in
theorem feet_any (hn hs fn fs : Int) (F : Nat → Prop) (v : Value) (l : List Nat) (w : World) (hF : ∀ b, F b → b < w.heap.size) (h : SlK F w v l) (hl : ∀ x ∈ l, x < 2 ^ 128) (hT : Tab64 w) (hg : 0 < w.heap.size) : Calls Tryd.prog 26 #[plV hn hs fn fs, v] w fun e w' => e = .returned (.bool (feetF fn fs l)) ∧ Below w.heap.size w w' := by
  unfold plV
  obtain ⟨ft, hft⟩ : ∃ r, feetF fn fs l = r := ⟨_, rfl⟩
  rw [hft]
  unfold feetF at hft
  have HFT := Lib.hid hft
  clear hft
  obtain ⟨w1, hw1⟩ : ∃ w1 : World, (w.alloc (.cells #[.int .i64 hn, .int .i64 hs, .int .i64 fn, .int .i64 fs] 43)).alloc (.cells #[.int .u64 0, .int .u64 0] 87) = w1 := ⟨_, rfl⟩
  obtain ⟨b, hb⟩ : ∃ b, w.heap.size = b := ⟨_, rfl⟩
  have C1 : Blk w1 b 43 #[.int .i64 hn, .int .i64 hs, .int .i64 fn, .int .i64 fs] := by rw [← hw1, ← hb]; exact (Blk.new _ _ _).alloc _
  have C2 : Blk w1 (b + 1) 87 #[.int .u64 0, .int .u64 0] := by
    rw [← hw1, ← hb]
    have h := Blk.new (w.alloc (.cells #[.int .i64 hn, .int .i64 hs, .int .i64 fn, .int .i64 fs] 43)) 87 #[.int .u64 0, .int .u64 0]
    rw [World.size_alloc] at h
    exact h
  have B1 : Below w.heap.size w w1 := by rw [← hw1]; exact Ba (Ba (B0 w) _) _
  obtain ⟨b2, hb2⟩ : ∃ b2, b + 1 = b2 := ⟨_, rfl⟩
  rw [hb2] at C2
  obtain ⟨A, c, rfl, hc, hlen, hi⟩ := h.open
  obtain ⟨n, hn'⟩ : ∃ n, l.length = n := ⟨_, rfl⟩
  rw [hn'] at hlen hc ⊢
  have HI := Lib.hid hi
  have HN := Lib.hid hn'
  have HC1 := Lib.hid C1
  have C2' : Blk w1 b2 87 #[.int .u64 ((Nt.lo (unF (l.take 0)) : Nat) : Int), .int .u64 ((Nt.hi (unF (l.take 0)) : Nat) : Int)] := by simpa [unF, Nt.lo, Nt.hi] using C2
  have HC2 := Lib.hid C2'
  have HB1 := Lib.hid B1
  have HW1 := Lib.hid hw1
  have HBB := Lib.hid hb
  have HB2 := Lib.hid hb2
  have HL := Lib.hid hl
  have HF := Lib.hid hF
  have HT := Lib.hid hT
  have HMB := Lib.hid (fun x hx W (hb : Below w.heap.size w W) => members_any x hx W (hT.below hb) (Nat.lt_of_lt_of_le hg hb.size))
  clear hi hn' C1 C2 C2' B1 hw1 hb hb2 hl hF hT h
  go_enter Tryd.func26, Tryd.ntmps26
  go_upto_region 3 with fail
  have hw1 := HW1.out
  have hbb := HBB.out
  have hb2 := HB2.out
  rw [hw1, hbb, hb2]
  clear hw1 hbb hb2 HW1
  go_wp2_with fail
  go_loopg [6, 11] (n + 1) (fun gg s6 s11 wr => ∃ k : Nat, k ≤ n ∧ n - k ≤ gg ∧ s11 = .int .i64 k ∧ s6 = .int .i64 (cntF (l.take k) : Nat) ∧ Aside (Blk wr b 43 #[.int .i64 hn, .int .i64 hs, .int .i64 fn, .int .i64 fs]) ∧ Aside (Blk wr b2 87 #[.int .u64 ((Nt.lo (unF (l.take k)) : Nat) : Int), .int .u64 ((Nt.hi (unF (l.take k)) : Nat) : Int)]) ∧ Aside (Below w.heap.size w wr))
  case atStart => exact ⟨0, by omega, by omega, rfl, rfl, HC1.out, HC2.out, HB1.out⟩
  case round =>
    clear HC1 HC2 HB1
    obtain ⟨k, hk, hgg, rfl, rfl, K1, K2, KB⟩ := hrel
    replace K1 : Hid (Blk wr b 43 #[.int .i64 hn, .int .i64 hs, .int .i64 fn, .int .i64 fs]) := Lib.hid K1
    replace K2 : Hid (Blk wr b2 87 #[.int .u64 ((Nt.lo (unF (l.take k)) : Nat) : Int), .int .u64 ((Nt.hi (unF (l.take k)) : Nat) : Int)]) := Lib.hid K2
    replace KB : Hid (Below w.heap.size w wr) := Lib.hid KB
    obtain ⟨wo, rfl⟩ : ∃ wo : World, wo = wr := ⟨_, rfl⟩
    by_cases hlt : k < n
    · have hltI : (k : Int) < n := by omega
      have hk1 : k < l.length := by rw [HN.out]; exact hlt
      obtain ⟨ad, rfl, hf, hfl⟩ := HI.out k hk1
      have hfb : (ad.add (k * 2)).block < w.heap.size := by rw [block_of_add]; exact HF.out _ hf
      have q := hfl.below KB.out hfb
      have p0 := q.f0 rfl
      have p1 := q.f1 rfl
      have hun := unF_take hk1
      have hcn := cntF_take hk1
      have hxl := HL.out l[k] (List.getElem_mem hk1)
      have hul : unF (l.take k) < 2 ^ 128 := unF_lt fun x hx => HL.out x (List.mem_of_mem_take hx)
      have hcl := cntF_le (l.take (k + 1))
      rw [List.length_take] at hcl
      obtain ⟨x, hx⟩ : ∃ x, l[k] = x := ⟨_, rfl⟩
      rw [hx] at p0 p1 hun hcn hxl
      obtain ⟨u, hu⟩ : ∃ u, unF (l.take k) = u := ⟨_, rfl⟩
      obtain ⟨u', hu'⟩ : ∃ u, unF (l.take (k + 1)) = u := ⟨_, rfl⟩
      obtain ⟨m, hm⟩ : ∃ u, cntF (l.take k) = u := ⟨_, rfl⟩
      obtain ⟨m', hm'⟩ : ∃ u, cntF (l.take (k + 1)) = u := ⟨_, rfl⟩
      obtain ⟨r, hr⟩ : ∃ r, (Nt.mem x).length = r := ⟨_, rfl⟩
      have HUN := Lib.hid (fun W => union_any u x (by rw [← hu]; exact hul) hxl W)
      have HCT := Lib.hid (fun W => count_any x hxl W)
      rw [hu, hu'] at hun
      rw [← hun] at HUN
      rw [hm, hm', hr] at hcn
      rw [hr] at HCT
      rw [hm'] at hcl
      rw [hu] at K2
      rw [hm]
      have e1 : IntKind.i64.wrap ((m : Int) + r) = m' := by rw [IntWalk.i64_in _ (by omega)]; omega
      have HU := Lib.hid hu'
      have HM := Lib.hid hm'
      unfold ntV at HUN HCT
      clear hx hu hu' hm hm' hr hun hcn hul hxl hcl hfl q hfb hf
      obtain ⟨xl, hxl⟩ : ∃ y, Nt.lo x = y := ⟨_, rfl⟩
      obtain ⟨xh, hxh⟩ : ∃ y, Nt.hi x = y := ⟨_, rfl⟩
      rw [hxl] at p0 HUN HCT
      rw [hxh] at p1 HUN HCT
      go_upto_region 6 with fail
      obtain ⟨w3, hw3⟩ : ∃ w3 : World, wo.alloc (.cells #[.int .u64 (xl : Int), .int .u64 (xh : Int)] 87) = w3 := ⟨_, rfl⟩
      obtain ⟨g, hg3⟩ : ∃ g, wo.heap.size = g := ⟨_, rfl⟩
      have D1 : Blk w3 g 87 #[.int .u64 (xl : Int), .int .u64 (xh : Int)] := by rw [← hw3, ← hg3]; exact Blk.new _ _ _
      have D2 := K2.out.alloc (.cells #[.int .u64 (xl : Int), .int .u64 (xh : Int)] 87)
      have D3 := K1.out.alloc (.cells #[.int .u64 (xl : Int), .int .u64 (xh : Int)] 87)
      have D4 := Ba KB.out (.cells #[.int .u64 (xl : Int), .int .u64 (xh : Int)] 87)
      have n1 : g ≠ b2 := by have := K2.out.lt; omega
      have n2 : b ≠ b2 := by have := HB2.out; omega
      rw [hw3] at D2 D3 D4
      rw [hw3, hg3]
      have c0 := D1.cell 0
      have c1 := D1.cell 1
      have c2 := D2.cell 0
      have c3 := D2.cell 1
      simp only [List.getElem?_toArray, List.getElem?_cons_zero, List.getElem?_cons_succ] at c0 c1 c2 c3
      have HD1 := Lib.hid D1
      have HD2 := Lib.hid D2
      have HD3 := Lib.hid D3
      have HD4 := Lib.hid D4
      clear hw3 hg3 D1 D2 D3 D4 p0 p1 K1 K2 KB
      go_upto_region 7 with (go_at_call 64; (with_reducible refine ((HUN.out _).mono ?_)); rintro e w4 ⟨rfl, hb4⟩; have k2 := HD2.out.below hb4 HD2.out.lt; have f0 := k2.frozen 0; have f1 := k2.frozen 1; have z0 := k2.cell 0; have z1 := k2.cell 1; simp only [List.getElem?_toArray, List.getElem?_cons_zero, List.getElem?_cons_succ] at z0 z1; have HB4 := Lib.hid hb4; have HM2 := Lib.hid k2; clear hb4 k2)
      obtain ⟨w5, hw5⟩ : ∃ w5 : World, (w4.setCell ⟨b2, 0, none⟩ (.int .u64 ((Nt.lo u' : Nat) : Int))).setCell ⟨b2, 1, none⟩ (.int .u64 ((Nt.hi u' : Nat) : Int)) = w5 := ⟨_, rfl⟩
      have m2 := (HM2.out.set_ 0 (.int .u64 ((Nt.lo u' : Nat) : Int))).set_ 1 (.int .u64 ((Nt.hi u' : Nat) : Int))
      have m1 := ((HD3.out.below HB4.out HD3.out.lt).far (p := ⟨b2, 0, none⟩) n2 (.int .u64 ((Nt.lo u' : Nat) : Int))).far (p := ⟨b2, 1, none⟩) n2 (.int .u64 ((Nt.hi u' : Nat) : Int))
      have m3 := ((HD1.out.below HB4.out HD1.out.lt).far (p := ⟨b2, 0, none⟩) n1 (.int .u64 ((Nt.lo u' : Nat) : Int))).far (p := ⟨b2, 1, none⟩) n1 (.int .u64 ((Nt.hi u' : Nat) : Int))
      have hwb : w.heap.size ≤ b2 := by have := HB2.out; have := HBB.out; omega
      have mB := Bs (Bs (Bt HD4.out HB4.out) (.int .u64 ((Nt.lo u' : Nat) : Int)) (p := ⟨b2, 0, none⟩) hwb) (.int .u64 ((Nt.hi u' : Nat) : Int)) (p := ⟨b2, 1, none⟩) hwb
      rw [hw5] at m1 m2 m3 mB
      try rw [hw5]
      have G1 := Lib.hid m1
      have G2 : Hid (Blk w5 b2 87 #[.int .u64 ((Nt.lo u' : Nat) : Int), .int .u64 ((Nt.hi u' : Nat) : Int)]) := Lib.hid m2
      have GB := Lib.hid mB
      have y0 := m3.cell 0
      have y1 := m3.cell 1
      simp only [List.getElem?_toArray, List.getElem?_cons_zero, List.getElem?_cons_succ] at y0 y1
      clear m1 m2 m3 mB hw5 f0 f1 z0 z1 c0 c1 c2 c3
      go_wp2_with (go_at_call 24; (with_reducible refine ((HCT.out _).mono ?_)); rintro e w6 ⟨rfl, hb6⟩; have E1 := Lib.hid (G1.out.below hb6 G1.out.lt); have E2 := Lib.hid (G2.out.below hb6 G2.out.lt); have EB := Lib.hid (Bt GB.out hb6); clear hb6 y0 y1)
      go_roundg (n - (k + 1))
      case measure => omega
      case rel => exact ⟨k + 1, by omega, by omega, by go_num, by rw [HM.out], E1.out, (show Aside _ from by rw [HU.out]; exact E2.out), EB.out⟩
    · obtain rfl : k = n := by omega
      have htk : l.take k = l := by rw [← HN.out, List.take_length]
      have hft := HFT.out
      rw [htk] at K2 ⊢
      have hul : unF l < 2 ^ 128 := unF_lt HL.out
      have hsm := mem_le (unF l)
      have hwd := fun W v (h : SlI (fun b => b < W.heap.size) W v (memI (unF l))) => width_any _ v _ W h hsm
      have HME := Lib.hid (fun W (hb : Below w.heap.size w W) => HMB.out (unF l) hul W hb)
      obtain ⟨wd, hwd'⟩ : ∃ x, widF (memI (unF l)) = x := ⟨_, rfl⟩
      obtain ⟨m, hm⟩ : ∃ x, cntF l = x := ⟨_, rfl⟩
      obtain ⟨M, hM⟩ : ∃ x, memI (unF l) = x := ⟨_, rfl⟩
      have hM' : ((Nt.mem (unF l)).map fun i : Nat => (i : Int)) = M := hM
      rw [hM'] at HME
      rw [hwd', hm] at hft
      rw [hwd', hM] at hwd
      rw [hm]
      unfold ntV at HME
      obtain ⟨xl, hxl⟩ : ∃ y, Nt.lo (unF l) = y := ⟨_, rfl⟩
      obtain ⟨xh, hxh⟩ : ∃ y, Nt.hi (unF l) = y := ⟨_, rfl⟩
      rw [hxl, hxh] at K2 HME
      have HWD := Lib.hid hwd
      have q0 := K1.out.cell 2
      have q1 := K1.out.cell 3
      have q2 := K2.out.cell 0
      have q3 := K2.out.cell 1
      simp only [List.getElem?_toArray, List.getElem?_cons_zero, List.getElem?_cons_succ] at q0 q1 q2 q3
      by_cases hle : (m : Int) ≤ fn
      · obtain rfl : decide (wd ≤ fs) = ft := by simpa [hle] using hft
        have HS2 := Lib.hid (fun W (hb : Below wo.heap.size wo W) => (Bc hb K1.out.lt).trans q0)
        have HS3 := Lib.hid (fun W (hb : Below wo.heap.size wo W) => (Bc hb K1.out.lt).trans q1)
        have HSU := Lib.hid (fun W (hb : Below wo.heap.size wo W) => (show W.cell? ⟨b2, 0, none⟩ = some (.int .u64 (xl : Int)) ∧ W.cell? ⟨b2, 1, none⟩ = some (.int .u64 (xh : Int)) from ⟨(Bc hb K2.out.lt).trans q2, (Bc hb K2.out.lt).trans q3⟩))
        have hBB : ∀ (L : Nat → Bool) (i : Nat) (w w' : World), Below w.heap.size w w' → Below wo.heap.size wo w → Below wo.heap.size wo w' := fun _ _ _ _ h1 h2 => Bt h2 h1
        clear q0 q1 q2 q3 hft hul hsm hwd hwd' hm hM hM' hxl hxh htk
        go_upto_region 9 with fail
        refine region_blocks (by kernel_rfl) ?_
        refine from_lawW 13 EF9 (fun _ W => Below wo.heap.size wo W) (FF9 b b2 m fn fs wd xl xh M) VF9 (by kernel_rfl) rfl (FF9_V _ _ _ _ _ _ _ _ _) (by kernel_rfl) (by kernel_rfl) ((B0 wo).drew) ⟨?_, ?_, ?_, ?_, ?_, ?_, ?_, ?_, ?_, ?_, ?_, ?_, ?_, trivial⟩ ?_
        · refine OpFactW.value rfl (FF9_below _ _ _ _ _ _ _ _ _) hBB fun L a w2 hl hf D hb => ?_
          have h0 : sl a 6 = .int .i64 (m : Int) := hf 6 (by kernel_rfl)
          refine ⟨.int .i64 (m : Int), w2, ?_, B0 _, fun s _ h => h 23 rfl⟩
          unfold sl at h0
          simp [go_sem, h0]
        · refine OpFactW.value rfl (FF9_below _ _ _ _ _ _ _ _ _) hBB fun L a w2 hl hf D hb => ?_
          have h0 : sl a 2 = .pointer (some ⟨b, 0, none⟩) := hf 2 (by kernel_rfl)
          refine ⟨.pointer (some ⟨b, 2, none⟩), w2, ?_, B0 _, fun s _ h => h 24 rfl⟩
          unfold sl at h0
          simp at h0
          simp [go_sem, h0]
        · refine OpFactW.value rfl (FF9_below _ _ _ _ _ _ _ _ _) hBB fun L a w2 hl hf D hb => ?_
          have h0 : sl a 24 = .pointer (some ⟨b, 2, none⟩) := D 1 (by kernel_rfl)
          have es := HS2.out w2 hb
          refine ⟨.int .i64 fn, w2, ?_, B0 _, fun s _ h => h 25 rfl⟩
          unfold sl at h0
          simp at h0
          simp [go_sem, h0, es]
        · refine OpFactW.value rfl (FF9_below _ _ _ _ _ _ _ _ _) hBB fun L a w2 hl hf D hb => ?_
          have h1 : sl a 23 = .int .i64 (m : Int) := D 0 (by kernel_rfl)
          have h2 : sl a 25 = .int .i64 fn := D 2 (by kernel_rfl)
          refine ⟨.bool true, w2, ?_, B0 _, fun s _ h => h 26 rfl⟩
          unfold sl at h1 h2
          simp at h1 h2
          simp [go_sem, h1, h2, hle]
        · refine OpFactW.value rfl (FF9_below _ _ _ _ _ _ _ _ _) hBB fun L a w2 hl hf D hb => ?_
          have h1 : sl a 26 = .bool true := D 3 (by kernel_rfl)
          refine ⟨.bool true, w2, ?_, B0 _, fun s _ h => h 27 rfl⟩
          unfold sl at h1
          simp at h1
          simp [go_sem, h1]
        · refine OpFactW.on (g := 4) (d := 27) rfl rfl (fun s w h => h) (by kernel_rfl) fun L a w2 hl hf D hb => OpFactW.wp_value (L := L) (FF9_below _ _ _ _ _ _ _ _ _) hBB hb ?_
          have h0 : sl a 5 = .pointer (some ⟨b2, 0, none⟩) := hf 5 (by kernel_rfl)
          have es := HSU.out w2 hb
          refine ⟨.agg #[.int .u64 (xl : Int), .int .u64 (xh : Int)], w2, ?_, B0 _, fun s _ h => h 28 rfl⟩
          unfold sl at h0
          simp at h0
          simp [go_sem, h0, es]
        · refine OpFactW.on (g := 4) (d := 27) rfl rfl (fun s w h => h) (by kernel_rfl) fun L a w2 hl hf D hb => OpFactW.wp_call (L := L) (FF9_below _ _ _ _ _ _ _ _ _) hBB hb ?_
          have h1 : sl a 28 = .agg #[.int .u64 (xl : Int), .int .u64 (xh : Int)] := D 5 (by kernel_rfl)
          refine ⟨25, #[.agg #[.int .u64 (xl : Int), .int .u64 (xh : Int)]], ?_, (HME.out w2 (Bt KB.out hb)).mono ?_⟩
          · unfold sl at h1
            simp at h1
            simp [go_sem, h1]
          · rintro e w' ⟨v, rfl, hs, hb3⟩
            refine ⟨_, rfl, hb3, fun s _ h => ?_⟩
            have e29 := h 29 rfl
            show rdI _ (s 29) _
            rw [e29]
            exact Sl.mono hs fun b q => q.2
        · refine OpFactW.on (g := 4) (d := 27) rfl rfl (fun s w h => h) (by kernel_rfl) fun L a w2 hl hf D hb => OpFactW.wp_call (L := L) (FF9_below _ _ _ _ _ _ _ _ _) hBB hb ?_
          have h1 : rdI w2 (sl a 29) M := D 6 (by kernel_rfl)
          obtain ⟨vv, hv⟩ : ∃ vv, sl a 29 = vv := ⟨_, rfl⟩
          rw [hv] at h1
          refine ⟨65, #[vv], ?_, (HWD.out w2 vv h1).mono ?_⟩
          · unfold sl at hv
            simp at hv
            simp [go_sem, hv]
          · rintro e w' ⟨rfl, hb3⟩
            exact ⟨_, rfl, hb3, fun s _ h => h 30 rfl⟩
        · refine OpFactW.on (g := 4) (d := 27) rfl rfl (fun s w h => h) (by kernel_rfl) fun L a w2 hl hf D hb => OpFactW.wp_value (L := L) (FF9_below _ _ _ _ _ _ _ _ _) hBB hb ?_
          have h0 : sl a 2 = .pointer (some ⟨b, 0, none⟩) := hf 2 (by kernel_rfl)
          refine ⟨.pointer (some ⟨b, 3, none⟩), w2, ?_, B0 _, fun s _ h => h 31 rfl⟩
          unfold sl at h0
          simp at h0
          simp [go_sem, h0]
        · refine OpFactW.on (g := 4) (d := 27) rfl rfl (fun s w h => h) (by kernel_rfl) fun L a w2 hl hf D hb => OpFactW.wp_value (L := L) (FF9_below _ _ _ _ _ _ _ _ _) hBB hb ?_
          have h0 : sl a 31 = .pointer (some ⟨b, 3, none⟩) := D 8 (by kernel_rfl)
          have es := HS3.out w2 hb
          refine ⟨.int .i64 fs, w2, ?_, B0 _, fun s _ h => h 32 rfl⟩
          unfold sl at h0
          simp at h0
          simp [go_sem, h0, es]
        · refine OpFactW.on (g := 4) (d := 27) rfl rfl (fun s w h => h) (by kernel_rfl) fun L a w2 hl hf D hb => OpFactW.wp_value (L := L) (FF9_below _ _ _ _ _ _ _ _ _) hBB hb ?_
          have h1 : sl a 30 = .int .i64 wd := D 7 (by kernel_rfl)
          have h2 : sl a 32 = .int .i64 fs := D 9 (by kernel_rfl)
          refine ⟨.bool (decide (wd ≤ fs)), w2, ?_, B0 _, fun s _ h => h 33 rfl⟩
          unfold sl at h1 h2
          simp at h1 h2
          simp [go_sem, h1, h2]
        · refine OpFactW.value rfl (FF9_below _ _ _ _ _ _ _ _ _) hBB fun L a w2 hl hf D hb => ?_
          have h1 : sl a 27 = .bool true := D 4 (by kernel_rfl)
          have h2 : sl a 33 = .bool (decide (wd ≤ fs)) := D 10 (by kernel_rfl)
          refine ⟨.bool (decide (wd ≤ fs)), w2, ?_, B0 _, fun s _ h => h 34 rfl⟩
          unfold sl at h1 h2
          simp at h1 h2
          simp [go_sem, h1, h2]
        · refine OpFactW.value rfl (FF9_below _ _ _ _ _ _ _ _ _) hBB fun L a w2 hl hf D hb => ?_
          have h1 : sl a 34 = .bool (decide (wd ≤ fs)) := D 11 (by kernel_rfl)
          refine ⟨.bool (decide (wd ≤ fs)), w2, ?_, B0 _, fun s _ h => h 4 rfl⟩
          unfold sl at h1
          simp at h1
          simp [go_sem, h1]
        intro L9 y9 w9 hb9 hF9
        have h4 : y9 4 = .bool (decide (wd ≤ fs)) := hF9 12 (by decide) rfl
        clear hF9
        rw [aft13 (d0 := 23) (d1 := 24) (d2 := 25) (d3 := 26) (d4 := 27) (d5 := 28) (d6 := 29) (d7 := 30) (d8 := 31) (d9 := 32) (d10 := 33) (d11 := 34) (d12 := 4) (by kernel_rfl) rfl]
        rw [h4]
        simp only [List.set_cons_succ, List.set_cons_zero]
        refine from_end rfl ?_
        go_wp2_with fail
        go_ret
        exact ⟨rfl, Bt KB.out hb9⟩
      · obtain rfl : ft = false := by simpa [hle] using hft.symm
        clear hft hul hsm hwd hwd' hm hM hM' hxl hxh htk
        go_upto_region 9 with fail
        have k0 : ∀ q : Cls54 wo, q.w.cell? ⟨b, 2, none⟩ = some (.int .i64 fn) := fun q => (Bc q.b K1.out.lt).trans q0
        refine wp_region_class54_lit (C := fun w' => ∃ q : Cls54 wo, w' = q.w) (by kernel_rfl) (by kernel_rfl) ⟨Cls54.mk' (B0 wo).drew, rfl⟩ ?_
        repeat (any_goals (first | go_big_quiet_step (fail) | quiet_step (fail)))
        refine wpQuiet_nil ?_
        rintro _ ⟨q, rfl⟩
        have B2 := Lib.hid (Bt KB.out q.b)
        clear k0
        generalize q.w = w5 at *
        go_wp2_with fail
        go_ret
        exact ⟨rfl, B2.out⟩
end Go.Proofs.YtnphdmiondccgaaDoor
