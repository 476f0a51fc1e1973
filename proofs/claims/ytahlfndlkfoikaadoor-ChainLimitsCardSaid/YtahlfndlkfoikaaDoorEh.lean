/- Walks over chain: step. -/
import Derived.Test.YtahlfndlkfoikaaDoorEc
import Derived.Test.YtahlfndlkfoikaaDoorRegW
namespace Go.Proofs.YtahlfndlkfoikaaDoor
open Go Go.RowKit Go.Shelf
/-- All but a block of two cells is as it was. -/
structure KeepB (w : World) (g : Nat) (t : TypeId) (W : World) : Prop where
  os : W.os = w.os
  tape : W.tape = w.tape
  output : W.output = w.output
  size : w.heap.size ≤ W.heap.size
  same : ∀ b, b < w.heap.size → b ≠ g → W.heap[b]? = w.heap[b]?
  blk : ∃ x y, Blk W g t #[x, y]
def cellAt (w : World) (g i : Nat) : Value := (w.cell? ⟨g, i, none⟩).getD undef
section
variable {w W W' : World} {g : Nat} {t : TypeId}
theorem KeepB.cell (h : KeepB w g t W) {b i : Nat} (hb : b < w.heap.size) (hn : b ≠ g) : W.cell? ⟨b, i, none⟩ = w.cell? ⟨b, i, none⟩ := World.cell?_of_block (h.same b hb hn)
theorem KeepB.below_of {w0 : World} (h0 : Below w0.heap.size w0 w) (h : KeepB w g t W) (hg : w0.heap.size ≤ g) : Below w0.heap.size w0 W := ⟨h.os.trans h0.os, h.tape.trans h0.tape, h.output.trans h0.output, Nat.le_trans h0.size h.size, fun k hk => (h.same k (Nat.lt_of_lt_of_le hk h0.size) (by omega)).trans (h0.block k hk)⟩
theorem KeepB.own (h : KeepB w g t W) : W.frozen? ⟨g, 0, none⟩ = false ∧ W.frozen? ⟨g, 1, none⟩ = false ∧ W.cell? ⟨g, 0, none⟩ = some (cellAt W g 0) ∧ W.cell? ⟨g, 1, none⟩ = some (cellAt W g 1) := by
  obtain ⟨x, y, hB⟩ := h.blk
  refine ⟨hB.frozen 0, hB.frozen 1, ?_, ?_⟩ <;> · unfold cellAt; rw [hB.cell]; rfl
theorem KeepB.drew (h : KeepB w g t W) : KeepB w g t W.drew := ⟨h.os, h.tape, h.output, h.size, h.same, h.blk⟩
theorem KeepB.below (h : KeepB w g t W) (hb : Below W.heap.size W W') : KeepB w g t W' := ⟨hb.os.trans h.os, hb.tape.trans h.tape, hb.output.trans h.output, Nat.le_trans h.size hb.size, fun b q1 q2 => (hb.block b (Nat.lt_of_lt_of_le q1 h.size)).trans (h.same b q1 q2), by
  obtain ⟨x, y, hB⟩ := h.blk
  exact ⟨x, y, hB.below hb hB.lt⟩⟩
theorem KeepB.set (h : KeepB w g t W) (u v : Value) : KeepB w g t ((W.setCell ⟨g, 0, none⟩ u).setCell ⟨g, 1, none⟩ v) := by
  obtain ⟨x, y, hB⟩ := h.blk
  refine ⟨h.os, h.tape, h.output, by simpa [World.setCell] using h.size, fun b q1 q2 => ?_, u, v, by simpa using (hB.set_ 0 u).set_ 1 v⟩
  exact (Below.heap_setCell _ _ _ b q2).trans ((Below.heap_setCell _ _ _ b q2).trans (h.same b q1 q2))
end
/-- What holds behind each operation of step's last region. -/
def FS (g p0 p1 : Nat) (vd vc : Value) (dr to_ sh frm c1 c2 er : Int) (d : Bool) (j : Nat) (s : Nat → Value) (w : World) : Prop :=
  match j with
  | 0 => s 23 = .agg #[.int .i64 to_, .int .i64 (c2 + sh)]
  | 1 => s 24 = .pointer (some ⟨p1, 1, none⟩)
  | 2 => s 25 = .int .i64 frm
  | 3 => s 26 = .pointer (some ⟨p0 + 1, 0, none⟩)
  | 4 => s 27 = .int .i64 c1
  | 5 => s 28 = .bool d
  | 6 => s 29 = .bool d
  | 7 => d = true → s 30 = .agg #[vd, vc, .int .u64 dr]
  | 8 => d = true → s 31 = .agg #[.int .i64 to_, .int .i64 (c2 + sh)]
  | 9 => d = true → s 32 = .int .i64 er
  | 10 => d = true → s 33 = .bool (er == 0)
  | 11 => s 34 = .bool (d && er == 0)
  | 12 => Blk w g 36 #[.int .i64 to_, .int .i64 (c2 + sh)]
  | 13 => s 7 = .bool (d && er == 0)
  | _ => True
def VS (j : Nat) : List Nat := match j with
  | 0 => [23] | 1 => [24] | 2 => [25] | 3 => [26] | 4 => [27] | 5 => [28] | 6 => [29] | 7 => [30] | 8 => [31] | 9 => [32] | 10 => [33] | 11 => [34] | 13 => [7] | _ => []
def ES (j : Nat) : Bool := j == 12 || j == 13
theorem FS_V (g p0 p1 : Nat) (vd vc : Value) (dr to_ sh frm c1 c2 er : Int) (d : Bool) (j : Nat) (s s' : Nat → Value) (w : World) (h : ∀ t, t ∈ VS j → s' t = s t) (hF : FS g p0 p1 vd vc dr to_ sh frm c1 c2 er d j s w) : FS g p0 p1 vd vc dr to_ sh frm c1 c2 er d j s' w := by
  match j with
  | 0 => unfold FS at hF ⊢; simp only at hF ⊢; rw [h 23 (by simp [VS])]; exact hF
  | 1 => unfold FS at hF ⊢; simp only at hF ⊢; rw [h 24 (by simp [VS])]; exact hF
  | 2 => unfold FS at hF ⊢; simp only at hF ⊢; rw [h 25 (by simp [VS])]; exact hF
  | 3 => unfold FS at hF ⊢; simp only at hF ⊢; rw [h 26 (by simp [VS])]; exact hF
  | 4 => unfold FS at hF ⊢; simp only at hF ⊢; rw [h 27 (by simp [VS])]; exact hF
  | 5 => unfold FS at hF ⊢; simp only at hF ⊢; rw [h 28 (by simp [VS])]; exact hF
  | 6 => unfold FS at hF ⊢; simp only at hF ⊢; rw [h 29 (by simp [VS])]; exact hF
  | 7 => unfold FS at hF ⊢; simp only at hF ⊢; rw [h 30 (by simp [VS])]; exact hF
  | 8 => unfold FS at hF ⊢; simp only at hF ⊢; rw [h 31 (by simp [VS])]; exact hF
  | 9 => unfold FS at hF ⊢; simp only at hF ⊢; rw [h 32 (by simp [VS])]; exact hF
  | 10 => unfold FS at hF ⊢; simp only at hF ⊢; rw [h 33 (by simp [VS])]; exact hF
  | 11 => unfold FS at hF ⊢; simp only at hF ⊢; rw [h 34 (by simp [VS])]; exact hF
  | 12 => exact hF
  | 13 => unfold FS at hF ⊢; simp only at hF ⊢; rw [h 7 (by simp [VS])]; exact hF
  | _ + 14 => trivial
theorem FS_below (g p0 p1 : Nat) (vd vc : Value) (dr to_ sh frm c1 c2 er : Int) (d : Bool) (j : Nat) (s : Nat → Value) (w w' : World) (hb : Below w.heap.size w w') (hF : FS g p0 p1 vd vc dr to_ sh frm c1 c2 er d j s w) : FS g p0 p1 vd vc dr to_ sh frm c1 c2 er d j s w' := by
  match j with
  | 0 => exact hF
  | 1 => exact hF
  | 2 => exact hF
  | 3 => exact hF
  | 4 => exact hF
  | 5 => exact hF
  | 6 => exact hF
  | 7 => exact hF
  | 8 => exact hF
  | 9 => exact hF
  | 10 => exact hF
  | 11 => exact hF
  | 12 => exact Blk.below hF hb (Blk.lt hF)
  | 13 => exact hF
  | _ + 14 => trivial
set_option maxRecDepth 100000 in
set_option maxHeartbeats 4000000 in
theorem cstep_any (a : Cou.Ac) (hok : Cou.Ok a) (vd vc : Value) (i : Nat) (hi : i < a.cps.length) (c : Cou.Ct) (hc : -1000 ≤ c.2 ∧ c.2 ≤ 1000) (dr : Int) (w : World) (F : Nat → Prop) (hA : AcAt F w vd vc a) :
    Calls Tryd.prog 40 #[.agg #[vd, vc, .int .u64 dr], .int .i64 i, .agg #[.int .i64 c.1, .int .i64 c.2]] w fun e w' => StpP a i c e ∧ Below w.heap.size w w' := by
  obtain ⟨Ad, cd, hvd, -, -⟩ := id hA.dv.open
  obtain ⟨Ac, cc, hvc, -, hac⟩ := id hA.cp.open
  subst hvd hvc
  obtain ⟨ad, rfl, hf, hfl⟩ := hac i hi
  have hx := hok.cp a.cps[i] (List.getElem_mem hi)
  have hFF := hA.inW
  have hz : Cou.stepF a i c = if a.cps[i].from_ = c.1 ∧ Cou.inB (a.divs.getD a.cps[i].to.toNat (0, -1)) (c.2 + a.cps[i].shift) = true then some (a.cps[i].to, c.2 + a.cps[i].shift) else none := by
    unfold Cou.stepF; rw [List.getElem?_eq_getElem hi]
  have hwr : Cou.wrongF a (a.cps[i].to, c.2 + a.cps[i].shift) = bif Cou.inB (a.divs.getD a.cps[i].to.toNat (0, -1)) (c.2 + a.cps[i].shift) then 0 else 23 := by
    unfold Cou.wrongF
    rw [if_neg (by dsimp only; omega)]
  have HCT := Lib.hid (fun W (hb : Below w.heap.size w W) x => ccontact_any a _ _ x dr W F (hA.onB hFF hb))
  have HZ := Lib.hid hz
  have HWR := Lib.hid hwr
  clear hac hz hwr
  have hsh : -127 ≤ a.cps[i].shift ∧ a.cps[i].shift ≤ 127 := ⟨hx.2.2.2.2.1, hx.2.2.2.2.2⟩
  clear hx
  have hiI : (i : Int) < a.cps.length := by omega
  generalize a.cps[i] = x at *
  obtain ⟨name, frm, to_, sh, th⟩ := x
  dsimp only at hfl HZ hsh HWR
  obtain ⟨c1, c2⟩ := c
  dsimp only at HZ hc HWR ⊢
  have q0 := hfl.f0 rfl
  have q1 := hfl.f1 rfl
  have q2 := hfl.f2 rfl
  have q3 := hfl.f3 rfl
  have q4 := hfl.f4 rfl
  have hfb : (ad.add (i * 5)).block < w.heap.size := by rw [block_of_add]; exact hFF _ hf
  clear hfl hA
  generalize a.divs.length = dl at *
  generalize a.cps.length = cl at *
  obtain ⟨w1, hw1⟩ : ∃ w1 : World, ((w.alloc (.cells #[.slice Ad dl cd, .slice (some ad) cl cc, .int .u64 dr] 33)).alloc (.cells #[.int .i64 c1, .int .i64 c2] 36)).alloc (.cells #[.int .i64 0, .int .i64 0] 36) = w1 := ⟨_, rfl⟩
  have e0 : w1.cell? ⟨w.heap.size, 0, none⟩ = some (.slice Ad dl cd) := by rw [← hw1]; simp [go_sem]
  have e1 : w1.cell? ⟨w.heap.size, 1, none⟩ = some (.slice (some ad) cl cc) := by rw [← hw1]; simp [go_sem]
  have e2 : w1.cell? ⟨w.heap.size, 2, none⟩ = some (.int .u64 dr) := by rw [← hw1]; simp [go_sem]
  have g0 : w1.cell? ⟨w.heap.size + 1, 0, none⟩ = some (.int .i64 c1) := by rw [← hw1]; simp [go_sem]
  have g1 : w1.cell? ⟨w.heap.size + 1, 1, none⟩ = some (.int .i64 c2) := by rw [← hw1]; simp [go_sem]
  have K0 : Blk w1 (w.heap.size + 2) 36 #[.int .i64 0, .int .i64 0] := by
    have := Blk.new ((w.alloc (.cells #[.slice Ad dl cd, .slice (some ad) cl cc, .int .u64 dr] 33)).alloc (.cells #[.int .i64 c1, .int .i64 c2] 36)) 36 #[.int .i64 0, .int .i64 0]
    rw [hw1] at this
    simpa using this
  have l1 : w.heap.size + 2 < w1.heap.size := by rw [← hw1]; simp
  have hB1 : Below w.heap.size w w1 := by rw [← hw1]; exact Ba (Ba (Ba (B0 w) _) _) _
  replace q0 := (hB1.cell (p := ad.add (i * 5)) hfb).trans q0
  replace q1 := (hB1.cell (p := ⟨(ad.add (i * 5)).block, (ad.add (i * 5)).off + 1, none⟩) hfb).trans q1
  replace q2 := (hB1.cell (p := ⟨(ad.add (i * 5)).block, (ad.add (i * 5)).off + 2, none⟩) hfb).trans q2
  replace q3 := (hB1.cell (p := ⟨(ad.add (i * 5)).block, (ad.add (i * 5)).off + 3, none⟩) hfb).trans q3
  replace q4 := (hB1.cell (p := ⟨(ad.add (i * 5)).block, (ad.add (i * 5)).off + 4, none⟩) hfb).trans q4
  have HW1 := Lib.hid hw1
  have HB1 := Lib.hid hB1
  have l2 : w.heap.size + 1 < w1.heap.size := by omega
  have l3 : w.heap.size < w1.heap.size := by omega
  have l4 : (ad.add (i * 5)).block < w1.heap.size := Nat.lt_of_lt_of_le hfb (Nat.le_of_lt l3)
  clear hB1 hw1 hFF hf hi
  obtain ⟨w2, hw2⟩ : ∃ w2 : World, (w1.alloc (.cells #[.string name, .int .i64 frm, .int .i64 to_, .int .i64 sh, .bool th] 46)).alloc (.cells #[.int .i64 to_, .int .i64 (c2 + sh)] 36) = w2 := ⟨_, rfl⟩
  have hb12 : Below w1.heap.size w1 w2 := by rw [← hw2]; exact Ba (Ba (B0 w1) _) _
  have x1 : w2.cell? ⟨w1.heap.size, 1, none⟩ = some (.int .i64 frm) := by rw [← hw2]; simp [go_sem]
  have y0 : w2.cell? ⟨w1.heap.size + 1, 0, none⟩ = some (.int .i64 to_) := by rw [← hw2]; simp [go_sem]
  have y1 : w2.cell? ⟨w1.heap.size + 1, 1, none⟩ = some (.int .i64 (c2 + sh)) := by rw [← hw2]; simp [go_sem]
  have l6 : w1.heap.size + 1 < w2.heap.size := by rw [← hw2]; simp
  have E0 := (Bc hb12 l3).trans e0
  have E1 := (Bc hb12 l3).trans e1
  have E2 := (Bc hb12 l3).trans e2
  have G0 := (Bc hb12 l2).trans g0
  have HK := Lib.hid (K0.below hb12 K0.lt)
  have HW2 := Lib.hid hw2
  have HB2 := Lib.hid (Bt HB1.out hb12)
  have l7 := hb12.size
  clear hb12 hw2 K0
  go_enter Tryd.func40, Tryd.ntmps40
  go_upto_region 1 with fail
  rw [HW1.out]
  go_upto_region 3 with fail
  rw [HW2.out]
  obtain ⟨p1, hp1⟩ : ∃ p1, w1.heap.size = p1 := ⟨_, rfl⟩
  obtain ⟨p0, hp0⟩ : ∃ p0, w.heap.size = p0 := ⟨_, rfl⟩
  have HP0 := Lib.hid hp0
  rw [hp1] at x1 y0 y1 l6 l7 ⊢
  rw [hp0] at E0 E1 E2 G0 l1 ⊢
  rw [hp1] at l1
  have HK2 : Hid (Blk w2 (p0 + 2) 36 #[.int .i64 0, .int .i64 0]) := Lib.hid (by rw [← hp0]; exact HK.out)
  have u0 : p0 < w2.heap.size := by omega
  have u1 : p0 + 1 < w2.heap.size := by omega
  have u2 : p0 + 1 + 1 < w2.heap.size := by omega
  have u3 : p1 < w2.heap.size := by omega
  clear q0 q1 q2 q3 q4 e0 e1 e2 g0 g1 l2 l3 l4 hp1 hp0 HK HW1 HW2 hfb l7
  have HKB : Hid (KeepB w2 (p0 + 1 + 1) 36 w2) := Lib.hid ⟨rfl, rfl, rfl, Nat.le_refl _, fun _ _ _ => rfl, _, _, HK2.out⟩
  have HCT3 := Lib.hid (fun W (hb : KeepB w2 (p0 + 1 + 1) 36 W) x => HCT.out W (KeepB.below_of HB2.out hb (by rw [HP0.out]; omega)) x)
  have HS := Lib.hid (fun W (hb : KeepB w2 (p0 + 1 + 1) 36 W) => (show (W.cell? ⟨p1 + 1, 0, none⟩ = some (.int .i64 to_) ∧ W.cell? ⟨p1 + 1, 1, none⟩ = some (.int .i64 (c2 + sh)) ∧ W.cell? ⟨p1, 1, none⟩ = some (.int .i64 frm) ∧ W.cell? ⟨p0 + 1, 0, none⟩ = some (.int .i64 c1)) ∧ (W.cell? ⟨p0, 0, none⟩ = some (.slice Ad dl cd) ∧ W.cell? ⟨p0, 1, none⟩ = some (.slice (some ad) cl cc) ∧ W.cell? ⟨p0, 2, none⟩ = some (.int .u64 dr)) ∧
    (W.frozen? ⟨p0 + 1 + 1, 0, none⟩ = false ∧ W.frozen? ⟨p0 + 1 + 1, 1, none⟩ = false ∧ W.cell? ⟨p0 + 1 + 1, 0, none⟩ = some (cellAt W (p0 + 1 + 1) 0) ∧ W.cell? ⟨p0 + 1 + 1, 1, none⟩ = some (cellAt W (p0 + 1 + 1) 1)) from
    ⟨⟨(hb.cell l6 (by omega)).trans y0, (hb.cell l6 (by omega)).trans y1, (hb.cell u3 (by omega)).trans x1, (hb.cell u1 (by omega)).trans G0⟩, ⟨(hb.cell u0 (by omega)).trans E0, (hb.cell u0 (by omega)).trans E1, (hb.cell u0 (by omega)).trans E2⟩, hb.own⟩))
  have hBB : ∀ (L : Nat → Bool) (i : Nat) (W W' : World), Below W.heap.size W W' → KeepB w2 (p0 + 1 + 1) 36 W → KeepB w2 (p0 + 1 + 1) 36 W' := fun _ _ _ _ hb h => h.below hb
  clear x1 y0 y1 E0 E1 E2 G0
  obtain ⟨er, her⟩ : ∃ er, Cou.wrongF a (to_, c2 + sh) = er := ⟨_, rfl⟩
  rw [her] at HWR
  have HC := Lib.hid (fun (W : World) (hb : KeepB w2 (p0 + 1 + 1) 36 W) => HCT3.out W hb (to_, c2 + sh))
  rw [her] at HC
  clear her
  by_cases hfc : frm = c1
  · have d1 : (frm == c1) = true := by simp [hfc]
    have HE : Hid (StpP a i (c1, c2) (.returned (.tuple #[.agg #[.int .i64 to_, .int .i64 (c2 + sh)], .bool (true && er == 0)]))) := Lib.hid (by
      refine ⟨(to_, c2 + sh), _, rfl, ?_, fun u hu => ?_⟩
      · rw [HZ.out, HWR.out]
        cases Cou.inB (a.divs.getD to_.toNat (0, -1)) (c2 + sh) <;> simp [hfc]
      · rw [HZ.out] at hu
        split at hu
        · injection hu
        · cases hu)
    clear HZ HWR hfc
    refine region_blocks (by kernel_rfl) ?_
    refine from_lawW 14 ES (fun _ W => KeepB w2 (p0 + 1 + 1) 36 W) (FS (p0 + 1 + 1) p0 p1 (.slice Ad dl cd) (.slice (some ad) cl cc) dr to_ sh frm c1 c2 er true) VS (by kernel_rfl) rfl (FS_V _ _ _ _ _ _ _ _ _ _ _ _ _) (by kernel_rfl) (by kernel_rfl) (HKB.out.drew) ⟨?_, ?_, ?_, ?_, ?_, ?_, ?_, ?_, ?_, ?_, ?_, ?_, ?_, ?_, trivial⟩ ?_
    · refine OpFactW.value rfl (FS_below _ _ _ _ _ _ _ _ _ _ _ _ _) hBB fun L a w2 hl hf D hb => ?_
      have h0 : sl a 9 = .pointer (some ⟨p1 + 1, 0, none⟩) := hf 9 (by kernel_rfl)
      have es := HS.out w2 hb
      refine ⟨.agg #[.int .i64 to_, .int .i64 (c2 + sh)], w2, ?_, B0 _, fun s _ h => h 23 rfl⟩
      unfold sl at h0
      simp at h0
      simp [go_sem, h0, es]
    · refine OpFactW.value rfl (FS_below _ _ _ _ _ _ _ _ _ _ _ _ _) hBB fun L a w2 hl hf D hb => ?_
      have h0 : sl a 8 = .pointer (some ⟨p1, 0, none⟩) := hf 8 (by kernel_rfl)
      refine ⟨.pointer (some ⟨p1, 1, none⟩), w2, ?_, B0 _, fun s _ h => h 24 rfl⟩
      unfold sl at h0
      simp at h0
      simp [go_sem, h0]
    · refine OpFactW.value rfl (FS_below _ _ _ _ _ _ _ _ _ _ _ _ _) hBB fun L a w2 hl hf D hb => ?_
      have h0 : sl a 24 = .pointer (some ⟨p1, 1, none⟩) := D 1 (by kernel_rfl)
      have es := HS.out w2 hb
      refine ⟨.int .i64 frm, w2, ?_, B0 _, fun s _ h => h 25 rfl⟩
      unfold sl at h0
      simp at h0
      simp [go_sem, h0, es]
    · refine OpFactW.value rfl (FS_below _ _ _ _ _ _ _ _ _ _ _ _ _) hBB fun L a w2 hl hf D hb => ?_
      have h0 : sl a 5 = .pointer (some ⟨p0 + 1, 0, none⟩) := hf 5 (by kernel_rfl)
      refine ⟨.pointer (some ⟨p0 + 1, 0, none⟩), w2, ?_, B0 _, fun s _ h => h 26 rfl⟩
      unfold sl at h0
      simp at h0
      simp [go_sem, h0]
    · refine OpFactW.value rfl (FS_below _ _ _ _ _ _ _ _ _ _ _ _ _) hBB fun L a w2 hl hf D hb => ?_
      have h0 : sl a 26 = .pointer (some ⟨p0 + 1, 0, none⟩) := D 3 (by kernel_rfl)
      have es := HS.out w2 hb
      refine ⟨.int .i64 c1, w2, ?_, B0 _, fun s _ h => h 27 rfl⟩
      unfold sl at h0
      simp at h0
      simp [go_sem, h0, es]
    · refine OpFactW.value rfl (FS_below _ _ _ _ _ _ _ _ _ _ _ _ _) hBB fun L a w2 hl hf D hb => ?_
      have h1 : sl a 25 = .int .i64 frm := D 2 (by kernel_rfl)
      have h2 : sl a 27 = .int .i64 c1 := D 4 (by kernel_rfl)
      refine ⟨.bool true, w2, ?_, B0 _, fun s _ h => h 28 rfl⟩
      unfold sl at h1 h2
      simp at h1 h2
      simp [go_sem, h1, h2, d1]
    · refine OpFactW.value rfl (FS_below _ _ _ _ _ _ _ _ _ _ _ _ _) hBB fun L a w2 hl hf D hb => ?_
      have h1 : sl a 28 = .bool true := D 5 (by kernel_rfl)
      refine ⟨.bool true, w2, ?_, B0 _, fun s _ h => h 29 rfl⟩
      unfold sl at h1
      simp at h1
      simp [go_sem, h1]
    · refine OpFactW.on (g := 6) (d := 29) rfl rfl (fun s w h => h) (by kernel_rfl) fun L a w2 hl hf D hb => OpFactW.wp_value (L := L) (FS_below _ _ _ _ _ _ _ _ _ _ _ _ _) hBB hb ?_
      have h0 : sl a 3 = .pointer (some ⟨p0, 0, none⟩) := hf 3 (by kernel_rfl)
      have es := HS.out w2 hb
      refine ⟨.agg #[.slice Ad dl cd, .slice (some ad) cl cc, .int .u64 dr], w2, ?_, B0 _, fun s _ h _ => h 30 rfl⟩
      unfold sl at h0
      simp at h0
      simp [go_sem, h0, es]
    · refine OpFactW.on (g := 6) (d := 29) rfl rfl (fun s w h => h) (by kernel_rfl) fun L a w2 hl hf D hb => OpFactW.wp_value (L := L) (FS_below _ _ _ _ _ _ _ _ _ _ _ _ _) hBB hb ?_
      have h0 : sl a 9 = .pointer (some ⟨p1 + 1, 0, none⟩) := hf 9 (by kernel_rfl)
      have es := HS.out w2 hb
      refine ⟨.agg #[.int .i64 to_, .int .i64 (c2 + sh)], w2, ?_, B0 _, fun s _ h _ => h 31 rfl⟩
      unfold sl at h0
      simp at h0
      simp [go_sem, h0, es]
    · refine OpFactW.on (g := 6) (d := 29) rfl rfl (fun s w h => h) (by kernel_rfl) fun L a w2 hl hf D hb => OpFactW.wp_call (L := L) (FS_below _ _ _ _ _ _ _ _ _ _ _ _ _) hBB hb ?_
      have h1 : sl a 30 = .agg #[.slice Ad dl cd, .slice (some ad) cl cc, .int .u64 dr] := (show true = true → sl a 30 = .agg #[.slice Ad dl cd, .slice (some ad) cl cc, .int .u64 dr] from D 7 (by kernel_rfl)) rfl
      have h2 : sl a 31 = .agg #[.int .i64 to_, .int .i64 (c2 + sh)] := (show true = true → sl a 31 = .agg #[.int .i64 to_, .int .i64 (c2 + sh)] from D 8 (by kernel_rfl)) rfl
      refine ⟨60, #[.agg #[.slice Ad dl cd, .slice (some ad) cl cc, .int .u64 dr], .agg #[.int .i64 to_, .int .i64 (c2 + sh)]], ?_, (HC.out w2 hb).mono ?_⟩
      · unfold sl at h1 h2
        simp at h1 h2
        simp [go_sem, h1, h2]
      · rintro e w' ⟨rfl, hb3⟩
        exact ⟨_, rfl, hb3, fun s _ h _ => h 32 rfl⟩
    · refine OpFactW.on (g := 6) (d := 29) rfl rfl (fun s w h => h) (by kernel_rfl) fun L a w2 hl hf D hb => OpFactW.wp_value (L := L) (FS_below _ _ _ _ _ _ _ _ _ _ _ _ _) hBB hb ?_
      have h1 : sl a 32 = .int .i64 er := (show true = true → sl a 32 = .int .i64 er from D 9 (by kernel_rfl)) rfl
      refine ⟨.bool (er == 0), w2, ?_, B0 _, fun s _ h _ => h 33 rfl⟩
      unfold sl at h1
      simp at h1
      simp [go_sem, h1]
    · refine OpFactW.value rfl (FS_below _ _ _ _ _ _ _ _ _ _ _ _ _) hBB fun L a w2 hl hf D hb => ?_
      have h1 : sl a 29 = .bool true := D 6 (by kernel_rfl)
      have h2 : sl a 33 = .bool (er == 0) := (show true = true → sl a 33 = .bool (er == 0) from D 10 (by kernel_rfl)) rfl
      refine ⟨.bool (er == 0), w2, ?_, B0 _, fun s _ h => h 34 rfl⟩
      unfold sl at h1 h2
      simp at h1 h2
      simp [go_sem, h1, h2]
    · refine OpFactW.skip rfl fun L a w2 hl hf D hb => ?_
      have h0 : sl a 6 = .pointer (some ⟨p0 + 1 + 1, 0, none⟩) := hf 6 (by kernel_rfl)
      have h1 : sl a 23 = .agg #[.int .i64 to_, .int .i64 (c2 + sh)] := D 0 (by kernel_rfl)
      have es := HS.out w2 hb
      obtain ⟨x, y, hK⟩ := hb.blk
      refine ⟨(w2.setCell ⟨p0 + 1 + 1, 0, none⟩ (.int .i64 to_)).setCell ⟨p0 + 1 + 1, 1, none⟩ (.int .i64 (c2 + sh)), ?_, hb.set _ _, fun j hj hE hF => ?_, fun s _ => show Blk _ (p0 + 1 + 1) 36 #[.int .i64 to_, .int .i64 (c2 + sh)] from by simpa using (hK.set_ 0 (.int .i64 to_)).set_ 1 (.int .i64 (c2 + sh))⟩
      · unfold sl at h0 h1
        simp at h0 h1
        simp [go_sem, h0, h1, es]
      · match j with
        | 0 => exact hF
        | 1 => exact hF
        | 2 => exact hF
        | 3 => exact hF
        | 4 => exact hF
        | 5 => exact hF
        | 6 => exact hF
        | 7 => exact hF
        | 8 => exact hF
        | 9 => exact hF
        | 10 => exact hF
        | 11 => exact hF
        | 12 => exact absurd rfl hj
        | 13 => exact hF
        | _ + 14 => trivial
    · refine OpFactW.value rfl (FS_below _ _ _ _ _ _ _ _ _ _ _ _ _) hBB fun L a w2 hl hf D hb => ?_
      have h1 : sl a 34 = .bool (true && er == 0) := D 11 (by kernel_rfl)
      refine ⟨.bool (true && er == 0), w2, ?_, B0 _, fun s _ h => h 7 rfl⟩
      unfold sl at h1
      simp at h1
      simp [go_sem, h1]
    · intro L y w8 hb8 hF8
      have h12 : Blk w8 (p0 + 1 + 1) 36 #[.int .i64 to_, .int .i64 (c2 + sh)] := hF8 12 (by decide) rfl
      have h7 : y 7 = .bool (true && er == 0) := hF8 13 (by decide) rfl
      have m0 := h12.cell 0
      have m1 := h12.cell 1
      simp only [List.getElem?_toArray, List.getElem?_cons_zero, List.getElem?_cons_succ] at m0 m1
      have HB8 : Hid (Below w.heap.size w w8) := Lib.hid (KeepB.below_of HB2.out hb8 (by rw [← HP0.out]; omega))
      clear hF8 h12 hb8
      rw [aft13 (d0 := 23) (d1 := 24) (d2 := 25) (d3 := 26) (d4 := 27) (d5 := 28) (d6 := 29) (d7 := 30) (d8 := 31) (d9 := 32) (d10 := 33) (d11 := 34) (d12 := 7) (by kernel_rfl) rfl]
      rw [h7]
      simp only [List.set_cons_succ, List.set_cons_zero]
      refine from_end rfl ?_
      go_wp2_with fail
      refine bodyPost_ret (v := .tuple #[.agg #[.int .i64 to_, .int .i64 (c2 + sh)], .bool (true && er == 0)]) ?_ rfl ⟨HE.out, HB8.out⟩
      clear HE HB2 HB8
      simp [results, Tryd.f40, go_sem, m0, m1]
  · have d1 : (frm == c1) = false := by simp [hfc]
    have HE : Hid (StpP a i (c1, c2) (.returned (.tuple #[.agg #[.int .i64 to_, .int .i64 (c2 + sh)], .bool (false && er == 0)]))) := Lib.hid (by
      refine ⟨(to_, c2 + sh), _, rfl, ?_, fun u hu => ?_⟩
      · rw [HZ.out, if_neg (fun h => hfc h.1)]; rfl
      · rw [HZ.out, if_neg (fun h => hfc h.1)] at hu; cases hu)
    clear HZ HWR hfc
    refine region_blocks (by kernel_rfl) ?_
    refine from_lawW 14 ES (fun _ W => KeepB w2 (p0 + 1 + 1) 36 W) (FS (p0 + 1 + 1) p0 p1 (.slice Ad dl cd) (.slice (some ad) cl cc) dr to_ sh frm c1 c2 er false) VS (by kernel_rfl) rfl (FS_V _ _ _ _ _ _ _ _ _ _ _ _ _) (by kernel_rfl) (by kernel_rfl) (HKB.out.drew) ⟨?_, ?_, ?_, ?_, ?_, ?_, ?_, ?_, ?_, ?_, ?_, ?_, ?_, ?_, trivial⟩ ?_
    · refine OpFactW.value rfl (FS_below _ _ _ _ _ _ _ _ _ _ _ _ _) hBB fun L a w2 hl hf D hb => ?_
      have h0 : sl a 9 = .pointer (some ⟨p1 + 1, 0, none⟩) := hf 9 (by kernel_rfl)
      have es := HS.out w2 hb
      refine ⟨.agg #[.int .i64 to_, .int .i64 (c2 + sh)], w2, ?_, B0 _, fun s _ h => h 23 rfl⟩
      unfold sl at h0
      simp at h0
      simp [go_sem, h0, es]
    · refine OpFactW.value rfl (FS_below _ _ _ _ _ _ _ _ _ _ _ _ _) hBB fun L a w2 hl hf D hb => ?_
      have h0 : sl a 8 = .pointer (some ⟨p1, 0, none⟩) := hf 8 (by kernel_rfl)
      refine ⟨.pointer (some ⟨p1, 1, none⟩), w2, ?_, B0 _, fun s _ h => h 24 rfl⟩
      unfold sl at h0
      simp at h0
      simp [go_sem, h0]
    · refine OpFactW.value rfl (FS_below _ _ _ _ _ _ _ _ _ _ _ _ _) hBB fun L a w2 hl hf D hb => ?_
      have h0 : sl a 24 = .pointer (some ⟨p1, 1, none⟩) := D 1 (by kernel_rfl)
      have es := HS.out w2 hb
      refine ⟨.int .i64 frm, w2, ?_, B0 _, fun s _ h => h 25 rfl⟩
      unfold sl at h0
      simp at h0
      simp [go_sem, h0, es]
    · refine OpFactW.value rfl (FS_below _ _ _ _ _ _ _ _ _ _ _ _ _) hBB fun L a w2 hl hf D hb => ?_
      have h0 : sl a 5 = .pointer (some ⟨p0 + 1, 0, none⟩) := hf 5 (by kernel_rfl)
      refine ⟨.pointer (some ⟨p0 + 1, 0, none⟩), w2, ?_, B0 _, fun s _ h => h 26 rfl⟩
      unfold sl at h0
      simp at h0
      simp [go_sem, h0]
    · refine OpFactW.value rfl (FS_below _ _ _ _ _ _ _ _ _ _ _ _ _) hBB fun L a w2 hl hf D hb => ?_
      have h0 : sl a 26 = .pointer (some ⟨p0 + 1, 0, none⟩) := D 3 (by kernel_rfl)
      have es := HS.out w2 hb
      refine ⟨.int .i64 c1, w2, ?_, B0 _, fun s _ h => h 27 rfl⟩
      unfold sl at h0
      simp at h0
      simp [go_sem, h0, es]
    · refine OpFactW.value rfl (FS_below _ _ _ _ _ _ _ _ _ _ _ _ _) hBB fun L a w2 hl hf D hb => ?_
      have h1 : sl a 25 = .int .i64 frm := D 2 (by kernel_rfl)
      have h2 : sl a 27 = .int .i64 c1 := D 4 (by kernel_rfl)
      refine ⟨.bool false, w2, ?_, B0 _, fun s _ h => h 28 rfl⟩
      unfold sl at h1 h2
      simp at h1 h2
      simp [go_sem, h1, h2, d1]
    · refine OpFactW.value rfl (FS_below _ _ _ _ _ _ _ _ _ _ _ _ _) hBB fun L a w2 hl hf D hb => ?_
      have h1 : sl a 28 = .bool false := D 5 (by kernel_rfl)
      refine ⟨.bool false, w2, ?_, B0 _, fun s _ h => h 29 rfl⟩
      unfold sl at h1
      simp at h1
      simp [go_sem, h1]
    · refine OpFactW.off (g := 6) (d := 29) (c := false) rfl rfl (by simp) (by decide) (fun _ _ _ h => h) (fun s w h => h) (by kernel_rfl) (fun s w h => absurd h (by decide))
    · refine OpFactW.off (g := 6) (d := 29) (c := false) rfl rfl (by simp) (by decide) (fun _ _ _ h => h) (fun s w h => h) (by kernel_rfl) (fun s w h => absurd h (by decide))
    · refine OpFactW.off (g := 6) (d := 29) (c := false) rfl rfl (by simp) (by decide) (fun _ _ _ h => h) (fun s w h => h) (by kernel_rfl) (fun s w h => absurd h (by decide))
    · refine OpFactW.off (g := 6) (d := 29) (c := false) rfl rfl (by simp) (by decide) (fun _ _ _ h => h) (fun s w h => h) (by kernel_rfl) (fun s w h => absurd h (by decide))
    · refine OpFactW.value rfl (FS_below _ _ _ _ _ _ _ _ _ _ _ _ _) hBB fun L a w2 hl hf D hb => ?_
      have h1 : sl a 29 = .bool false := D 6 (by kernel_rfl)
      refine ⟨.bool false, w2, ?_, B0 _, fun s _ h => h 34 rfl⟩
      unfold sl at h1
      simp at h1
      simp [go_sem, h1]
    · refine OpFactW.skip rfl fun L a w2 hl hf D hb => ?_
      have h0 : sl a 6 = .pointer (some ⟨p0 + 1 + 1, 0, none⟩) := hf 6 (by kernel_rfl)
      have h1 : sl a 23 = .agg #[.int .i64 to_, .int .i64 (c2 + sh)] := D 0 (by kernel_rfl)
      have es := HS.out w2 hb
      obtain ⟨x, y, hK⟩ := hb.blk
      refine ⟨(w2.setCell ⟨p0 + 1 + 1, 0, none⟩ (.int .i64 to_)).setCell ⟨p0 + 1 + 1, 1, none⟩ (.int .i64 (c2 + sh)), ?_, hb.set _ _, fun j hj hE hF => ?_, fun s _ => show Blk _ (p0 + 1 + 1) 36 #[.int .i64 to_, .int .i64 (c2 + sh)] from by simpa using (hK.set_ 0 (.int .i64 to_)).set_ 1 (.int .i64 (c2 + sh))⟩
      · unfold sl at h0 h1
        simp at h0 h1
        simp [go_sem, h0, h1, es]
      · match j with
        | 0 => exact hF
        | 1 => exact hF
        | 2 => exact hF
        | 3 => exact hF
        | 4 => exact hF
        | 5 => exact hF
        | 6 => exact hF
        | 7 => exact hF
        | 8 => exact hF
        | 9 => exact hF
        | 10 => exact hF
        | 11 => exact hF
        | 12 => exact absurd rfl hj
        | 13 => exact hF
        | _ + 14 => trivial
    · refine OpFactW.value rfl (FS_below _ _ _ _ _ _ _ _ _ _ _ _ _) hBB fun L a w2 hl hf D hb => ?_
      have h1 : sl a 34 = .bool (false && er == 0) := D 11 (by kernel_rfl)
      refine ⟨.bool (false && er == 0), w2, ?_, B0 _, fun s _ h => h 7 rfl⟩
      unfold sl at h1
      simp at h1
      simp [go_sem, h1]
    · intro L y w8 hb8 hF8
      have h12 : Blk w8 (p0 + 1 + 1) 36 #[.int .i64 to_, .int .i64 (c2 + sh)] := hF8 12 (by decide) rfl
      have h7 : y 7 = .bool (false && er == 0) := hF8 13 (by decide) rfl
      have m0 := h12.cell 0
      have m1 := h12.cell 1
      simp only [List.getElem?_toArray, List.getElem?_cons_zero, List.getElem?_cons_succ] at m0 m1
      have HB8 : Hid (Below w.heap.size w w8) := Lib.hid (KeepB.below_of HB2.out hb8 (by rw [← HP0.out]; omega))
      clear hF8 h12 hb8
      rw [aft13 (d0 := 23) (d1 := 24) (d2 := 25) (d3 := 26) (d4 := 27) (d5 := 28) (d6 := 29) (d7 := 30) (d8 := 31) (d9 := 32) (d10 := 33) (d11 := 34) (d12 := 7) (by kernel_rfl) rfl]
      rw [h7]
      simp only [List.set_cons_succ, List.set_cons_zero]
      refine from_end rfl ?_
      go_wp2_with fail
      refine bodyPost_ret (v := .tuple #[.agg #[.int .i64 to_, .int .i64 (c2 + sh)], .bool (false && er == 0)]) ?_ rfl ⟨HE.out, HB8.out⟩
      clear HE HB2 HB8
      simp [results, Tryd.f40, go_sem, m0, m1]
end Go.Proofs.YtahlfndlkfoikaaDoor

