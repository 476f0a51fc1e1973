/- Walks over chain: begin. Walks over chain: step. Walks over chain: drawn. A drawn region, one obligation for each operation: a fact is kept only while an operation that is not yet done waits for it. Walks over chain: more. -/
import Derived.Test.YtahlfndlkfoikaaDoorEa
import Derived.Test.YtahlfndlkfoikaaDoorQ1
import Derived.Test.YtahlfndlkfoikaaDoorKi
import Derived.Test.YtahlfndlkfoikaaDoorVa
import Derived.Test.YtahlfndlkfoikaaDoorRegW
import Derived.Test.YtahlfndlkfoikaaDoorRegion
namespace Go.Proofs.YtahlfndlkfoikaaDoor
open Go Go.RowKit Go.Shelf
namespace Cha
/-- The first error of contacts. -/
def wrongsF (a : Cou.Ac) : List Cou.Ct → Int
  | [] => 0
  | c :: l => if Cou.wrongF a c = 0 then wrongsF a l else Cou.wrongF a c
/-- The error of an action with contacts. -/
def beginF (a : Cou.Ac) (l : List Cou.Ct) : Int := if Cou.rightF a = 0 then wrongsF a l else Cou.rightF a
end Cha
set_option maxRecDepth 100000 in
set_option maxHeartbeats 2000000 in
theorem begin_any (a : Cou.Ac) (vd vc : Value) (hdr : a.drawn < 2 ^ 64) (pv : Value) (pl : List Cou.Ct) (w : World) (F : Nat → Prop) (hA : AcAt F w vd vc a) (hP : SlCt F w pv pl) :
    Calls Tryd.prog 38 #[.agg #[vd, vc, .int .u64 a.drawn], pv] w fun e w' => e = .returned (.int .i64 (Cha.beginF a pl)) ∧ Below w.heap.size w w' := by
  obtain ⟨Ad, cd, hvd, -, -⟩ := id hA.dv.open
  obtain ⟨Ac, cc, hvc, -, -⟩ := id hA.cp.open
  subst hvd hvc
  obtain ⟨A, c, rfl, -, hlm, hat⟩ := hP.open
  have hF := hA.inW
  obtain ⟨dl, hdl⟩ : ∃ dl, a.divs.length = dl := ⟨_, rfl⟩
  obtain ⟨cl, hcl⟩ : ∃ cl, a.cps.length = cl := ⟨_, rfl⟩
  rw [hdl, hcl] at hA ⊢
  have HRT := Lib.hid (fun W (hb : Below w.heap.size w W) => right_any a (.slice Ad dl cd) (.slice Ac cl cc) hdr W F (hA.onB hF hb))
  have HCT := Lib.hid (fun W (hb : Below w.heap.size w W) x => ccontact_any a (.slice Ad dl cd) (.slice Ac cl cc) x a.drawn W F (hA.onB hF hb))
  obtain ⟨n, hn⟩ : ∃ n, pl.length = n := ⟨_, rfl⟩
  have HN := Lib.hid hn
  have HAT := Lib.hid hat
  rw [hn] at hlm ⊢
  obtain ⟨w1, hw1⟩ : ∃ w1 : World, w.alloc (.cells #[.slice Ad dl cd, .slice Ac cl cc, .int .u64 a.drawn] 33) = w1 := ⟨_, rfl⟩
  obtain ⟨bx, hbx⟩ : ∃ bx, w.heap.size = bx := ⟨_, rfl⟩
  have K1 : Blk w1 bx 33 #[.slice Ad dl cd, .slice Ac cl cc, .int .u64 a.drawn] := by rw [← hw1, ← hbx]; exact Blk.new _ _ _
  have B1 : Below w.heap.size w w1 := by rw [← hw1]; exact Ba (B0 w) _
  have HK := Lib.hid (fun W (hb : Below w1.heap.size w1 W) => (show W.cell? ⟨bx, 0, none⟩ = some (.slice Ad dl cd) ∧ W.cell? ⟨bx, 1, none⟩ = some (.slice Ac cl cc) ∧ W.cell? ⟨bx, 2, none⟩ = some (.int .u64 a.drawn) from
    ⟨(Bc hb K1.lt).trans (K1.cell 0), (Bc hb K1.lt).trans (K1.cell 1), (Bc hb K1.lt).trans (K1.cell 2)⟩))
  obtain ⟨k0, k1, k2⟩ := HK.out w1 (B0 w1)
  have HB1 := Lib.hid B1
  have HW1 := Lib.hid hw1
  have HBX := Lib.hid hbx
  clear hA hP hat hn K1 B1 hw1 hbx hdl hcl hdr
  have HR1 := Lib.hid (HRT.out w1 HB1.out)
  by_cases hr : Cou.rightF a = 0
  · have HZ : Hid (Cha.beginF a pl = Cha.wrongsF a pl) := Lib.hid (by unfold Cha.beginF; rw [if_pos hr])
    rw [hr] at HR1
    clear hr HRT
    go_enter Tryd.func38, Tryd.ntmps38
    go_upto_region 1 with fail
    rw [HW1.out, HBX.out]
    go_wp2_with (go_at_call 27; (with_reducible refine (HR1.out.mono ?_)); rintro e w2 ⟨rfl, hb2⟩; have HB2 := Lib.hid hb2; clear hb2 k0 k1 k2)
    go_loopw [16] (fun s wr => ∃ k : Nat, k ≤ n ∧ s = .int .i64 k ∧ Aside (Cha.wrongsF a pl = Cha.wrongsF a (pl.drop k)) ∧ Aside (Below w1.heap.size w1 wr)) (fun s _ => n - (intOf s).toNat)
    case atStart => exact ⟨0, by omega, rfl, (show Aside _ from by show _ = _; rw [List.drop_zero]), HB2.out⟩
    case round =>
      obtain ⟨k, hk, rfl, hE, hB⟩ := hrel
      replace hE : Cha.wrongsF a pl = Cha.wrongsF a (pl.drop k) := hE
      replace hB : Below w1.heap.size w1 wr := hB
      clear HB2
      by_cases hlt : k < n
      · have hkl : (k : Int) < n := by omega
        have hkl1 : k < pl.length := by rw [HN.out]; exact hlt
        obtain ⟨ad, rfl, hfb, hfl⟩ := HAT.out k hkl1
        have hfb2 : (ad.add (k * 2)).block < w.heap.size := by rw [block_of_add]; exact hF _ hfb
        have hfl2 := hfl.below (Bt HB1.out hB) hfb2
        have f0 := hfl2.f0 rfl
        have f1 := hfl2.f1 rfl
        rw [List.drop_eq_getElem_cons hkl1, Cha.wrongsF] at hE
        generalize pl[k] = x at *
        obtain ⟨x1, x2⟩ := x
        dsimp only at f0 f1
        have hbw := Ba hB (.cells #[.int .i64 x1, .int .i64 x2] 36)
        have hcall := HCT.out _ (Bt HB1.out hbw) (x1, x2)
        obtain ⟨k0, k1, k2⟩ := HK.out _ hbw
        have HE := Lib.hid hE
        have HBw := Lib.hid hbw
        clear hE hB hbw hfl hfl2 hkl1
        obtain ⟨by_, hby⟩ : ∃ b, wr.heap.size = b := ⟨_, rfl⟩
        by_cases hz : Cou.wrongF a (x1, x2) = 0
        · rw [hz] at hcall
          have HC := Lib.hid hcall
          have HE2 : Hid (Cha.wrongsF a pl = Cha.wrongsF a (pl.drop (k + 1))) := Lib.hid (by rw [HE.out, if_pos hz])
          clear hcall hz HE
          go_wp2_with (go_at_call 60; (with_reducible refine (HC.out.mono ?_)); rintro e w3 ⟨rfl, hb3⟩; have HB3 := Lib.hid (Bt HBw.out hb3); clear hb3)
          go_roundw
          case rel => exact ⟨k + 1, by omega, by go_num, HE2.out, HB3.out⟩
          case measure => simp [intOf]; omega
        · have d1 : (Cou.wrongF a (x1, x2) != 0) = true := by simpa using hz
          have HC := Lib.hid hcall
          have HE2 : Hid (Cha.beginF a pl = Cou.wrongF a (x1, x2)) := Lib.hid (by rw [HZ.out, HE.out, if_neg hz])
          clear hcall hz HE
          generalize Cou.wrongF a (x1, x2) = er at *
          go_wp2_with (go_at_call 60; (with_reducible refine (HC.out.mono ?_)); rintro e w3 ⟨rfl, hb3⟩; have HB3 := Lib.hid (Bt HBw.out hb3); clear hb3)
          go_ret
          exact ⟨by rw [HE2.out]; rfl, Bt HB1.out HB3.out⟩
      · obtain rfl : k = n := by omega
        have HE : Hid (Cha.beginF a pl = 0) := Lib.hid (by rw [HZ.out, hE, List.drop_eq_nil_of_le (by rw [HN.out]; exact Nat.le_refl _)]; rfl)
        have HB := Lib.hid hB
        clear hE hB
        go_wp2
        go_ret
        exact ⟨by rw [HE.out]; rfl, Bt HB1.out HB.out⟩
  · have HZ : Hid (Cha.beginF a pl = Cou.rightF a) := Lib.hid (by unfold Cha.beginF; rw [if_neg hr])
    have d1 : (Cou.rightF a != 0) = true := by simpa using hr
    clear hr HRT
    generalize Cou.rightF a = er at *
    go_enter Tryd.func38, Tryd.ntmps38
    go_upto_region 1 with fail
    rw [HW1.out, HBX.out]
    go_wp2_with (go_at_call 27; (with_reducible refine (HR1.out.mono ?_)); rintro e w2 ⟨rfl, hb2⟩; have HB2 := Lib.hid hb2; clear hb2)
    go_ret
    exact ⟨by rw [HZ.out]; rfl, Bt HB1.out HB2.out⟩
/-- What step answers: where the coupler takes the contact, and whether it may. -/
def StpP (a : Cou.Ac) (i : Nat) (c : Cou.Ct) (e : Ending) : Prop := ∃ t : Cou.Ct, ∃ b : Bool, e = .returned (.tuple #[.agg #[.int .i64 t.1, .int .i64 t.2], .bool b]) ∧ b = (Cou.stepF a i c).isSome ∧ ∀ u, Cou.stepF a i c = some u → t = u
end Go.Proofs.YtahlfndlkfoikaaDoor
namespace Go.Proofs.YtahlfndlkfoikaaDoor
open Go Go.RowKit Go.Shelf
/-- All but a block of two cells is as it was. -/
structure KeepB (w : World) (g : Nat) (t : TypeId) (W : World) : Prop where
  os : W.os = w.os
  tape : W.tape = w.tape
  output : W.output = w.output
  size : w.heap.size ≤ W.heap.size
  same : ∀ b, b < w.heap.size → b ≠ g → W.heap[b]? = w.heap[b]?
  blk : ∃ x y, Blk W g t #[x, y]
def cellAt (w : World) (g i : Nat) : Value := (w.cell? ⟨g, i, none⟩).getD undef
section
variable {w W W' : World} {g : Nat} {t : TypeId}
theorem KeepB.cell (h : KeepB w g t W) {b i : Nat} (hb : b < w.heap.size) (hn : b ≠ g) : W.cell? ⟨b, i, none⟩ = w.cell? ⟨b, i, none⟩ := World.cell?_of_block (h.same b hb hn)
theorem KeepB.below_of {w0 : World} (h0 : Below w0.heap.size w0 w) (h : KeepB w g t W) (hg : w0.heap.size ≤ g) : Below w0.heap.size w0 W := ⟨h.os.trans h0.os, h.tape.trans h0.tape, h.output.trans h0.output, Nat.le_trans h0.size h.size, fun k hk => (h.same k (Nat.lt_of_lt_of_le hk h0.size) (by omega)).trans (h0.block k hk)⟩
theorem KeepB.own (h : KeepB w g t W) : W.frozen? ⟨g, 0, none⟩ = false ∧ W.frozen? ⟨g, 1, none⟩ = false ∧ W.cell? ⟨g, 0, none⟩ = some (cellAt W g 0) ∧ W.cell? ⟨g, 1, none⟩ = some (cellAt W g 1) := by
  obtain ⟨x, y, hB⟩ := h.blk
  refine ⟨hB.frozen 0, hB.frozen 1, ?_, ?_⟩ <;> · unfold cellAt; rw [hB.cell]; rfl
theorem KeepB.drew (h : KeepB w g t W) : KeepB w g t W.drew := ⟨h.os, h.tape, h.output, h.size, h.same, h.blk⟩
theorem KeepB.below (h : KeepB w g t W) (hb : Below W.heap.size W W') : KeepB w g t W' := ⟨hb.os.trans h.os, hb.tape.trans h.tape, hb.output.trans h.output, Nat.le_trans h.size hb.size, fun b q1 q2 => (hb.block b (Nat.lt_of_lt_of_le q1 h.size)).trans (h.same b q1 q2), by
  obtain ⟨x, y, hB⟩ := h.blk
  exact ⟨x, y, hB.below hb hB.lt⟩⟩
theorem KeepB.set (h : KeepB w g t W) (u v : Value) : KeepB w g t ((W.setCell ⟨g, 0, none⟩ u).setCell ⟨g, 1, none⟩ v) := by
  obtain ⟨x, y, hB⟩ := h.blk
  refine ⟨h.os, h.tape, h.output, by simpa [World.setCell] using h.size, fun b q1 q2 => ?_, u, v, by simpa using (hB.set_ 0 u).set_ 1 v⟩
  exact (Below.heap_setCell _ _ _ b q2).trans ((Below.heap_setCell _ _ _ b q2).trans (h.same b q1 q2))
end
/-- What holds behind each operation of step's last region. -/
def FS (g p0 p1 : Nat) (vd vc : Value) (dr to_ sh frm c1 c2 er : Int) (d : Bool) (j : Nat) (s : Nat → Value) (w : World) : Prop :=
  match j with
  | 0 => s 23 = .agg #[.int .i64 to_, .int .i64 (c2 + sh)]
  | 1 => s 24 = .pointer (some ⟨p1, 1, none⟩)
  | 2 => s 25 = .int .i64 frm
  | 3 => s 26 = .pointer (some ⟨p0 + 1, 0, none⟩)
  | 4 => s 27 = .int .i64 c1
  | 5 => s 28 = .bool d
  | 6 => s 29 = .bool d
  | 7 => d = true → s 30 = .agg #[vd, vc, .int .u64 dr]
  | 8 => d = true → s 31 = .agg #[.int .i64 to_, .int .i64 (c2 + sh)]
  | 9 => d = true → s 32 = .int .i64 er
  | 10 => d = true → s 33 = .bool (er == 0)
  | 11 => s 34 = .bool (d && er == 0)
  | 12 => Blk w g 36 #[.int .i64 to_, .int .i64 (c2 + sh)]
  | 13 => s 7 = .bool (d && er == 0)
  | _ => True
def VS (j : Nat) : List Nat := match j with
  | 0 => [23] | 1 => [24] | 2 => [25] | 3 => [26] | 4 => [27] | 5 => [28] | 6 => [29] | 7 => [30] | 8 => [31] | 9 => [32] | 10 => [33] | 11 => [34] | 13 => [7] | _ => []
def ES (j : Nat) : Bool := j == 12 || j == 13
theorem FS_V (g p0 p1 : Nat) (vd vc : Value) (dr to_ sh frm c1 c2 er : Int) (d : Bool) (j : Nat) (s s' : Nat → Value) (w : World) (h : ∀ t, t ∈ VS j → s' t = s t) (hF : FS g p0 p1 vd vc dr to_ sh frm c1 c2 er d j s w) : FS g p0 p1 vd vc dr to_ sh frm c1 c2 er d j s' w := by
  match j with
  | 0 => unfold FS at hF ⊢; simp only at hF ⊢; rw [h 23 (by simp [VS])]; exact hF
  | 1 => unfold FS at hF ⊢; simp only at hF ⊢; rw [h 24 (by simp [VS])]; exact hF
  | 2 => unfold FS at hF ⊢; simp only at hF ⊢; rw [h 25 (by simp [VS])]; exact hF
  | 3 => unfold FS at hF ⊢; simp only at hF ⊢; rw [h 26 (by simp [VS])]; exact hF
  | 4 => unfold FS at hF ⊢; simp only at hF ⊢; rw [h 27 (by simp [VS])]; exact hF
  | 5 => unfold FS at hF ⊢; simp only at hF ⊢; rw [h 28 (by simp [VS])]; exact hF
  | 6 => unfold FS at hF ⊢; simp only at hF ⊢; rw [h 29 (by simp [VS])]; exact hF
  | 7 => unfold FS at hF ⊢; simp only at hF ⊢; rw [h 30 (by simp [VS])]; exact hF
  | 8 => unfold FS at hF ⊢; simp only at hF ⊢; rw [h 31 (by simp [VS])]; exact hF
  | 9 => unfold FS at hF ⊢; simp only at hF ⊢; rw [h 32 (by simp [VS])]; exact hF
  | 10 => unfold FS at hF ⊢; simp only at hF ⊢; rw [h 33 (by simp [VS])]; exact hF
  | 11 => unfold FS at hF ⊢; simp only at hF ⊢; rw [h 34 (by simp [VS])]; exact hF
  | 12 => exact hF
  | 13 => unfold FS at hF ⊢; simp only at hF ⊢; rw [h 7 (by simp [VS])]; exact hF
  | _ + 14 => trivial
theorem FS_below (g p0 p1 : Nat) (vd vc : Value) (dr to_ sh frm c1 c2 er : Int) (d : Bool) (j : Nat) (s : Nat → Value) (w w' : World) (hb : Below w.heap.size w w') (hF : FS g p0 p1 vd vc dr to_ sh frm c1 c2 er d j s w) : FS g p0 p1 vd vc dr to_ sh frm c1 c2 er d j s w' := by
  match j with
  | 0 => exact hF
  | 1 => exact hF
  | 2 => exact hF
  | 3 => exact hF
  | 4 => exact hF
  | 5 => exact hF
  | 6 => exact hF
  | 7 => exact hF
  | 8 => exact hF
  | 9 => exact hF
  | 10 => exact hF
  | 11 => exact hF
  | 12 => exact Blk.below hF hb (Blk.lt hF)
  | 13 => exact hF
  | _ + 14 => trivial
set_option maxRecDepth 100000 in
set_option maxHeartbeats 4000000 in
theorem cstep_any (a : Cou.Ac) (hok : Cou.Ok a) (vd vc : Value) (i : Nat) (hi : i < a.cps.length) (c : Cou.Ct) (hc : -1000 ≤ c.2 ∧ c.2 ≤ 1000) (dr : Int) (w : World) (F : Nat → Prop) (hA : AcAt F w vd vc a) :
    Calls Tryd.prog 40 #[.agg #[vd, vc, .int .u64 dr], .int .i64 i, .agg #[.int .i64 c.1, .int .i64 c.2]] w fun e w' => StpP a i c e ∧ Below w.heap.size w w' := by
  obtain ⟨Ad, cd, hvd, -, -⟩ := id hA.dv.open
  obtain ⟨Ac, cc, hvc, -, hac⟩ := id hA.cp.open
  subst hvd hvc
  obtain ⟨ad, rfl, hf, hfl⟩ := hac i hi
  have hx := hok.cp a.cps[i] (List.getElem_mem hi)
  have hFF := hA.inW
  have hz : Cou.stepF a i c = if a.cps[i].from_ = c.1 ∧ Cou.inB (a.divs.getD a.cps[i].to.toNat (0, -1)) (c.2 + a.cps[i].shift) = true then some (a.cps[i].to, c.2 + a.cps[i].shift) else none := by
    unfold Cou.stepF; rw [List.getElem?_eq_getElem hi]
  have hwr : Cou.wrongF a (a.cps[i].to, c.2 + a.cps[i].shift) = bif Cou.inB (a.divs.getD a.cps[i].to.toNat (0, -1)) (c.2 + a.cps[i].shift) then 0 else 23 := by
    unfold Cou.wrongF
    rw [if_neg (by dsimp only; omega)]
  have HCT := Lib.hid (fun W (hb : Below w.heap.size w W) x => ccontact_any a _ _ x dr W F (hA.onB hFF hb))
  have HZ := Lib.hid hz
  have HWR := Lib.hid hwr
  clear hac hz hwr
  have hsh : -127 ≤ a.cps[i].shift ∧ a.cps[i].shift ≤ 127 := ⟨hx.2.2.2.2.1, hx.2.2.2.2.2⟩
  clear hx
  have hiI : (i : Int) < a.cps.length := by omega
  generalize a.cps[i] = x at *
  obtain ⟨name, frm, to_, sh, th⟩ := x
  dsimp only at hfl HZ hsh HWR
  obtain ⟨c1, c2⟩ := c
  dsimp only at HZ hc HWR ⊢
  have q0 := hfl.f0 rfl
  have q1 := hfl.f1 rfl
  have q2 := hfl.f2 rfl
  have q3 := hfl.f3 rfl
  have q4 := hfl.f4 rfl
  have hfb : (ad.add (i * 5)).block < w.heap.size := by rw [block_of_add]; exact hFF _ hf
  clear hfl hA
  generalize a.divs.length = dl at *
  generalize a.cps.length = cl at *
  obtain ⟨w1, hw1⟩ : ∃ w1 : World, ((w.alloc (.cells #[.slice Ad dl cd, .slice (some ad) cl cc, .int .u64 dr] 33)).alloc (.cells #[.int .i64 c1, .int .i64 c2] 36)).alloc (.cells #[.int .i64 0, .int .i64 0] 36) = w1 := ⟨_, rfl⟩
  have e0 : w1.cell? ⟨w.heap.size, 0, none⟩ = some (.slice Ad dl cd) := by rw [← hw1]; simp [go_sem]
  have e1 : w1.cell? ⟨w.heap.size, 1, none⟩ = some (.slice (some ad) cl cc) := by rw [← hw1]; simp [go_sem]
  have e2 : w1.cell? ⟨w.heap.size, 2, none⟩ = some (.int .u64 dr) := by rw [← hw1]; simp [go_sem]
  have g0 : w1.cell? ⟨w.heap.size + 1, 0, none⟩ = some (.int .i64 c1) := by rw [← hw1]; simp [go_sem]
  have g1 : w1.cell? ⟨w.heap.size + 1, 1, none⟩ = some (.int .i64 c2) := by rw [← hw1]; simp [go_sem]
  have K0 : Blk w1 (w.heap.size + 2) 36 #[.int .i64 0, .int .i64 0] := by
    have := Blk.new ((w.alloc (.cells #[.slice Ad dl cd, .slice (some ad) cl cc, .int .u64 dr] 33)).alloc (.cells #[.int .i64 c1, .int .i64 c2] 36)) 36 #[.int .i64 0, .int .i64 0]
    rw [hw1] at this
    simpa using this
  have l1 : w.heap.size + 2 < w1.heap.size := by rw [← hw1]; simp
  have hB1 : Below w.heap.size w w1 := by rw [← hw1]; exact Ba (Ba (Ba (B0 w) _) _) _
  replace q0 := (hB1.cell (p := ad.add (i * 5)) hfb).trans q0
  replace q1 := (hB1.cell (p := ⟨(ad.add (i * 5)).block, (ad.add (i * 5)).off + 1, none⟩) hfb).trans q1
  replace q2 := (hB1.cell (p := ⟨(ad.add (i * 5)).block, (ad.add (i * 5)).off + 2, none⟩) hfb).trans q2
  replace q3 := (hB1.cell (p := ⟨(ad.add (i * 5)).block, (ad.add (i * 5)).off + 3, none⟩) hfb).trans q3
  replace q4 := (hB1.cell (p := ⟨(ad.add (i * 5)).block, (ad.add (i * 5)).off + 4, none⟩) hfb).trans q4
  have HW1 := Lib.hid hw1
  have HB1 := Lib.hid hB1
  have l2 : w.heap.size + 1 < w1.heap.size := by omega
  have l3 : w.heap.size < w1.heap.size := by omega
  have l4 : (ad.add (i * 5)).block < w1.heap.size := Nat.lt_of_lt_of_le hfb (Nat.le_of_lt l3)
  clear hB1 hw1 hFF hf hi
  obtain ⟨w2, hw2⟩ : ∃ w2 : World, (w1.alloc (.cells #[.string name, .int .i64 frm, .int .i64 to_, .int .i64 sh, .bool th] 46)).alloc (.cells #[.int .i64 to_, .int .i64 (c2 + sh)] 36) = w2 := ⟨_, rfl⟩
  have hb12 : Below w1.heap.size w1 w2 := by rw [← hw2]; exact Ba (Ba (B0 w1) _) _
  have x1 : w2.cell? ⟨w1.heap.size, 1, none⟩ = some (.int .i64 frm) := by rw [← hw2]; simp [go_sem]
  have y0 : w2.cell? ⟨w1.heap.size + 1, 0, none⟩ = some (.int .i64 to_) := by rw [← hw2]; simp [go_sem]
  have y1 : w2.cell? ⟨w1.heap.size + 1, 1, none⟩ = some (.int .i64 (c2 + sh)) := by rw [← hw2]; simp [go_sem]
  have l6 : w1.heap.size + 1 < w2.heap.size := by rw [← hw2]; simp
  have E0 := (Bc hb12 l3).trans e0
  have E1 := (Bc hb12 l3).trans e1
  have E2 := (Bc hb12 l3).trans e2
  have G0 := (Bc hb12 l2).trans g0
  have HK := Lib.hid (K0.below hb12 K0.lt)
  have HW2 := Lib.hid hw2
  have HB2 := Lib.hid (Bt HB1.out hb12)
  have l7 := hb12.size
  clear hb12 hw2 K0
  go_enter Tryd.func40, Tryd.ntmps40
  go_upto_region 1 with fail
  rw [HW1.out]
  go_upto_region 3 with fail
  rw [HW2.out]
  obtain ⟨p1, hp1⟩ : ∃ p1, w1.heap.size = p1 := ⟨_, rfl⟩
  obtain ⟨p0, hp0⟩ : ∃ p0, w.heap.size = p0 := ⟨_, rfl⟩
  have HP0 := Lib.hid hp0
  rw [hp1] at x1 y0 y1 l6 l7 ⊢
  rw [hp0] at E0 E1 E2 G0 l1 ⊢
  rw [hp1] at l1
  have HK2 : Hid (Blk w2 (p0 + 2) 36 #[.int .i64 0, .int .i64 0]) := Lib.hid (by rw [← hp0]; exact HK.out)
  have u0 : p0 < w2.heap.size := by omega
  have u1 : p0 + 1 < w2.heap.size := by omega
  have u2 : p0 + 1 + 1 < w2.heap.size := by omega
  have u3 : p1 < w2.heap.size := by omega
  clear q0 q1 q2 q3 q4 e0 e1 e2 g0 g1 l2 l3 l4 hp1 hp0 HK HW1 HW2 hfb l7
  have HKB : Hid (KeepB w2 (p0 + 1 + 1) 36 w2) := Lib.hid ⟨rfl, rfl, rfl, Nat.le_refl _, fun _ _ _ => rfl, _, _, HK2.out⟩
  have HCT3 := Lib.hid (fun W (hb : KeepB w2 (p0 + 1 + 1) 36 W) x => HCT.out W (KeepB.below_of HB2.out hb (by rw [HP0.out]; omega)) x)
  have HS := Lib.hid (fun W (hb : KeepB w2 (p0 + 1 + 1) 36 W) => (show (W.cell? ⟨p1 + 1, 0, none⟩ = some (.int .i64 to_) ∧ W.cell? ⟨p1 + 1, 1, none⟩ = some (.int .i64 (c2 + sh)) ∧ W.cell? ⟨p1, 1, none⟩ = some (.int .i64 frm) ∧ W.cell? ⟨p0 + 1, 0, none⟩ = some (.int .i64 c1)) ∧ (W.cell? ⟨p0, 0, none⟩ = some (.slice Ad dl cd) ∧ W.cell? ⟨p0, 1, none⟩ = some (.slice (some ad) cl cc) ∧ W.cell? ⟨p0, 2, none⟩ = some (.int .u64 dr)) ∧
    (W.frozen? ⟨p0 + 1 + 1, 0, none⟩ = false ∧ W.frozen? ⟨p0 + 1 + 1, 1, none⟩ = false ∧ W.cell? ⟨p0 + 1 + 1, 0, none⟩ = some (cellAt W (p0 + 1 + 1) 0) ∧ W.cell? ⟨p0 + 1 + 1, 1, none⟩ = some (cellAt W (p0 + 1 + 1) 1)) from
    ⟨⟨(hb.cell l6 (by omega)).trans y0, (hb.cell l6 (by omega)).trans y1, (hb.cell u3 (by omega)).trans x1, (hb.cell u1 (by omega)).trans G0⟩, ⟨(hb.cell u0 (by omega)).trans E0, (hb.cell u0 (by omega)).trans E1, (hb.cell u0 (by omega)).trans E2⟩, hb.own⟩))
  have hBB : ∀ (L : Nat → Bool) (i : Nat) (W W' : World), Below W.heap.size W W' → KeepB w2 (p0 + 1 + 1) 36 W → KeepB w2 (p0 + 1 + 1) 36 W' := fun _ _ _ _ hb h => h.below hb
  clear x1 y0 y1 E0 E1 E2 G0
  obtain ⟨er, her⟩ : ∃ er, Cou.wrongF a (to_, c2 + sh) = er := ⟨_, rfl⟩
  rw [her] at HWR
  have HC := Lib.hid (fun (W : World) (hb : KeepB w2 (p0 + 1 + 1) 36 W) => HCT3.out W hb (to_, c2 + sh))
  rw [her] at HC
  clear her
  by_cases hfc : frm = c1
  · have d1 : (frm == c1) = true := by simp [hfc]
    have HE : Hid (StpP a i (c1, c2) (.returned (.tuple #[.agg #[.int .i64 to_, .int .i64 (c2 + sh)], .bool (true && er == 0)]))) := Lib.hid (by
      refine ⟨(to_, c2 + sh), _, rfl, ?_, fun u hu => ?_⟩
      · rw [HZ.out, HWR.out]
        cases Cou.inB (a.divs.getD to_.toNat (0, -1)) (c2 + sh) <;> simp [hfc]
      · rw [HZ.out] at hu
        split at hu
        · injection hu
        · cases hu)
    clear HZ HWR hfc
    refine region_blocks (by kernel_rfl) ?_
    refine from_lawW 14 ES (fun _ W => KeepB w2 (p0 + 1 + 1) 36 W) (FS (p0 + 1 + 1) p0 p1 (.slice Ad dl cd) (.slice (some ad) cl cc) dr to_ sh frm c1 c2 er true) VS (by kernel_rfl) rfl (FS_V _ _ _ _ _ _ _ _ _ _ _ _ _) (by kernel_rfl) (by kernel_rfl) (HKB.out.drew) ⟨?_, ?_, ?_, ?_, ?_, ?_, ?_, ?_, ?_, ?_, ?_, ?_, ?_, ?_, trivial⟩ ?_
    · refine OpFactW.value rfl (FS_below _ _ _ _ _ _ _ _ _ _ _ _ _) hBB fun L a w2 hl hf D hb => ?_
      have h0 : sl a 9 = .pointer (some ⟨p1 + 1, 0, none⟩) := hf 9 (by kernel_rfl)
      have es := HS.out w2 hb
      refine ⟨.agg #[.int .i64 to_, .int .i64 (c2 + sh)], w2, ?_, B0 _, fun s _ h => h 23 rfl⟩
      unfold sl at h0
      simp at h0
      simp [go_sem, h0, es]
    · refine OpFactW.value rfl (FS_below _ _ _ _ _ _ _ _ _ _ _ _ _) hBB fun L a w2 hl hf D hb => ?_
      have h0 : sl a 8 = .pointer (some ⟨p1, 0, none⟩) := hf 8 (by kernel_rfl)
      refine ⟨.pointer (some ⟨p1, 1, none⟩), w2, ?_, B0 _, fun s _ h => h 24 rfl⟩
      unfold sl at h0
      simp at h0
      simp [go_sem, h0]
    · refine OpFactW.value rfl (FS_below _ _ _ _ _ _ _ _ _ _ _ _ _) hBB fun L a w2 hl hf D hb => ?_
      have h0 : sl a 24 = .pointer (some ⟨p1, 1, none⟩) := D 1 (by kernel_rfl)
      have es := HS.out w2 hb
      refine ⟨.int .i64 frm, w2, ?_, B0 _, fun s _ h => h 25 rfl⟩
      unfold sl at h0
      simp at h0
      simp [go_sem, h0, es]
    · refine OpFactW.value rfl (FS_below _ _ _ _ _ _ _ _ _ _ _ _ _) hBB fun L a w2 hl hf D hb => ?_
      have h0 : sl a 5 = .pointer (some ⟨p0 + 1, 0, none⟩) := hf 5 (by kernel_rfl)
      refine ⟨.pointer (some ⟨p0 + 1, 0, none⟩), w2, ?_, B0 _, fun s _ h => h 26 rfl⟩
      unfold sl at h0
      simp at h0
      simp [go_sem, h0]
    · refine OpFactW.value rfl (FS_below _ _ _ _ _ _ _ _ _ _ _ _ _) hBB fun L a w2 hl hf D hb => ?_
      have h0 : sl a 26 = .pointer (some ⟨p0 + 1, 0, none⟩) := D 3 (by kernel_rfl)
      have es := HS.out w2 hb
      refine ⟨.int .i64 c1, w2, ?_, B0 _, fun s _ h => h 27 rfl⟩
      unfold sl at h0
      simp at h0
      simp [go_sem, h0, es]
    · refine OpFactW.value rfl (FS_below _ _ _ _ _ _ _ _ _ _ _ _ _) hBB fun L a w2 hl hf D hb => ?_
      have h1 : sl a 25 = .int .i64 frm := D 2 (by kernel_rfl)
      have h2 : sl a 27 = .int .i64 c1 := D 4 (by kernel_rfl)
      refine ⟨.bool true, w2, ?_, B0 _, fun s _ h => h 28 rfl⟩
      unfold sl at h1 h2
      simp at h1 h2
      simp [go_sem, h1, h2, d1]
    · refine OpFactW.value rfl (FS_below _ _ _ _ _ _ _ _ _ _ _ _ _) hBB fun L a w2 hl hf D hb => ?_
      have h1 : sl a 28 = .bool true := D 5 (by kernel_rfl)
      refine ⟨.bool true, w2, ?_, B0 _, fun s _ h => h 29 rfl⟩
      unfold sl at h1
      simp at h1
      simp [go_sem, h1]
    · refine OpFactW.on (g := 6) (d := 29) rfl rfl (fun s w h => h) (by kernel_rfl) fun L a w2 hl hf D hb => OpFactW.wp_value (L := L) (FS_below _ _ _ _ _ _ _ _ _ _ _ _ _) hBB hb ?_
      have h0 : sl a 3 = .pointer (some ⟨p0, 0, none⟩) := hf 3 (by kernel_rfl)
      have es := HS.out w2 hb
      refine ⟨.agg #[.slice Ad dl cd, .slice (some ad) cl cc, .int .u64 dr], w2, ?_, B0 _, fun s _ h _ => h 30 rfl⟩
      unfold sl at h0
      simp at h0
      simp [go_sem, h0, es]
    · refine OpFactW.on (g := 6) (d := 29) rfl rfl (fun s w h => h) (by kernel_rfl) fun L a w2 hl hf D hb => OpFactW.wp_value (L := L) (FS_below _ _ _ _ _ _ _ _ _ _ _ _ _) hBB hb ?_
      have h0 : sl a 9 = .pointer (some ⟨p1 + 1, 0, none⟩) := hf 9 (by kernel_rfl)
      have es := HS.out w2 hb
      refine ⟨.agg #[.int .i64 to_, .int .i64 (c2 + sh)], w2, ?_, B0 _, fun s _ h _ => h 31 rfl⟩
      unfold sl at h0
      simp at h0
      simp [go_sem, h0, es]
    · refine OpFactW.on (g := 6) (d := 29) rfl rfl (fun s w h => h) (by kernel_rfl) fun L a w2 hl hf D hb => OpFactW.wp_call (L := L) (FS_below _ _ _ _ _ _ _ _ _ _ _ _ _) hBB hb ?_
      have h1 : sl a 30 = .agg #[.slice Ad dl cd, .slice (some ad) cl cc, .int .u64 dr] := (show true = true → sl a 30 = .agg #[.slice Ad dl cd, .slice (some ad) cl cc, .int .u64 dr] from D 7 (by kernel_rfl)) rfl
      have h2 : sl a 31 = .agg #[.int .i64 to_, .int .i64 (c2 + sh)] := (show true = true → sl a 31 = .agg #[.int .i64 to_, .int .i64 (c2 + sh)] from D 8 (by kernel_rfl)) rfl
      refine ⟨60, #[.agg #[.slice Ad dl cd, .slice (some ad) cl cc, .int .u64 dr], .agg #[.int .i64 to_, .int .i64 (c2 + sh)]], ?_, (HC.out w2 hb).mono ?_⟩
      · unfold sl at h1 h2
        simp at h1 h2
        simp [go_sem, h1, h2]
      · rintro e w' ⟨rfl, hb3⟩
        exact ⟨_, rfl, hb3, fun s _ h _ => h 32 rfl⟩
    · refine OpFactW.on (g := 6) (d := 29) rfl rfl (fun s w h => h) (by kernel_rfl) fun L a w2 hl hf D hb => OpFactW.wp_value (L := L) (FS_below _ _ _ _ _ _ _ _ _ _ _ _ _) hBB hb ?_
      have h1 : sl a 32 = .int .i64 er := (show true = true → sl a 32 = .int .i64 er from D 9 (by kernel_rfl)) rfl
      refine ⟨.bool (er == 0), w2, ?_, B0 _, fun s _ h _ => h 33 rfl⟩
      unfold sl at h1
      simp at h1
      simp [go_sem, h1]
    · refine OpFactW.value rfl (FS_below _ _ _ _ _ _ _ _ _ _ _ _ _) hBB fun L a w2 hl hf D hb => ?_
      have h1 : sl a 29 = .bool true := D 6 (by kernel_rfl)
      have h2 : sl a 33 = .bool (er == 0) := (show true = true → sl a 33 = .bool (er == 0) from D 10 (by kernel_rfl)) rfl
      refine ⟨.bool (er == 0), w2, ?_, B0 _, fun s _ h => h 34 rfl⟩
      unfold sl at h1 h2
      simp at h1 h2
      simp [go_sem, h1, h2]
    · refine OpFactW.skip rfl fun L a w2 hl hf D hb => ?_
      have h0 : sl a 6 = .pointer (some ⟨p0 + 1 + 1, 0, none⟩) := hf 6 (by kernel_rfl)
      have h1 : sl a 23 = .agg #[.int .i64 to_, .int .i64 (c2 + sh)] := D 0 (by kernel_rfl)
      have es := HS.out w2 hb
      obtain ⟨x, y, hK⟩ := hb.blk
      refine ⟨(w2.setCell ⟨p0 + 1 + 1, 0, none⟩ (.int .i64 to_)).setCell ⟨p0 + 1 + 1, 1, none⟩ (.int .i64 (c2 + sh)), ?_, hb.set _ _, fun j hj hE hF => ?_, fun s _ => show Blk _ (p0 + 1 + 1) 36 #[.int .i64 to_, .int .i64 (c2 + sh)] from by simpa using (hK.set_ 0 (.int .i64 to_)).set_ 1 (.int .i64 (c2 + sh))⟩
      · unfold sl at h0 h1
        simp at h0 h1
        simp [go_sem, h0, h1, es]
      · match j with
        | 0 => exact hF
        | 1 => exact hF
        | 2 => exact hF
        | 3 => exact hF
        | 4 => exact hF
        | 5 => exact hF
        | 6 => exact hF
        | 7 => exact hF
        | 8 => exact hF
        | 9 => exact hF
        | 10 => exact hF
        | 11 => exact hF
        | 12 => exact absurd rfl hj
        | 13 => exact hF
        | _ + 14 => trivial
    · refine OpFactW.value rfl (FS_below _ _ _ _ _ _ _ _ _ _ _ _ _) hBB fun L a w2 hl hf D hb => ?_
      have h1 : sl a 34 = .bool (true && er == 0) := D 11 (by kernel_rfl)
      refine ⟨.bool (true && er == 0), w2, ?_, B0 _, fun s _ h => h 7 rfl⟩
      unfold sl at h1
      simp at h1
      simp [go_sem, h1]
    · intro L y w8 hb8 hF8
      have h12 : Blk w8 (p0 + 1 + 1) 36 #[.int .i64 to_, .int .i64 (c2 + sh)] := hF8 12 (by decide) rfl
      have h7 : y 7 = .bool (true && er == 0) := hF8 13 (by decide) rfl
      have m0 := h12.cell 0
      have m1 := h12.cell 1
      simp only [List.getElem?_toArray, List.getElem?_cons_zero, List.getElem?_cons_succ] at m0 m1
      have HB8 : Hid (Below w.heap.size w w8) := Lib.hid (KeepB.below_of HB2.out hb8 (by rw [← HP0.out]; omega))
      clear hF8 h12 hb8
      rw [aft13 (d0 := 23) (d1 := 24) (d2 := 25) (d3 := 26) (d4 := 27) (d5 := 28) (d6 := 29) (d7 := 30) (d8 := 31) (d9 := 32) (d10 := 33) (d11 := 34) (d12 := 7) (by kernel_rfl) rfl]
      rw [h7]
      simp only [List.set_cons_succ, List.set_cons_zero]
      refine from_end rfl ?_
      go_wp2_with fail
      refine bodyPost_ret (v := .tuple #[.agg #[.int .i64 to_, .int .i64 (c2 + sh)], .bool (true && er == 0)]) ?_ rfl ⟨HE.out, HB8.out⟩
      clear HE HB2 HB8
      simp [results, Tryd.f40, go_sem, m0, m1]
  · have d1 : (frm == c1) = false := by simp [hfc]
    have HE : Hid (StpP a i (c1, c2) (.returned (.tuple #[.agg #[.int .i64 to_, .int .i64 (c2 + sh)], .bool (false && er == 0)]))) := Lib.hid (by
      refine ⟨(to_, c2 + sh), _, rfl, ?_, fun u hu => ?_⟩
      · rw [HZ.out, if_neg (fun h => hfc h.1)]; rfl
      · rw [HZ.out, if_neg (fun h => hfc h.1)] at hu; cases hu)
    clear HZ HWR hfc
    refine region_blocks (by kernel_rfl) ?_
    refine from_lawW 14 ES (fun _ W => KeepB w2 (p0 + 1 + 1) 36 W) (FS (p0 + 1 + 1) p0 p1 (.slice Ad dl cd) (.slice (some ad) cl cc) dr to_ sh frm c1 c2 er false) VS (by kernel_rfl) rfl (FS_V _ _ _ _ _ _ _ _ _ _ _ _ _) (by kernel_rfl) (by kernel_rfl) (HKB.out.drew) ⟨?_, ?_, ?_, ?_, ?_, ?_, ?_, ?_, ?_, ?_, ?_, ?_, ?_, ?_, trivial⟩ ?_
    · refine OpFactW.value rfl (FS_below _ _ _ _ _ _ _ _ _ _ _ _ _) hBB fun L a w2 hl hf D hb => ?_
      have h0 : sl a 9 = .pointer (some ⟨p1 + 1, 0, none⟩) := hf 9 (by kernel_rfl)
      have es := HS.out w2 hb
      refine ⟨.agg #[.int .i64 to_, .int .i64 (c2 + sh)], w2, ?_, B0 _, fun s _ h => h 23 rfl⟩
      unfold sl at h0
      simp at h0
      simp [go_sem, h0, es]
    · refine OpFactW.value rfl (FS_below _ _ _ _ _ _ _ _ _ _ _ _ _) hBB fun L a w2 hl hf D hb => ?_
      have h0 : sl a 8 = .pointer (some ⟨p1, 0, none⟩) := hf 8 (by kernel_rfl)
      refine ⟨.pointer (some ⟨p1, 1, none⟩), w2, ?_, B0 _, fun s _ h => h 24 rfl⟩
      unfold sl at h0
      simp at h0
      simp [go_sem, h0]
    · refine OpFactW.value rfl (FS_below _ _ _ _ _ _ _ _ _ _ _ _ _) hBB fun L a w2 hl hf D hb => ?_
      have h0 : sl a 24 = .pointer (some ⟨p1, 1, none⟩) := D 1 (by kernel_rfl)
      have es := HS.out w2 hb
      refine ⟨.int .i64 frm, w2, ?_, B0 _, fun s _ h => h 25 rfl⟩
      unfold sl at h0
      simp at h0
      simp [go_sem, h0, es]
    · refine OpFactW.value rfl (FS_below _ _ _ _ _ _ _ _ _ _ _ _ _) hBB fun L a w2 hl hf D hb => ?_
      have h0 : sl a 5 = .pointer (some ⟨p0 + 1, 0, none⟩) := hf 5 (by kernel_rfl)
      refine ⟨.pointer (some ⟨p0 + 1, 0, none⟩), w2, ?_, B0 _, fun s _ h => h 26 rfl⟩
      unfold sl at h0
      simp at h0
      simp [go_sem, h0]
    · refine OpFactW.value rfl (FS_below _ _ _ _ _ _ _ _ _ _ _ _ _) hBB fun L a w2 hl hf D hb => ?_
      have h0 : sl a 26 = .pointer (some ⟨p0 + 1, 0, none⟩) := D 3 (by kernel_rfl)
      have es := HS.out w2 hb
      refine ⟨.int .i64 c1, w2, ?_, B0 _, fun s _ h => h 27 rfl⟩
      unfold sl at h0
      simp at h0
      simp [go_sem, h0, es]
    · refine OpFactW.value rfl (FS_below _ _ _ _ _ _ _ _ _ _ _ _ _) hBB fun L a w2 hl hf D hb => ?_
      have h1 : sl a 25 = .int .i64 frm := D 2 (by kernel_rfl)
      have h2 : sl a 27 = .int .i64 c1 := D 4 (by kernel_rfl)
      refine ⟨.bool false, w2, ?_, B0 _, fun s _ h => h 28 rfl⟩
      unfold sl at h1 h2
      simp at h1 h2
      simp [go_sem, h1, h2, d1]
    · refine OpFactW.value rfl (FS_below _ _ _ _ _ _ _ _ _ _ _ _ _) hBB fun L a w2 hl hf D hb => ?_
      have h1 : sl a 28 = .bool false := D 5 (by kernel_rfl)
      refine ⟨.bool false, w2, ?_, B0 _, fun s _ h => h 29 rfl⟩
      unfold sl at h1
      simp at h1
      simp [go_sem, h1]
    · refine OpFactW.off (g := 6) (d := 29) (c := false) rfl rfl (by simp) (by decide) (fun _ _ _ h => h) (fun s w h => h) (by kernel_rfl) (fun s w h => absurd h (by decide))
    · refine OpFactW.off (g := 6) (d := 29) (c := false) rfl rfl (by simp) (by decide) (fun _ _ _ h => h) (fun s w h => h) (by kernel_rfl) (fun s w h => absurd h (by decide))
    · refine OpFactW.off (g := 6) (d := 29) (c := false) rfl rfl (by simp) (by decide) (fun _ _ _ h => h) (fun s w h => h) (by kernel_rfl) (fun s w h => absurd h (by decide))
    · refine OpFactW.off (g := 6) (d := 29) (c := false) rfl rfl (by simp) (by decide) (fun _ _ _ h => h) (fun s w h => h) (by kernel_rfl) (fun s w h => absurd h (by decide))
    · refine OpFactW.value rfl (FS_below _ _ _ _ _ _ _ _ _ _ _ _ _) hBB fun L a w2 hl hf D hb => ?_
      have h1 : sl a 29 = .bool false := D 6 (by kernel_rfl)
      refine ⟨.bool false, w2, ?_, B0 _, fun s _ h => h 34 rfl⟩
      unfold sl at h1
      simp at h1
      simp [go_sem, h1]
    · refine OpFactW.skip rfl fun L a w2 hl hf D hb => ?_
      have h0 : sl a 6 = .pointer (some ⟨p0 + 1 + 1, 0, none⟩) := hf 6 (by kernel_rfl)
      have h1 : sl a 23 = .agg #[.int .i64 to_, .int .i64 (c2 + sh)] := D 0 (by kernel_rfl)
      have es := HS.out w2 hb
      obtain ⟨x, y, hK⟩ := hb.blk
      refine ⟨(w2.setCell ⟨p0 + 1 + 1, 0, none⟩ (.int .i64 to_)).setCell ⟨p0 + 1 + 1, 1, none⟩ (.int .i64 (c2 + sh)), ?_, hb.set _ _, fun j hj hE hF => ?_, fun s _ => show Blk _ (p0 + 1 + 1) 36 #[.int .i64 to_, .int .i64 (c2 + sh)] from by simpa using (hK.set_ 0 (.int .i64 to_)).set_ 1 (.int .i64 (c2 + sh))⟩
      · unfold sl at h0 h1
        simp at h0 h1
        simp [go_sem, h0, h1, es]
      · match j with
        | 0 => exact hF
        | 1 => exact hF
        | 2 => exact hF
        | 3 => exact hF
        | 4 => exact hF
        | 5 => exact hF
        | 6 => exact hF
        | 7 => exact hF
        | 8 => exact hF
        | 9 => exact hF
        | 10 => exact hF
        | 11 => exact hF
        | 12 => exact absurd rfl hj
        | 13 => exact hF
        | _ + 14 => trivial
    · refine OpFactW.value rfl (FS_below _ _ _ _ _ _ _ _ _ _ _ _ _) hBB fun L a w2 hl hf D hb => ?_
      have h1 : sl a 34 = .bool (false && er == 0) := D 11 (by kernel_rfl)
      refine ⟨.bool (false && er == 0), w2, ?_, B0 _, fun s _ h => h 7 rfl⟩
      unfold sl at h1
      simp at h1
      simp [go_sem, h1]
    · intro L y w8 hb8 hF8
      have h12 : Blk w8 (p0 + 1 + 1) 36 #[.int .i64 to_, .int .i64 (c2 + sh)] := hF8 12 (by decide) rfl
      have h7 : y 7 = .bool (false && er == 0) := hF8 13 (by decide) rfl
      have m0 := h12.cell 0
      have m1 := h12.cell 1
      simp only [List.getElem?_toArray, List.getElem?_cons_zero, List.getElem?_cons_succ] at m0 m1
      have HB8 : Hid (Below w.heap.size w w8) := Lib.hid (KeepB.below_of HB2.out hb8 (by rw [← HP0.out]; omega))
      clear hF8 h12 hb8
      rw [aft13 (d0 := 23) (d1 := 24) (d2 := 25) (d3 := 26) (d4 := 27) (d5 := 28) (d6 := 29) (d7 := 30) (d8 := 31) (d9 := 32) (d10 := 33) (d11 := 34) (d12 := 7) (by kernel_rfl) rfl]
      rw [h7]
      simp only [List.set_cons_succ, List.set_cons_zero]
      refine from_end rfl ?_
      go_wp2_with fail
      refine bodyPost_ret (v := .tuple #[.agg #[.int .i64 to_, .int .i64 (c2 + sh)], .bool (false && er == 0)]) ?_ rfl ⟨HE.out, HB8.out⟩
      clear HE HB2 HB8
      simp [results, Tryd.f40, go_sem, m0, m1]
end Go.Proofs.YtahlfndlkfoikaaDoor
namespace Go.Proofs.YtahlfndlkfoikaaDoor
open Go Go.RowKit Go.Shelf
theorem cdrawn_any (vd vc : Value) (d : Nat) (hd : d < 2 ^ 64) (i : Nat) (hi : i < 64) (w : World) :
    Calls Tryd.prog 39 #[.agg #[vd, vc, .int .u64 d], .int .i64 i] w fun e w' => e = .returned (.bool (d.testBit i)) ∧ Below w.heap.size w w' := by
  have h3 : ((i : Nat) : Int) % 18446744073709551616 = i := by omega
  have h4 : min i 64 = i := by omega
  have hsh := shr_of d i (by omega)
  have hle : d >>> i ≤ d := by rw [Nat.shiftRight_eq_div_pow]; exact Nat.div_le_self _ _
  have hand : bits .and .u64 ((d >>> i : Nat) : Int) 1 = ((d >>> i &&& 1 : Nat) : Int) := Hit.u64_and (d >>> i) 1 (by omega) (by omega)
  have hbit := bit_of d i
  generalize d >>> i &&& 1 = vb at *
  generalize d >>> i = vs at *
  have HB : Hid (((vb : Int) == 1) = d.testBit i) := Lib.hid hbit
  clear hle hbit
  go_enter Tryd.func39, Tryd.ntmps39
  go_wp2
  go_ret
  exact ⟨by first | rfl | (rw [HB.out]; rfl), Ba (B0 w) _⟩
end Go.Proofs.YtahlfndlkfoikaaDoor
namespace Go.Proofs.YtahlfndlkfoikaaDoor
open Go Go.RowKit
section
variable {P : Program} {ops : Array Oper} {Q : Exit → Act → World → Prop}
/-- Fact j has another consumer than i, and i does not wait for it. -/
def consM (ops : Array Oper) (i j : Nat) : Bool := (List.range ops.size).any fun k => match ops[k]? with
  | some o => k != i && !(match ops[i]? with | some oi => oi.after.any fun e => Region.binds .any e && e.on == k | none => false) && o.after.any fun e => Region.binds .any e && e.on == j
  | none => false
theorem any_factsM {a0 : Act} {w0 : World} (E : Nat → Bool) (Base : World → Prop) (Fact : Nat → (Nat → Value) → World → Prop) (V : Nat → List Nat)
    (hV : ∀ j s s' w, (∀ t, t ∈ V j → s' t = s t) → Fact j s w → Fact j s' w)
    (hap : FactsApart ops V = true) (hso : FactsSound ops a0.tmps.size = true) (h0 : Base w0)
    (hop : ∀ (i : Nat) (o : Oper), ops[i]? = some o → ∀ (a : Act) (w : World), (∀ t, (∀ (k : Nat) ok, ops[k]? = some ok → ok.dst ≠ some t) → sl a t = sl a0 t) → (∀ k, (o.after.any fun e => Region.binds .any e && e.on == k) = true → Fact k (sl a) w) → Base w →
      o.wp P a w (fun a' w' => ∃ v, a' = a.put o.dst v ∧ Base w' ∧ (∀ j, j ≠ i → (E j = true ∨ consM ops i j = true) → Fact j (sl a) w → Fact j (sl a) w') ∧ ∀ s : Nat → Value, (∀ t, o.dst ≠ some t → s t = sl a t) → (∀ d, o.dst = some d → s d = v) → Fact i s w') Q)
    (hend : ∀ (a : Act) (w : World), a.tmps.size = a0.tmps.size → a.defers = a0.defers → (∀ t, (∀ (k : Nat) ok, ops[k]? = some ok → ok.dst ≠ some t) → sl a t = sl a0 t) → Base w → (∀ i, i < ops.size → E i = true → Fact i (sl a) w) → Q .normal a w) :
    wpAny P .any ops Q ops.size (Array.replicate ops.size false) a0 w0 := by
  have hso' : ∀ (i : Nat) (o : Oper), ops[i]? = some o → o.guard = none ∧ (∀ d, o.dst = some d → d < a0.tmps.size) ∧ ∀ e ∈ o.after, Region.binds .any e = true → e.on < i := by
    intro i o ho
    have hi : i < ops.size := (Array.getElem?_eq_some_iff.1 ho).1
    unfold FactsSound at hso
    rw [List.all_eq_true] at hso
    have h := hso i (List.mem_range.2 hi)
    rw [ho] at h
    simp only [Bool.and_eq_true, Option.isNone_iff_eq_none] at h
    obtain ⟨⟨h1, h2⟩, h3⟩ := h
    refine ⟨h1, fun d hd => by rw [hd] at h2; simpa using h2, fun e he hb => ?_⟩
    have := Array.all_eq_true_iff_forall_mem.1 h3 e he
    simpa [hb] using this
  have hap' : ∀ (i j : Nat) (oi oj : Oper) (d : Nat), ops[i]? = some oi → ops[j]? = some oj → oi.dst = some d → d ∈ V j → i = j ∨ ∃ e ∈ oj.after, Region.binds .any e = true ∧ e.on = i := by
    intro i j oi oj d hi hj hd hv
    have h1 : i < ops.size := (Array.getElem?_eq_some_iff.1 hi).1
    have h2 : j < ops.size := (Array.getElem?_eq_some_iff.1 hj).1
    unfold FactsApart at hap
    have h := List.all_eq_true.1 (List.all_eq_true.1 hap i (List.mem_range.2 h1)) j (List.mem_range.2 h2)
    rw [hi, hj] at h
    simp only [hd, Bool.or_eq_true, Bool.not_eq_true', beq_iff_eq] at h
    rcases h with (h | h) | h
    · have : (V j).contains d = true := by simpa using hv
      rw [h] at this; cases this
    · exact .inl h
    · obtain ⟨q, hq, h⟩ := Array.any_eq_true.1 h
      simp only [Bool.and_eq_true, beq_iff_eq] at h
      exact .inr ⟨_, Array.getElem_mem hq, h⟩
  refine any_inv0 (fun L a w => a.tmps.size = a0.tmps.size ∧ a.defers = a0.defers ∧ (∀ t, (∀ (k : Nat) ok, ops[k]? = some ok → ok.dst ≠ some t) → sl a t = sl a0 t) ∧ Base w ∧ (∀ i, i < ops.size → L i = true → (E i = true ∨ ∃ k, L k = false ∧ ∃ ok, ops[k]? = some ok ∧ ∃ e ∈ ok.after, Region.binds .any e = true ∧ e.on = i) → Fact i (sl a) w) ∧
    (∀ (i : Nat) (o : Oper), ops[i]? = some o → L i = true → ∀ e ∈ o.after, Region.binds .any e = true → L e.on = true)) (fun i o ho e he hb => (hso' i o ho).2.2 e he hb) ⟨rfl, rfl, fun _ _ => rfl, h0, fun _ _ h _ => absurd h (by simp), fun _ _ _ h => absurd h (by simp)⟩ ?_ ?_
  · intro L a w i o ⟨hz, hdf, hf, hb, hF, hcl⟩ ho hli hdeps
    have hi : i < ops.size := (Array.getElem?_eq_some_iff.1 ho).1
    unfold wpOp
    rw [ho]
    have hwant : Region.wanted o (yielded ops a.tmps) = true := by simp [Region.wanted, (hso' i o ho).1]
    simp only [hwant, if_true]
    refine .inl (Oper.wp_mono ?_ (hop i o ho a w hf (fun k hk => ?_) hb))
    · rintro a' w' ⟨v, rfl, hb', hst, hFi⟩
      have hsame : ∀ d, o.dst = some d → sl (a.put o.dst v) d = v := fun d hd => by
        rw [hd]; exact sl_put_same (by rw [hz]; exact (hso' i o ho).2.1 d hd)
      have hother : ∀ t, o.dst ≠ some t → sl (a.put o.dst v) t = sl a t := fun t ht => by
        cases hd : o.dst with
        | none => rfl
        | some d => exact sl_put_other (fun e => ht (by rw [hd, e]))
      refine ⟨?_, ?_, fun t ht => (hother t (ht i o ho)).trans (hf t ht), hb', fun j hj hlj hlive => ?_, fun j oj hoj hlj e he hbe => ?_⟩
      · rw [← hz]; cases o.dst <;> simp [Act.put]
      · rw [← hdf]; cases o.dst <;> simp [Act.put]
      · by_cases hji : j = i
        · subst hji
          exact hFi _ hother hsame
        · have hlj' : L j = true := by simpa [hji] using hlj
          have hlive' : E j = true ∨ ∃ k, k ≠ i ∧ L k = false ∧ ∃ ok, ops[k]? = some ok ∧ ∃ e ∈ ok.after, Region.binds .any e = true ∧ e.on = j := by
            rcases hlive with h | ⟨k, hk, h⟩
            · exact .inl h
            · simp only [Bool.or_eq_false_iff, beq_eq_false_iff_ne] at hk
              exact .inr ⟨k, hk.2, hk.1, h⟩
          have hcons : E j = true ∨ consM ops i j = true := by
            rcases hlive' with h | ⟨k, h1, hlk, ok, h2, e, h3, h4, h5⟩
            · exact .inl h
            · refine .inr ?_
              unfold consM
              refine List.any_eq_true.2 ⟨k, List.mem_range.2 (Array.getElem?_eq_some_iff.1 h2).1, ?_⟩
              rw [h2, ho]
              simp only [Bool.and_eq_true, bne_iff_ne, ne_eq, Bool.not_eq_true']
              refine ⟨⟨h1, Bool.eq_false_iff.2 fun hw => ?_⟩, Array.any_eq_true'.2 ⟨e, h3, ?_⟩⟩
              · obtain ⟨q, hq, hqe⟩ := Array.any_eq_true.1 hw
                simp only [Bool.and_eq_true, beq_iff_eq] at hqe
                have := hdeps _ (Array.getElem_mem hq) hqe.1
                rw [hqe.2, hlk] at this
                cases this
              · simp [h4, h5]
          refine hV j (sl a) _ w' (fun t ht => hother t fun hd => ?_) (hst j hji hcons (hF j hj hlj' (hlive'.imp id fun ⟨k, _, h⟩ => ⟨k, h⟩)))
          obtain ⟨oj, hoj⟩ : ∃ oj, ops[j]? = some oj := ⟨ops[j], Array.getElem?_eq_getElem hj⟩
          rcases hap' i j o oj t ho hoj hd ht with h | ⟨e, he, hbe, hon⟩
          · exact hji h.symm
          · have := hcl j oj hoj hlj' e he hbe
            rw [hon, hli] at this; cases this
      · by_cases hji : j = i
        · subst hji
          rw [ho] at hoj
          injection hoj with hoj
          subst hoj
          simp [hdeps e he hbe]
        · have hlj' : L j = true := by simpa [hji] using hlj
          simp [hcl j oj hoj hlj' e he hbe]
    · obtain ⟨q, hq, h⟩ := Array.any_eq_true.1 hk
      simp only [Bool.and_eq_true, beq_iff_eq] at h
      have hlt := (hso' i o ho).2.2 _ (Array.getElem_mem hq) h.1
      rw [← h.2]
      exact hF _ (by omega) (hdeps _ (Array.getElem_mem hq) h.1) (.inr ⟨i, hli, o, ho, _, Array.getElem_mem hq, h.1, rfl⟩)
  · intro L a w ⟨hz, hdf, hf, hb, hF, _⟩ hall
    exact hend a w hz hdf hf hb fun i hi he => hF i hi (hall i hi) (.inl he)

/-- What is to be shown of one operation: from the facts that it waits for, it yields a value, keeps the others' facts, and has its own. -/
def OpFactM (P : Program) (Q : Exit → Act → World → Prop) (a0 : Act) (l : List Oper) (E : Nat → Bool) (Base : World → Prop) (Fact : Nat → (Nat → Value) → World → Prop) (i : Nat) (o : Oper) : Prop :=
  ∀ (a : Act) (w : World), (∀ t, (l.all fun ok => ok.dst != some t) = true → sl a t = sl a0 t) → (∀ k, (o.after.any fun e => Region.binds .any e && e.on == k) = true → Fact k (sl a) w) → Base w →
    o.wp P a w (fun a' w' => ∃ v, a' = a.put o.dst v ∧ Base w' ∧ (∀ j, j ≠ i → (E j = true ∨ consM l.toArray i j = true) → Fact j (sl a) w → Fact j (sl a) w') ∧ ∀ s : Nat → Value, (∀ t, o.dst ≠ some t → s t = sl a t) → (∀ d, o.dst = some d → s d = v) → Fact i s w') Q
theorem any_eachM {a0 : Act} {w0 : World} {l : List Oper} (E : Nat → Bool) (Base : World → Prop) (Fact : Nat → (Nat → Value) → World → Prop) (V : Nat → List Nat)
    (hV : ∀ j s s' w, (∀ t, t ∈ V j → s' t = s t) → Fact j s w → Fact j s' w)
    (hap : FactsApart l.toArray V = true) (hso : FactsSound l.toArray a0.tmps.size = true) (h0 : Base w0)
    (hop : Each (OpFactM P Q a0 l E Base Fact) 0 l)
    (hend : ∀ (a : Act) (w : World), a.tmps.size = a0.tmps.size → a.defers = a0.defers → (∀ t, (l.all fun ok => ok.dst != some t) = true → sl a t = sl a0 t) → Base w → (∀ i, i < l.length → E i = true → Fact i (sl a) w) → Q .normal a w) :
    wpAny P .any l.toArray Q l.toArray.size (Array.replicate l.toArray.size false) a0 w0 := by
  have hfr : ∀ a : Act, (∀ t, (∀ (k : Nat) ok, l.toArray[k]? = some ok → ok.dst ≠ some t) → sl a t = sl a0 t) → ∀ t, (l.all fun ok => ok.dst != some t) = true → sl a t = sl a0 t := by
    intro a h t ht
    refine h t fun k ok hk => ?_
    rw [List.getElem?_toArray] at hk
    have := List.all_eq_true.1 ht ok (List.mem_of_getElem? hk)
    simpa using this
  refine any_factsM E Base Fact V hV hap hso h0 (fun i o ho a w hf D hb => ?_) (fun a w h1 h2 h3 h4 h5 => hend a w h1 h2 (hfr a h3) h4 (fun i hi he => h5 i (by simpa using hi) he))
  have := hop.at_ i o (by simpa using ho)
  rw [Nat.zero_add] at this
  exact this a w (hfr a hf) D hb

theorem any_lawM {a0 : Act} {w0 : World} {l : List Oper} (E : Nat → Bool) (Base : World → Prop) (Fact : Nat → (Nat → Value) → World → Prop) (V : Nat → List Nat)
    (hV : ∀ j s s' w, (∀ t, t ∈ V j → s' t = s t) → Fact j s w → Fact j s' w)
    (hap : FactsApart l.toArray V = true) (hso : FactsSound l.toArray a0.tmps.size = true) (h0 : Base w0)
    (hop : Each (OpFactM P Q a0 l E Base Fact) 0 l)
    (hend : ∀ (x : Nat → Value) (w : World), Base w → (∀ i, i < l.length → E i = true → Fact i x w) → Q .normal (after l a0 x) w) :
    wpAny P .any l.toArray Q l.toArray.size (Array.replicate l.toArray.size false) a0 w0 :=
  any_eachM E Base Fact V hV hap hso h0 hop fun a w hz hd hf hb hF => by
    rw [after_eq hz hd hf]
    exact hend (sl a) w hb hF
/-- An operation that yields v and leaves w'. -/
theorem OpFactM.value {a0 : Act} {l : List Oper} {E : Nat → Bool} {Base : World → Prop} {Fact : Nat → (Nat → Value) → World → Prop} {i : Nat} {o : Oper}
    (hst : ∀ j s w w', Below w.heap.size w w' → Fact j s w → Fact j s w')
    (h : ∀ (a : Act) (w : World), (∀ t, (l.all fun ok => ok.dst != some t) = true → sl a t = sl a0 t) → (∀ k, (o.after.any fun e => Region.binds .any e && e.on == k) = true → Fact k (sl a) w) → Base w →
      ∃ v w', (execOp a.eval o).run P w = .ok (.value v) w' ∧ Below w.heap.size w w' ∧ Base w' ∧ ∀ s : Nat → Value, (∀ t, o.dst ≠ some t → s t = sl a t) → (∀ d, o.dst = some d → s d = v) → Fact i s w') : OpFactM P Q a0 l E Base Fact i o := by
  intro a w hf D hb
  obtain ⟨v, w', hrun, hbl, hB, hF⟩ := h a w hf D hb
  unfold Oper.wp
  rw [hrun]
  exact ⟨v, rfl, hB, fun j _ _ hj => hst j _ _ _ hbl hj, hF⟩
/-- A call. -/
theorem OpFactM.call {a0 : Act} {l : List Oper} {E : Nat → Bool} {Base : World → Prop} {Fact : Nat → (Nat → Value) → World → Prop} {i : Nat} {o : Oper}
    (hst : ∀ j s w w', Below w.heap.size w w' → Fact j s w → Fact j s w')
    (h : ∀ (a : Act) (w : World), (∀ t, (l.all fun ok => ok.dst != some t) = true → sl a t = sl a0 t) → (∀ k, (o.after.any fun e => Region.binds .any e && e.on == k) = true → Fact k (sl a) w) → Base w →
      ∃ f args, (execOp a.eval o).run P w = .ok (.enter f args) w ∧ Calls P f args w fun e w' => ∃ v, e = .returned v ∧ Below w.heap.size w w' ∧ Base w' ∧ ∀ s : Nat → Value, (∀ t, o.dst ≠ some t → s t = sl a t) → (∀ d, o.dst = some d → s d = v) → Fact i s w') : OpFactM P Q a0 l E Base Fact i o := by
  intro a w hf D hb
  obtain ⟨f, args, hrun, hc⟩ := h a w hf D hb
  unfold Oper.wp
  rw [hrun]
  refine hc.mono ?_
  rintro e w' ⟨v, rfl, hbl, hB, hF⟩
  exact ⟨v, rfl, hB, fun j _ _ hj => hst j _ _ _ hbl hj, hF⟩

/-- An operation that yields v and writes (an append in place): what it leaves of the other facts is shown for each. -/
theorem OpFactM.write {a0 : Act} {l : List Oper} {E : Nat → Bool} {Base : World → Prop} {Fact : Nat → (Nat → Value) → World → Prop} {i : Nat} {o : Oper}
    (h : ∀ (a : Act) (w : World), (∀ t, (l.all fun ok => ok.dst != some t) = true → sl a t = sl a0 t) → (∀ k, (o.after.any fun e => Region.binds .any e && e.on == k) = true → Fact k (sl a) w) → Base w →
      ∃ v w', (execOp a.eval o).run P w = .ok (.value v) w' ∧ Base w' ∧ (∀ j, j ≠ i → (E j = true ∨ consM l.toArray i j = true) → Fact j (sl a) w → Fact j (sl a) w') ∧ ∀ s : Nat → Value, (∀ t, o.dst ≠ some t → s t = sl a t) → (∀ d, o.dst = some d → s d = v) → Fact i s w') : OpFactM P Q a0 l E Base Fact i o := by
  intro a w hf D hb
  obtain ⟨v, w', hrun, hB, hst, hF⟩ := h a w hf D hb
  unfold Oper.wp
  rw [hrun]
  exact ⟨v, rfl, hB, hst, hF⟩
/-- A store. -/
theorem OpFactM.skip {a0 : Act} {l : List Oper} {E : Nat → Bool} {Base : World → Prop} {Fact : Nat → (Nat → Value) → World → Prop} {i : Nat} {o : Oper}
    (h : ∀ (a : Act) (w : World), (∀ t, (l.all fun ok => ok.dst != some t) = true → sl a t = sl a0 t) → (∀ k, (o.after.any fun e => Region.binds .any e && e.on == k) = true → Fact k (sl a) w) → Base w →
      ∃ w', (execOp a.eval o).run P w = .ok .skip w' ∧ Base w' ∧ (∀ j, j ≠ i → (E j = true ∨ consM l.toArray i j = true) → Fact j (sl a) w → Fact j (sl a) w') ∧ ∀ s : Nat → Value, (∀ t, o.dst ≠ some t → s t = sl a t) → Fact i s w') : OpFactM P Q a0 l E Base Fact i o := by
  intro a w hf D hb
  obtain ⟨w', hrun, hB, hst, hF⟩ := h a w hf D hb
  unfold Oper.wp
  rw [hrun]
  exact ⟨undef, rfl, hB, hst, fun s h _ => hF s h⟩
end
section
variable {P : Program} {l : List Oper} {Q : Exit → Act → World → Prop}
/-- The first m operations, one obligation for each; then the rest. -/
theorem from_lawM {a0 : Act} {w0 : World} (m : Nat) {blk : List Oper} (E : Nat → Bool) (Base : World → Prop) (Fact : Nat → (Nat → Value) → World → Prop) (V : Nat → List Nat) (hB : phaseB l m = true) (hb : l.take m = blk)
    (hV : ∀ j s s' w, (∀ t, t ∈ V j → s' t = s t) → Fact j s w → Fact j s' w)
    (hap : FactsApart blk.toArray V = true) (hso : FactsSound blk.toArray a0.tmps.size = true) (h0 : Base w0)
    (hop : Each (OpFactM P (fun e a w => e = .normal ∧ wpFrom P l Q m a w) a0 blk E Base Fact) 0 blk)
    (hend : ∀ (x : Nat → Value) (w : World), Base w → (∀ i, i < blk.length → E i = true → Fact i x w) → wpFrom P l Q m (after blk a0 x) w) : wpFrom P l Q 0 a0 w0 :=
  from_any m (Q1 := fun e a w => e = .normal ∧ wpFrom P l Q m a w) hB hb (fun _ _ _ h h' => absurd h'.1 h) (any_lawM E Base Fact V hV hap hso h0 hop fun x w hx hF => ⟨rfl, hend x w hx hF⟩) fun _ _ h => h.2
end
end Go.Proofs.YtahlfndlkfoikaaDoor
namespace Go.Proofs.YtahlfndlkfoikaaDoor
open Go Go.RowKit Go.Shelf
/-- What holds behind each operation of a drawn region. -/
def FM (base : Nat) (Au Av : Option Addr) (n cu cv bx _bt k : Nat) (v : Value) (x : Cha.Lk) (t : Cou.Ct) (j : Nat) (s : Nat → Value) (w : World) : Prop :=
  match j with
  | 0 => s 54 = v
  | 1 => s 55 = .pointer (some ⟨bx, 0, none⟩)
  | 2 => s 56 = .slice Au n cu
  | 3 => s 57 = .int .i64 n
  | 4 => s 58 = .int .i64 n
  | 5 => s 59 = .slice Au n n
  | 6 => s 60 = .int .i64 k
  | 7 => ∃ g, s 61 = .slice (some ⟨g, 0, none⟩) 1 1 ∧ g < w.heap.size ∧ Flds w ⟨g, 0, none⟩ [.int .i64 k]
  | 8 => ∃ g c, s 62 = .slice (some ⟨g, 0, none⟩) (n + 1) c ∧ w.ownsRow base 3 1 (.slice (some ⟨g, 0, none⟩) (n + 1) c) (n + 1) (inCs (x.1 ++ [(k : Int)]))
  | 9 => s 63 = .pointer (some ⟨bx, 1, none⟩)
  | 10 => s 64 = .slice Av n cv
  | 11 => s 65 = .int .i64 n
  | 12 => s 66 = .int .i64 n
  | 13 => s 67 = .slice Av n n
  | 14 => s 68 = .agg #[.int .i64 t.1, .int .i64 t.2]
  | 15 => ∃ g, s 69 = .slice (some ⟨g, 0, none⟩) 1 1 ∧ g < w.heap.size ∧ Flds w ⟨g, 0, none⟩ [.int .i64 t.1, .int .i64 t.2]
  | 16 => ∃ g c, s 70 = .slice (some ⟨g, 0, none⟩) (n + 1) c ∧ w.ownsRow base 36 2 (.slice (some ⟨g, 0, none⟩) (n + 1) c) (n + 1) (ctCsL (x.2 ++ [t]))
  | 17 => ∃ g c g2 c2, s 71 = .agg #[.slice (some ⟨g, 0, none⟩) (n + 1) c, .slice (some ⟨g2, 0, none⟩) (n + 1) c2] ∧ w.ownsRow base 3 1 (.slice (some ⟨g, 0, none⟩) (n + 1) c) (n + 1) (inCs (x.1 ++ [(k : Int)])) ∧ w.ownsRow base 36 2 (.slice (some ⟨g2, 0, none⟩) (n + 1) c2) (n + 1) (ctCsL (x.2 ++ [t]))
  | 18 => ∃ g u1 u2, s 72 = .slice (some ⟨g, 0, none⟩) 1 1 ∧ g < w.heap.size ∧ Flds w ⟨g, 0, none⟩ [u1, u2] ∧ LinkC w [u1, u2] (x.1 ++ [(k : Int)], x.2 ++ [t]) ∧ u1.oneCell' = true ∧ u2.oneCell' = true
  | _ => True
def VM (j : Nat) : List Nat := match j with
  | 0 => [54] | 1 => [55] | 2 => [56] | 3 => [57] | 4 => [58] | 5 => [59] | 6 => [60] | 7 => [61] | 8 => [62] | 9 => [63] | 10 => [64] | 11 => [65] | 12 => [66] | 13 => [67] | 14 => [68] | 15 => [69] | 16 => [70] | 17 => [71] | 18 => [72] | _ => []
def EM (j : Nat) : Bool := j == 0 || j == 18
theorem FM_V (base : Nat) (Au Av : Option Addr) (n cu cv bx _bt k : Nat) (v : Value) (x : Cha.Lk) (t : Cou.Ct) (j : Nat) (s s' : Nat → Value) (w : World) (h : ∀ t, t ∈ VM j → s' t = s t) (hF : FM base Au Av n cu cv bx _bt k v x t j s w) : FM base Au Av n cu cv bx _bt k v x t j s' w := by
  match j with
  | 0 => unfold FM at hF ⊢; simp only at hF ⊢; rw [h 54 (by simp [VM])]; exact hF
  | 1 => unfold FM at hF ⊢; simp only at hF ⊢; rw [h 55 (by simp [VM])]; exact hF
  | 2 => unfold FM at hF ⊢; simp only at hF ⊢; rw [h 56 (by simp [VM])]; exact hF
  | 3 => unfold FM at hF ⊢; simp only at hF ⊢; rw [h 57 (by simp [VM])]; exact hF
  | 4 => unfold FM at hF ⊢; simp only at hF ⊢; rw [h 58 (by simp [VM])]; exact hF
  | 5 => unfold FM at hF ⊢; simp only at hF ⊢; rw [h 59 (by simp [VM])]; exact hF
  | 6 => unfold FM at hF ⊢; simp only at hF ⊢; rw [h 60 (by simp [VM])]; exact hF
  | 7 => unfold FM at hF ⊢; simp only at hF ⊢; rw [h 61 (by simp [VM])]; exact hF
  | 8 => unfold FM at hF ⊢; simp only at hF ⊢; rw [h 62 (by simp [VM])]; exact hF
  | 9 => unfold FM at hF ⊢; simp only at hF ⊢; rw [h 63 (by simp [VM])]; exact hF
  | 10 => unfold FM at hF ⊢; simp only at hF ⊢; rw [h 64 (by simp [VM])]; exact hF
  | 11 => unfold FM at hF ⊢; simp only at hF ⊢; rw [h 65 (by simp [VM])]; exact hF
  | 12 => unfold FM at hF ⊢; simp only at hF ⊢; rw [h 66 (by simp [VM])]; exact hF
  | 13 => unfold FM at hF ⊢; simp only at hF ⊢; rw [h 67 (by simp [VM])]; exact hF
  | 14 => unfold FM at hF ⊢; simp only at hF ⊢; rw [h 68 (by simp [VM])]; exact hF
  | 15 => unfold FM at hF ⊢; simp only at hF ⊢; rw [h 69 (by simp [VM])]; exact hF
  | 16 => unfold FM at hF ⊢; simp only at hF ⊢; rw [h 70 (by simp [VM])]; exact hF
  | 17 => unfold FM at hF ⊢; simp only at hF ⊢; rw [h 71 (by simp [VM])]; exact hF
  | 18 => unfold FM at hF ⊢; simp only at hF ⊢; rw [h 72 (by simp [VM])]; exact hF
  | _ + 19 => trivial
theorem FM_below (base : Nat) (Au Av : Option Addr) (n cu cv bx _bt k : Nat) (v : Value) (x : Cha.Lk) (t : Cou.Ct) (j : Nat) (s : Nat → Value) (w w' : World) (hb : Below w.heap.size w w') (hF : FM base Au Av n cu cv bx _bt k v x t j s w) : FM base Au Av n cu cv bx _bt k v x t j s w' := by
  match j with
  | 0 => exact hF
  | 1 => exact hF
  | 2 => exact hF
  | 3 => exact hF
  | 4 => exact hF
  | 5 => exact hF
  | 6 => exact hF
  | 7 => obtain ⟨g, q1, q2, q3⟩ := hF; exact ⟨g, q1, Nat.lt_of_lt_of_le q2 hb.size, q3.below hb q2⟩
  | 8 => obtain ⟨g, c, q1, q2⟩ := hF; exact ⟨g, c, q1, q2.kept (row := none) (only_of_below hb none) (.inr (by simp [Value.ownBlock]))⟩
  | 9 => exact hF
  | 10 => exact hF
  | 11 => exact hF
  | 12 => exact hF
  | 13 => exact hF
  | 14 => exact hF
  | 15 => obtain ⟨g, q1, q2, q3⟩ := hF; exact ⟨g, q1, Nat.lt_of_lt_of_le q2 hb.size, q3.below hb q2⟩
  | 16 => obtain ⟨g, c, q1, q2⟩ := hF; exact ⟨g, c, q1, q2.kept (row := none) (only_of_below hb none) (.inr (by simp [Value.ownBlock]))⟩
  | 17 => obtain ⟨g, c, g2, c2, q1, q2, q3⟩ := hF; exact ⟨g, c, g2, c2, q1, q2.kept (row := none) (only_of_below hb none) (.inr (by simp [Value.ownBlock])), q3.kept (row := none) (only_of_below hb none) (.inr (by simp [Value.ownBlock]))⟩
  | 18 => obtain ⟨g, u1, u2, q1, q2, q3, q4, q5⟩ := hF; exact ⟨g, u1, u2, q1, Nat.lt_of_lt_of_le q2 hb.size, q3.below hb q2, q4.below hb, q5⟩
  | _ + 19 => trivial
set_option maxRecDepth 100000 in
set_option maxHeartbeats 4000000 in
theorem more_any (a : Cou.Ac) (hok : Cou.Ok a) (vd vc : Value) (hdr : a.drawn < 2 ^ 64) (u v : Value) (x : Cha.Lk) (hx : x.1.length = x.2.length) (hxl : x.1.length ≤ 100000) (at_ : Cou.Ct) (hat : CtS at_) (w : World) (F : Nat → Prop) (hA : AcAt F w vd vc a) (hU : SlI F w u x.1) (hV : SlCt F w v x.2) :
    Calls Tryd.prog 58 #[.agg #[vd, vc, .int .u64 a.drawn], .agg #[u, v], .agg #[.int .i64 at_.1, .int .i64 at_.2]] w fun e w' => ∃ r, e = .returned r ∧ OwnLk w.heap.size w' r (Cha.moreF a x at_) ∧ Below w.heap.size w w' := by
  obtain ⟨Ad, cd, hvd, -, -⟩ := id hA.dv.open
  obtain ⟨Ac, cc, hvc, -, hac⟩ := id hA.cp.open
  subst hvd hvc
  obtain ⟨Au, cu, hvu, hcu, -, -⟩ := id hU.open
  obtain ⟨Av, cv, hvv, hcv, -, -⟩ := id hV.open
  subst hvu hvv
  have hF := hA.inW
  have hRU := SlI.reads hU hF
  have hRV := SlCt.reads hV hF
  have h40 := hok.nc
  obtain ⟨dl, hdl⟩ : ∃ dl, a.divs.length = dl := ⟨_, rfl⟩
  obtain ⟨cl, hcl⟩ : ∃ cl, a.cps.length = cl := ⟨_, rfl⟩
  obtain ⟨n, hn⟩ : ∃ n, x.1.length = n := ⟨_, rfl⟩
  have hn2 : x.2.length = n := by omega
  have HCL := Lib.hid hcl
  have HN1 := Lib.hid hn
  have HN2 := Lib.hid hn2
  rw [hdl, hcl] at hA
  rw [hn] at hU hcu hRU hxl
  rw [hn2] at hV hcv hRV
  rw [hdl, hcl, hn, hn2]
  rw [hcl] at h40
  have HST := Lib.hid (fun W (hb : Below w.heap.size w W) i (hi : i < cl) => cstep_any a hok (.slice Ad dl cd) (.slice Ac cl cc) i (by rw [HCL.out]; exact hi) at_ ⟨hat.2.2.1, hat.2.2.2⟩ a.drawn W F (hA.onB hF hb))
  have HCN := Lib.hid (fun W (hb : Below w.heap.size w W) t => contains_ct (.slice Av n cv) x.2 t W F (fun b h => Nat.lt_of_lt_of_le (hF b h) hb.size) (SlCt.keep hV (Agree.below hb hF)))
  have HDR := Lib.hid (fun i (hi : i < 64) W => cdrawn_any (.slice Ad dl cd) (.slice Ac cl cc) a.drawn hdr i hi W)
  have HAC := Lib.hid hac
  have HRU := Lib.hid hRU
  have HRV := Lib.hid hRV
  have HF := Lib.hid hF
  obtain ⟨a1, a2⟩ := at_
  obtain ⟨w1, hw1⟩ : ∃ w1 : World, ((w.alloc (.cells #[.slice Ad dl cd, .slice Ac cl cc, .int .u64 a.drawn] 33)).alloc (.cells #[.slice Au n cu, .slice Av n cv] 109)).alloc (.cells #[.int .i64 a1, .int .i64 a2] 36) = w1 := ⟨_, rfl⟩
  obtain ⟨bx, hbx⟩ : ∃ bx, w.heap.size = bx := ⟨_, rfl⟩
  obtain ⟨b1, hb1⟩ : ∃ b1, bx + 1 = b1 := ⟨_, rfl⟩
  obtain ⟨b2, hb2⟩ : ∃ b2, b1 + 1 = b2 := ⟨_, rfl⟩
  have c0 : w1.cell? ⟨bx, 0, none⟩ = some (.slice Ad dl cd) := by rw [← hw1, ← hbx]; simp [go_sem]
  have c1 : w1.cell? ⟨bx, 1, none⟩ = some (.slice Ac cl cc) := by rw [← hw1, ← hbx]; simp [go_sem]
  have c2 : w1.cell? ⟨bx, 2, none⟩ = some (.int .u64 a.drawn) := by rw [← hw1, ← hbx]; simp [go_sem]
  have c3 : w1.cell? ⟨b1, 0, none⟩ = some (.slice Au n cu) := by rw [← hw1, ← hb1, ← hbx]; simp [go_sem]
  have c4 : w1.cell? ⟨b1, 1, none⟩ = some (.slice Av n cv) := by rw [← hw1, ← hb1, ← hbx]; simp [go_sem]
  have c5 : w1.cell? ⟨b2, 0, none⟩ = some (.int .i64 a1) := by rw [← hw1, ← hb2, ← hb1, ← hbx]; simp [go_sem]
  have c6 : w1.cell? ⟨b2, 1, none⟩ = some (.int .i64 a2) := by rw [← hw1, ← hb2, ← hb1, ← hbx]; simp [go_sem]
  have l1 : b2 < w1.heap.size := by rw [← hw1, ← hb2, ← hb1, ← hbx]; simp
  have B1 : Below w.heap.size w w1 := by rw [← hw1]; exact Ba (Ba (Ba (B0 w) _) _) _
  have HK := Lib.hid (fun W (hb : Below w1.heap.size w1 W) => (show (W.cell? ⟨bx, 0, none⟩ = some (.slice Ad dl cd) ∧ W.cell? ⟨bx, 1, none⟩ = some (.slice Ac cl cc) ∧ W.cell? ⟨bx, 2, none⟩ = some (.int .u64 a.drawn)) ∧ (W.cell? ⟨b1, 0, none⟩ = some (.slice Au n cu) ∧ W.cell? ⟨b1, 1, none⟩ = some (.slice Av n cv)) ∧ W.cell? ⟨b2, 0, none⟩ = some (.int .i64 a1) ∧ W.cell? ⟨b2, 1, none⟩ = some (.int .i64 a2) from
    ⟨⟨(Bc hb (by omega)).trans c0, (Bc hb (by omega)).trans c1, (Bc hb (by omega)).trans c2⟩, ⟨(Bc hb (by omega)).trans c3, (Bc hb (by omega)).trans c4⟩, (Bc hb l1).trans c5, (Bc hb l1).trans c6⟩))
  have HB1 := Lib.hid B1
  have HW1 := Lib.hid hw1
  have HBX := Lib.hid hbx
  have HE1 := Lib.hid hb1
  have HE2b := Lib.hid hb2
  clear hA hU hV hac hRU hRV hF B1 hw1 hbx hb1 hb2 c2 c3 c4 c5 c6 l1 hdl hcl hn hn2 hx hat hdr
  dsimp only
  go_enter Tryd.func58, Tryd.ntmps58
  go_upto_region 2 with fail
  rw [HW1.out, HBX.out, HE1.out, HE2b.out]
  go_wp2_with fail
  go_loopg [7, 16] cl (fun gg s7 s16 wr => ∃ (k : Nat) (out : List Cha.Lk), k ≤ cl ∧ cl - k ≤ gg ∧ s16 = .int .i64 k ∧ Aside (OwnLk w1.heap.size wr s7 out) ∧ Aside (out ++ Cha.moreD a x (a1, a2) k = Cha.moreF a x (a1, a2)) ∧ Aside (Below w1.heap.size w1 wr))
  case atStart => exact ⟨0, [], by omega, by omega, rfl, OwnL.nil, (show Aside _ from by show _ = _; rw [Cha.moreD_zero, List.nil_append]), B0 w1⟩
  case round =>
    obtain ⟨k, out, hk, hg, rfl, HO, HE, HB⟩ := hrel
    replace HO := Lib.hid HO
    replace HE := Lib.hid HE
    replace HB := Lib.hid HB
    clear c0 c1
    by_cases hlt : k < cl
    · have hkl : (k : Int) < cl := by omega
      have hk64 : k < 64 := by omega
      have hkl2 : k < a.cps.length := by rw [HCL.out]; exact hlt
      obtain ⟨ad, rfl, hfb, hfl⟩ := HAC.out k hkl2
      have hfb2 : (ad.add (k * 5)).block < w.heap.size := by rw [block_of_add]; exact HF.out _ hfb
      have hfl2 := hfl.below (Bt HB1.out HB.out) hfb2
      have q0 := hfl2.f0 rfl
      have q1 := hfl2.f1 rfl
      have q2 := hfl2.f2 rfl
      have q3 := hfl2.f3 rfl
      have q4 := hfl2.f4 rfl
      have hth : Cou.thruF a k = a.cps[k].thru := by unfold Cou.thruF; rw [List.getElem?_eq_getElem hkl2]
      have HNO : Hid (Cha.oneMoreF a x (a1, a2) k = none → Aside (out ++ Cha.moreD a x (a1, a2) (k + 1) = Cha.moreF a x (a1, a2))) := Lib.hid (fun h => by show _ = _; rw [← Cha.moreD_none hkl2 h]; exact HE.out)
      have HYES : Hid (∀ y, Cha.oneMoreF a x (a1, a2) k = some y → Aside ((out ++ [y]) ++ Cha.moreD a x (a1, a2) (k + 1) = Cha.moreF a x (a1, a2))) := Lib.hid (fun y h => by show _ = _; rw [List.append_assoc, List.singleton_append, ← Cha.moreD_some hkl2 h]; exact HE.out)
      have HOL : Hid (out.length ≤ 40) := Lib.hid (by
        have h1 := congrArg List.length HE.out
        have h2 := Cha.moreF_len a x (a1, a2)
        have h3 := HCL.out
        simp only [List.length_append] at h1
        omega)
      have HTH := Lib.hid hth
      clear hfl hfl2 hth hfb hfb2
      generalize a.cps[k] = y at *
      obtain ⟨nm, fr, to_, sh, th⟩ := y
      dsimp only at q0 q1 q2 q3 q4 HTH
      clear hkl2
      obtain ⟨bw, hbw⟩ : ∃ bw, wr.heap.size = bw := ⟨_, rfl⟩
      obtain ⟨w2, hw2⟩ : ∃ w2 : World, wr.alloc (.cells #[.string nm, .int .i64 fr, .int .i64 to_, .int .i64 sh, .bool th] 46) = w2 := ⟨_, rfl⟩
      have HB2 : Hid (Below w1.heap.size w1 w2) := Lib.hid (by rw [← hw2]; exact Ba HB.out _)
      have KB : Blk w2 bw 46 #[.string nm, .int .i64 fr, .int .i64 to_, .int .i64 sh, .bool th] := by rw [← hw2, ← hbw]; exact Blk.new _ _ _
      have HY := Lib.hid (fun W (hb : Below w2.heap.size w2 W) => (show W.cell? ⟨bw, 4, none⟩ = some (.bool th) from (Bc hb KB.lt).trans (KB.cell 4)))
      have HO2 : Hid (OwnLk w1.heap.size w2 u7 out) := Lib.hid (by rw [← hw2]; exact OwnLk.below HO.out (Ba (B0 wr) _))
      clear KB
      go_upto_region 5 with fail
      try rw [hw2]
      try rw [hbw]
      obtain ⟨⟨k0, k1, k2⟩, ⟨k3, k4⟩, k5, k6⟩ := HK.out w2 HB2.out
      have y4 := HY.out w2 (B0 w2)
      clear hw2 hbw q0 q1 q2 q3 q4 HO HB
      cases hd : a.drawn.testBit k with
      | false =>
        have HD := Lib.hid (fun W => HDR.out k hk64 W)
        rw [hd] at HD
        have HE2 := Lib.hid (HNO.out (by unfold Cha.oneMoreF; rw [if_neg (by rw [hd]; simp)]))
        clear HNO HYES hd HDR HST HCN
        go_wp2_with (go_at_call 39; (with_reducible refine ((HD.out _).mono ?_)); rintro e w3 ⟨rfl, hb3⟩; have HO3 := Lib.hid (OwnLk.below HO2.out hb3); have HB3 := Lib.hid (Bt HB2.out hb3); clear hb3)
        go_roundg (cl - (k + 1))
        case measure => omega
        case rel => exact ⟨k + 1, out, by omega, by omega, by go_num, HO3.out, HE2.out, HB3.out⟩
      | true =>
        have HD := Lib.hid (fun W => HDR.out k hk64 W)
        rw [hd] at HD
        have HDT := Lib.hid hd
        clear hd HDR
        have hcs : (0 < n ∧ th = false) ∨ (n = 0 ∧ decide (0 < (n : Int)) = false) ∨ (th = true ∧ decide (0 < (n : Int)) = true) := by
          cases th <;> simp <;> omega
        have hdn : decide (0 < n) = decide (0 < (n : Int)) := by simp
        rcases hcs with ⟨hn0, rfl⟩ | hcs
        · have d1 : decide (0 < (n : Int)) = true := by simpa using hn0
          have hne : x.1 ≠ [] := fun e => by have := HN1.out; rw [e] at this; simp at this; omega
          have HE2 := Lib.hid (HNO.out (by unfold Cha.oneMoreF; rw [if_neg (by rw [HTH.out]; simp [hne])]))
          rw [d1] at hdn
          clear HNO HYES HST HCN hne
          go_wp2_with (go_at_call 39; (with_reducible refine ((HD.out _).mono ?_)); rintro e w3 ⟨rfl, hb3⟩; have HO3 := Lib.hid (OwnLk.below HO2.out hb3); have HB3 := Lib.hid (Bt HB2.out hb3); obtain ⟨⟨k0', k1', k2'⟩, ⟨k3', k4'⟩, k5', k6'⟩ := HK.out w3 HB3.out; have y4' := HY.out w3 hb3; clear hb3)
          go_roundg (cl - (k + 1))
          case measure => omega
          case rel => exact ⟨k + 1, out, by omega, by omega, by go_num, HO3.out, HE2.out, HB3.out⟩
        · have HGO : Hid (x.1 = [] ∨ Cou.thruF a k = true) := Lib.hid (by
            rcases hcs with ⟨h, _⟩ | ⟨h, _⟩
            · exact .inl (List.eq_nil_of_length_eq_zero (by rw [HN1.out]; exact h))
            · exact .inr (by rw [HTH.out]; exact h))
          cases hs : Cou.stepF a k (a1, a2) with
          | none =>
            have HE2 := Lib.hid (HNO.out (by unfold Cha.oneMoreF; rw [if_pos ⟨HDT.out, HGO.out⟩, hs]))
            have HS := Lib.hid hs
            clear HNO HYES hs
            rcases hcs with ⟨-, d1⟩ | ⟨rfl, d1⟩
            all_goals
              rw [d1] at hdn
              go_upto_region 6 with (go_at_call 39; (with_reducible refine ((HD.out _).mono ?_)); rintro e w3 ⟨rfl, hb3⟩; have HO3 := Lib.hid (OwnLk.below HO2.out hb3); have HB3 := Lib.hid (Bt HB2.out hb3); obtain ⟨⟨k0', k1', k2'⟩, ⟨k3', k4'⟩, k5', k6'⟩ := HK.out w3 HB3.out; have y4' := HY.out w3 hb3; clear hb3 k0 k1 k2 k3 k4 k5 k6 y4)
              go_upto_region 7 with (go_at_call 40; (with_reducible refine ((HST.out _ (Bt HB1.out HB3.out) k hlt).mono ?_)); rintro e w4 ⟨⟨⟨t1, t2⟩, b, rfl, hbs, -⟩, hb4⟩; dsimp only; (obtain rfl : b = false := by rw [hbs, HS.out]; rfl); clear hbs; have HO4 := Lib.hid (OwnLk.below (OwnLk.below HO3.out hb4) (Ba (B0 w4) (.cells #[.int .i64 t1, .int .i64 t2] 36))); have HB4 := Lib.hid (Ba (Bt HB3.out hb4) (.cells #[.int .i64 t1, .int .i64 t2] 36)); clear hb4 k0' k1' k2' k3' k4' k5' k6' y4')
              obtain ⟨w5, hw5⟩ : ∃ w5 : World, w4.alloc (.cells #[.int .i64 t1, .int .i64 t2] 36) = w5 := ⟨_, rfl⟩
              rw [hw5] at HO4 HB4 ⊢
              clear hw5
              obtain ⟨⟨k0, k1, k2⟩, ⟨k3, k4⟩, k5, k6⟩ := HK.out w5 HB4.out
              go_wp2_with fail
              go_roundg (cl - (k + 1))
              case measure => omega
              case rel => exact ⟨k + 1, out, by omega, by omega, by go_num, HO4.out, HE2.out, HB4.out⟩
          | some t =>
            obtain ⟨t1, t2⟩ := t
            have HS := Lib.hid hs
            by_cases hm : (t1, t2) ∈ x.2
            · have HE2 := Lib.hid (HNO.out (by unfold Cha.oneMoreF; rw [if_pos ⟨HDT.out, HGO.out⟩, hs]; simp only; rw [if_pos hm]))
              have hcn := fun W hb => HCN.out W hb (t1, t2)
              rw [decide_eq_true hm] at hcn
              have HCN2 := Lib.hid hcn
              clear HNO HYES hs hm HCN hcn
              rcases hcs with ⟨-, d1⟩ | ⟨rfl, d1⟩
              all_goals
                rw [d1] at hdn
                go_upto_region 6 with (go_at_call 39; (with_reducible refine ((HD.out _).mono ?_)); rintro e w3 ⟨rfl, hb3⟩; have HO3 := Lib.hid (OwnLk.below HO2.out hb3); have HB3 := Lib.hid (Bt HB2.out hb3); obtain ⟨⟨k0', k1', k2'⟩, ⟨k3', k4'⟩, k5', k6'⟩ := HK.out w3 HB3.out; have y4' := HY.out w3 hb3; clear hb3 k0 k1 k2 k3 k4 k5 k6 y4)
                go_upto_region 7 with (go_at_call 40; (with_reducible refine ((HST.out _ (Bt HB1.out HB3.out) k hlt).mono ?_)); rintro e w4 ⟨⟨⟨t1', t2'⟩, b, rfl, hbs, hus⟩, hb4⟩; (obtain rfl : b = true := by rw [hbs, HS.out]; rfl); (obtain ⟨rfl, rfl⟩ : t1' = t1 ∧ t2' = t2 := by simpa using hus _ HS.out); have HO4 := Lib.hid (OwnLk.below (OwnLk.below HO3.out hb4) (Ba (B0 w4) (.cells #[.int .i64 t1', .int .i64 t2'] 36))); have HB4 := Lib.hid (Ba (Bt HB3.out hb4) (.cells #[.int .i64 t1', .int .i64 t2'] 36)); clear hb4 hbs hus k0' k1' k2' k3' k4' k5' k6' y4')
                obtain ⟨w5, hw5⟩ : ∃ w5 : World, w4.alloc (.cells #[.int .i64 t1', .int .i64 t2'] 36) = w5 := ⟨_, rfl⟩
                have z0 : w5.cell? ⟨w4.heap.size, 0, none⟩ = some (.int .i64 t1') := by rw [← hw5]; simp [go_sem]
                have z1 : w5.cell? ⟨w4.heap.size, 1, none⟩ = some (.int .i64 t2') := by rw [← hw5]; simp [go_sem]
                rw [hw5] at HO4 HB4 ⊢
                clear hw5
                obtain ⟨⟨k0, k1, k2⟩, ⟨k3, k4⟩, k5, k6⟩ := HK.out w5 HB4.out
                go_wp2_with (go_at_call 41; (with_reducible refine ((HCN2.out _ (Bt HB1.out HB4.out)).mono ?_)); rintro e w6 ⟨rfl, hb6⟩; have HO6 := Lib.hid (OwnLk.below HO4.out hb6); have HB6 := Lib.hid (Bt HB4.out hb6); clear hb6)
                go_roundg (cl - (k + 1))
                case measure => omega
                case rel => exact ⟨k + 1, out, by omega, by omega, by go_num, HO6.out, HE2.out, HB6.out⟩
            · have HE2 := Lib.hid (HYES.out _ (by unfold Cha.oneMoreF; rw [if_pos ⟨HDT.out, HGO.out⟩, hs]; simp only; rw [if_neg hm]))
              have hcn := fun W hb => HCN.out W hb (t1, t2)
              rw [decide_eq_false hm] at hcn
              have HCN2 := Lib.hid hcn
              clear HNO HYES hs hm HCN hcn
              rcases hcs with ⟨-, d1⟩ | ⟨rfl, d1⟩
              all_goals
                rw [d1] at hdn
                go_upto_region 6 with (go_at_call 39; (with_reducible refine ((HD.out _).mono ?_)); rintro e w3 ⟨rfl, hb3⟩; have HO3 := Lib.hid (OwnLk.below HO2.out hb3); have HB3 := Lib.hid (Bt HB2.out hb3); obtain ⟨⟨k0', k1', k2'⟩, ⟨k3', k4'⟩, k5', k6'⟩ := HK.out w3 HB3.out; have y4' := HY.out w3 hb3; clear hb3 k0 k1 k2 k3 k4 k5 k6 y4)
                go_upto_region 7 with (go_at_call 40; (with_reducible refine ((HST.out _ (Bt HB1.out HB3.out) k hlt).mono ?_)); rintro e w4 ⟨⟨⟨t1', t2'⟩, b, rfl, hbs, hus⟩, hb4⟩; (obtain rfl : b = true := by rw [hbs, HS.out]; rfl); (obtain ⟨rfl, rfl⟩ : t1' = t1 ∧ t2' = t2 := by simpa using hus _ HS.out); have HO4 := Lib.hid (OwnLk.below (OwnLk.below HO3.out hb4) (Ba (B0 w4) (.cells #[.int .i64 t1', .int .i64 t2'] 36))); have HB4 := Lib.hid (Ba (Bt HB3.out hb4) (.cells #[.int .i64 t1', .int .i64 t2'] 36)); clear hb4 hbs hus k0' k1' k2' k3' k4' k5' k6' y4')
                obtain ⟨bt, hbt⟩ : ∃ bt, w4.heap.size = bt := ⟨_, rfl⟩
                obtain ⟨w5, hw5⟩ : ∃ w5 : World, w4.alloc (.cells #[.int .i64 t1', .int .i64 t2'] 36) = w5 := ⟨_, rfl⟩
                have KT : Blk w5 bt 36 #[.int .i64 t1', .int .i64 t2'] := by rw [← hw5, ← hbt]; exact Blk.new _ _ _
                have z0 := KT.cell 0
                have z1 := KT.cell 1
                simp only [List.getElem?_toArray, List.getElem?_cons_zero, List.getElem?_cons_succ] at z0 z1
                have HKT := Lib.hid KT
                rw [hw5] at HO4 HB4 ⊢
                rw [hbt]
                clear hw5 hbt KT
                obtain ⟨⟨k0, k1, k2⟩, ⟨k3, k4⟩, k5, k6⟩ := HK.out w5 HB4.out
                go_upto_region 8 with (go_at_call 41; (with_reducible refine ((HCN2.out _ (Bt HB1.out HB4.out)).mono ?_)); rintro e w6 ⟨rfl, hb6⟩; have HO6 := Lib.hid (OwnLk.below HO4.out hb6); have HB6 := Lib.hid (Bt HB4.out hb6); have HKT6 := Lib.hid (HKT.out.below hb6 HKT.out.lt); obtain ⟨⟨k0', k1', k2'⟩, ⟨k3', k4'⟩, k5', k6'⟩ := HK.out w6 HB6.out; clear hb6)
                go_upto_region 9 with fail
                obtain ⟨w9, hw9⟩ : ∃ w9 : World, w6 = w9 := ⟨_, rfl⟩
                rw [hw9] at HO6 HB6 HKT6 ⊢
                clear hw9 k0 k1 k2 k3 k4 k5 k6 z0 z1 k0' k1' k2' k5' k6'
                have HK9 := Lib.hid (fun W (hb : Below w9.heap.size w9 W) => (HK.out W (Bt HB6.out hb)).2.1)
                have HT9 := Lib.hid (fun W (hb : Below w9.heap.size w9 W) => (show W.cell? ⟨bt, 0, none⟩ = some (.int .i64 t1') ∧ W.cell? ⟨bt, 1, none⟩ = some (.int .i64 t2') from ⟨(Bc hb HKT6.out.lt).trans (HKT6.out.cell 0), (Bc hb HKT6.out.lt).trans (HKT6.out.cell 1)⟩))
                have HRU9 := Lib.hid (fun W (hb : Below w9.heap.size w9 W) => HRU.out.below (Bt HB1.out (Bt HB6.out hb)))
                have HRV9 := Lib.hid (fun W (hb : Below w9.heap.size w9 W) => HRV.out.below (Bt HB1.out (Bt HB6.out hb)))
                refine region_blocks (by kernel_rfl) ?_
                refine from_lawM 19 EM (fun w' => Below w9.heap.size w9 w') (FM w9.heap.size Au Av n cu cv b1 bt k u7 x (t1', t2')) VM (by kernel_rfl) rfl (FM_V _ _ _ _ _ _ _ _ _ _ _ _) (by kernel_rfl) (by kernel_rfl) ((B0 w9).drew) ⟨?_, ?_, ?_, ?_, ?_, ?_, ?_, ?_, ?_, ?_, ?_, ?_, ?_, ?_, ?_, ?_, ?_, ?_, ?_, trivial⟩ ?_
                · refine OpFactM.value (FM_below _ _ _ _ _ _ _ _ _ _ _ _) fun a w2 hf D hb => ?_
                  have h0 : sl a 7 = u7 := hf 7 (by kernel_rfl)
                  refine ⟨u7, w2, ?_, B0 _, hb, fun s _ h => h 54 rfl⟩
                  unfold sl at h0
                  simp [go_sem, h0]
                · refine OpFactM.value (FM_below _ _ _ _ _ _ _ _ _ _ _ _) fun a w2 hf D hb => ?_
                  have h0 : sl a 4 = .pointer (some ⟨b1, 0, none⟩) := hf 4 (by kernel_rfl)
                  refine ⟨.pointer (some ⟨b1, 0, none⟩), w2, ?_, B0 _, hb, fun s _ h => h 55 rfl⟩
                  unfold sl at h0
                  simp at h0
                  simp [go_sem, h0]
                · refine OpFactM.value (FM_below _ _ _ _ _ _ _ _ _ _ _ _) fun a w2 hf D hb => ?_
                  have h0 : sl a 55 = .pointer (some ⟨b1, 0, none⟩) := D 1 (by kernel_rfl)
                  have es := HK9.out w2 hb
                  refine ⟨.slice Au n cu, w2, ?_, B0 _, hb, fun s _ h => h 56 rfl⟩
                  unfold sl at h0
                  simp at h0
                  simp [go_sem, h0, es]
                · refine OpFactM.value (FM_below _ _ _ _ _ _ _ _ _ _ _ _) fun a w2 hf D hb => ?_
                  have h0 : sl a 12 = .int .i64 n := hf 12 (by kernel_rfl)
                  refine ⟨.int .i64 n, w2, ?_, B0 _, hb, fun s _ h => h 57 rfl⟩
                  unfold sl at h0
                  simp [go_sem, h0]
                · refine OpFactM.value (FM_below _ _ _ _ _ _ _ _ _ _ _ _) fun a w2 hf D hb => ?_
                  have h0 : sl a 12 = .int .i64 n := hf 12 (by kernel_rfl)
                  refine ⟨.int .i64 n, w2, ?_, B0 _, hb, fun s _ h => h 58 rfl⟩
                  unfold sl at h0
                  simp [go_sem, h0]
                · refine OpFactM.value (FM_below _ _ _ _ _ _ _ _ _ _ _ _) fun a w2 hf D hb => ?_
                  have h1 : sl a 56 = .slice Au n cu := D 2 (by kernel_rfl)
                  have h2 : sl a 57 = .int .i64 n := D 3 (by kernel_rfl)
                  have h3 : sl a 58 = .int .i64 n := D 4 (by kernel_rfl)
                  refine ⟨.slice Au n n, w2, ?_, B0 _, hb, fun s _ h => h 59 rfl⟩
                  unfold sl at h1 h2 h3
                  simp at h1 h2 h3
                  unfold execOp
                  simp [Act.eval, h1, h2, h3, go_sem, Nat.not_lt.2 hcu]
                · refine OpFactM.value (FM_below _ _ _ _ _ _ _ _ _ _ _ _) fun a w2 hf D hb => ?_
                  have h0 : sl a 8 = .int .i64 k := hf 8 (by kernel_rfl)
                  refine ⟨.int .i64 k, w2, ?_, B0 _, hb, fun s _ h => h 60 rfl⟩
                  unfold sl at h0
                  simp [go_sem, h0]
                · refine OpFactM.value (FM_below _ _ _ _ _ _ _ _ _ _ _ _) fun a w2 hf D hb => ?_
                  have h1 : sl a 60 = .int .i64 k := D 6 (by kernel_rfl)
                  refine ⟨.slice (some ⟨w2.heap.size, 0, none⟩) 1 1, w2.alloc (.cells #[.int .i64 k] 3), ?_, Ba (B0 _) _, Ba hb _, fun s _ h => ⟨_, h 61 rfl, by simp, Flds.new w2 _ _⟩⟩
                  unfold sl at h1
                  simp at h1
                  simp [go_sem, h1]
                · refine OpFactM.value (FM_below _ _ _ _ _ _ _ _ _ _ _ _) fun a w2 hf D hb => ?_
                  have h1 : sl a 59 = .slice Au n n := D 5 (by kernel_rfl)
                  obtain ⟨g, h2, _, hfl⟩ : ∃ g, sl a 61 = .slice (some ⟨g, 0, none⟩) 1 1 ∧ g < w2.heap.size ∧ Flds w2 ⟨g, 0, none⟩ [.int .i64 (k : Int)] := D 7 (by kernel_rfl)
                  obtain ⟨c', w', hrun, h3, h4⟩ := run_append_full (w := w2) elemIn (by omega) 27 Au n _ _ (HRU9.out w2 hb) g _ rfl hfl (by simp [Value.oneCell']) (by omega) (by omega)
                  refine ⟨_, w', ?_, h3, Bt hb h3, fun s _ h => ⟨_, c', h 62 rfl, by simpa [inCs] using own_more h4 hb.size⟩⟩
                  unfold sl at h1 h2
                  simp at h1 h2
                  unfold execOp
                  simp [resolve, invoke, builtin, Act.eval, h1, h2, hrun]
                · refine OpFactM.value (FM_below _ _ _ _ _ _ _ _ _ _ _ _) fun a w2 hf D hb => ?_
                  have h0 : sl a 4 = .pointer (some ⟨b1, 0, none⟩) := hf 4 (by kernel_rfl)
                  refine ⟨.pointer (some ⟨b1, 1, none⟩), w2, ?_, B0 _, hb, fun s _ h => h 63 rfl⟩
                  unfold sl at h0
                  simp at h0
                  simp [go_sem, h0]
                · refine OpFactM.value (FM_below _ _ _ _ _ _ _ _ _ _ _ _) fun a w2 hf D hb => ?_
                  have h0 : sl a 63 = .pointer (some ⟨b1, 1, none⟩) := D 9 (by kernel_rfl)
                  have es := HK9.out w2 hb
                  refine ⟨.slice Av n cv, w2, ?_, B0 _, hb, fun s _ h => h 64 rfl⟩
                  unfold sl at h0
                  simp at h0
                  simp [go_sem, h0, es]
                · refine OpFactM.value (FM_below _ _ _ _ _ _ _ _ _ _ _ _) fun a w2 hf D hb => ?_
                  have h0 : sl a 12 = .int .i64 n := hf 12 (by kernel_rfl)
                  refine ⟨.int .i64 n, w2, ?_, B0 _, hb, fun s _ h => h 65 rfl⟩
                  unfold sl at h0
                  simp [go_sem, h0]
                · refine OpFactM.value (FM_below _ _ _ _ _ _ _ _ _ _ _ _) fun a w2 hf D hb => ?_
                  have h0 : sl a 12 = .int .i64 n := hf 12 (by kernel_rfl)
                  refine ⟨.int .i64 n, w2, ?_, B0 _, hb, fun s _ h => h 66 rfl⟩
                  unfold sl at h0
                  simp [go_sem, h0]
                · refine OpFactM.value (FM_below _ _ _ _ _ _ _ _ _ _ _ _) fun a w2 hf D hb => ?_
                  have h1 : sl a 64 = .slice Av n cv := D 10 (by kernel_rfl)
                  have h2 : sl a 65 = .int .i64 n := D 11 (by kernel_rfl)
                  have h3 : sl a 66 = .int .i64 n := D 12 (by kernel_rfl)
                  refine ⟨.slice Av n n, w2, ?_, B0 _, hb, fun s _ h => h 67 rfl⟩
                  unfold sl at h1 h2 h3
                  simp at h1 h2 h3
                  unfold execOp
                  simp [Act.eval, h1, h2, h3, go_sem, Nat.not_lt.2 hcv]
                · refine OpFactM.value (FM_below _ _ _ _ _ _ _ _ _ _ _ _) fun a w2 hf D hb => ?_
                  have h0 : sl a 10 = .pointer (some ⟨bt, 0, none⟩) := hf 10 (by kernel_rfl)
                  have es := HT9.out w2 hb
                  refine ⟨.agg #[.int .i64 t1', .int .i64 t2'], w2, ?_, B0 _, hb, fun s _ h => h 68 rfl⟩
                  unfold sl at h0
                  simp at h0
                  simp [go_sem, h0, es]
                · refine OpFactM.value (FM_below _ _ _ _ _ _ _ _ _ _ _ _) fun a w2 hf D hb => ?_
                  have h1 : sl a 68 = .agg #[.int .i64 t1', .int .i64 t2'] := D 14 (by kernel_rfl)
                  refine ⟨.slice (some ⟨w2.heap.size, 0, none⟩) 1 1, w2.alloc (.cells #[.int .i64 t1', .int .i64 t2'] 36), ?_, Ba (B0 _) _, Ba hb _, fun s _ h => ⟨_, h 69 rfl, by simp, Flds.new w2 _ _⟩⟩
                  unfold sl at h1
                  simp at h1
                  simp [go_sem, h1]
                · refine OpFactM.value (FM_below _ _ _ _ _ _ _ _ _ _ _ _) fun a w2 hf D hb => ?_
                  have h1 : sl a 67 = .slice Av n n := D 13 (by kernel_rfl)
                  obtain ⟨g, h2, _, hfl⟩ : ∃ g, sl a 69 = .slice (some ⟨g, 0, none⟩) 1 1 ∧ g < w2.heap.size ∧ Flds w2 ⟨g, 0, none⟩ [.int .i64 t1', .int .i64 t2'] := D 15 (by kernel_rfl)
                  obtain ⟨c', w', hrun, h3, h4⟩ := run_append_full (w := w2) elemCt (by omega) 38 Av n _ _ (HRV9.out w2 hb) g _ rfl hfl (by simp [Value.oneCell']) (by omega) (by omega)
                  refine ⟨_, w', ?_, h3, Bt hb h3, fun s _ h => ⟨_, c', h 70 rfl, by rw [ctCsL_app]; exact own_more h4 hb.size⟩⟩
                  unfold sl at h1 h2
                  simp at h1 h2
                  unfold execOp
                  simp [resolve, invoke, builtin, Act.eval, h1, h2, hrun]
                · refine OpFactM.value (FM_below _ _ _ _ _ _ _ _ _ _ _ _) fun a w2 hf D hb => ?_
                  obtain ⟨g, c, h1, q1⟩ : ∃ g c, sl a 62 = .slice (some ⟨g, 0, none⟩) (n + 1) c ∧ w2.ownsRow w9.heap.size 3 1 (.slice (some ⟨g, 0, none⟩) (n + 1) c) (n + 1) (inCs (x.1 ++ [(k : Int)])) := D 8 (by kernel_rfl)
                  obtain ⟨g2, c2, h2, q2⟩ : ∃ g c, sl a 70 = .slice (some ⟨g, 0, none⟩) (n + 1) c ∧ w2.ownsRow w9.heap.size 36 2 (.slice (some ⟨g, 0, none⟩) (n + 1) c) (n + 1) (ctCsL (x.2 ++ [(t1', t2')])) := D 16 (by kernel_rfl)
                  refine ⟨.agg #[.slice (some ⟨g, 0, none⟩) (n + 1) c, .slice (some ⟨g2, 0, none⟩) (n + 1) c2], w2, ?_, B0 _, hb, fun s _ h => ⟨g, c, g2, c2, h 71 rfl, q1, q2⟩⟩
                  unfold sl at h1 h2
                  simp at h1 h2
                  simp [go_sem, h1, h2]
                · refine OpFactM.value (FM_below _ _ _ _ _ _ _ _ _ _ _ _) fun a w2 hf D hb => ?_
                  obtain ⟨g, c, g2, c2, h1, q1, q2⟩ : ∃ g c g2 c2, sl a 71 = .agg #[.slice (some ⟨g, 0, none⟩) (n + 1) c, .slice (some ⟨g2, 0, none⟩) (n + 1) c2] ∧ w2.ownsRow w9.heap.size 3 1 (.slice (some ⟨g, 0, none⟩) (n + 1) c) (n + 1) (inCs (x.1 ++ [(k : Int)])) ∧ w2.ownsRow w9.heap.size 36 2 (.slice (some ⟨g2, 0, none⟩) (n + 1) c2) (n + 1) (ctCsL (x.2 ++ [(t1', t2')])) := D 17 (by kernel_rfl)
                  have hL : LinkC w2 [.slice (some ⟨g, 0, none⟩) (n + 1) c, .slice (some ⟨g2, 0, none⟩) (n + 1) c2] (x.1 ++ [(k : Int)], x.2 ++ [(t1', t2')]) :=
                    ⟨_, _, rfl, slI_own (l := x.1 ++ [(k : Int)]) (by rw [List.length_append, HN1.out]; exact q1) (by rw [List.length_append, HN1.out]; simp; omega), slCt_own (l := x.2 ++ [(t1', t2')]) (by rw [List.length_append, HN2.out]; exact q2) (by rw [List.length_append, HN2.out]; simp; omega)⟩
                  refine ⟨.slice (some ⟨w2.heap.size, 0, none⟩) 1 1, w2.alloc (.cells #[.slice (some ⟨g, 0, none⟩) (n + 1) c, .slice (some ⟨g2, 0, none⟩) (n + 1) c2] 109), ?_, Ba (B0 _) _, Ba hb _, fun s _ h => ⟨_, _, _, h 72 rfl, by simp, Flds.new w2 _ _, hL.below (Ba (B0 _) _), rfl, rfl⟩⟩
                  unfold sl at h1
                  simp at h1
                  simp [go_sem, h1]
                · intro y w8 hb8 hF8
                  have h54 : y 54 = u7 := hF8 0 (by decide) rfl
                  obtain ⟨g8, e1, e2, h72, _, hfl8, hL8, ho1, ho2⟩ : ∃ g u1 u2, y 72 = .slice (some ⟨g, 0, none⟩) 1 1 ∧ g < w8.heap.size ∧ Flds w8 ⟨g, 0, none⟩ [u1, u2] ∧ LinkC w8 [u1, u2] (x.1 ++ [(k : Int)], x.2 ++ [(t1', t2')]) ∧ u1.oneCell' = true ∧ u2.oneCell' = true := hF8 18 (by decide) rfl
                  obtain ⟨cs, p1, p2, p3⟩ := OwnLk.below HO6.out hb8
                  have hbs : w1.heap.size ≤ w8.heap.size := Nat.le_trans HB6.out.size hb8.size
                  have hol := HOL.out
                  have HB8 := Lib.hid (Bt HB6.out hb8)
                  have HP1 := Lib.hid p1
                  have HP2 := Lib.hid p2
                  have HP3 := Lib.hid p3
                  have HF8 := Lib.hid hfl8
                  have HL8 := Lib.hid hL8
                  clear hF8 hb8 p1 p2 p3 hfl8 hL8
                  rw [aft19 (d0 := 54) (d1 := 55) (d2 := 56) (d3 := 57) (d4 := 58) (d5 := 59) (d6 := 60) (d7 := 61) (d8 := 62) (d9 := 63) (d10 := 64) (d11 := 65) (d12 := 66) (d13 := 67) (d14 := 68) (d15 := 69) (d16 := 70) (d17 := 71) (d18 := 72) (by kernel_rfl) rfl]
                  rw [h54, h72]
                  simp only [List.set_cons_succ, List.set_cons_zero]
                  refine from_list 21 (by kernel_rfl) (by simp only [List.take_succ_cons, List.take_zero, List.drop_succ_cons, List.drop_zero]; exact rfl) ?_
                  (intro Q' hQ' hX; clear hX)
                  go_wp2_with (at_builtin; refine wpList_appS elemLk (by omega) rfl _ _ rfl w1.heap.size u7 out.length _ rfl HP3.out ⟨g8, 0, none⟩ 1 [e1, e2] rfl rfl HF8.out (by simp [ho1, ho2]) (by omega) (by omega) hbs ?_; intro g cap w7 hown7 hg7 hgg; have HO7 := Lib.hid hown7; have HG7 := Lib.hid hg7; clear hown7 hg7 hgg)
                  refine from_end rfl ?_
                  go_wp2_with fail
                  go_roundg (cl - (k + 1))
                  case measure => omega
                  case rel => exact ⟨k + 1, out ++ [(x.1 ++ [(k : Int)], x.2 ++ [(t1', t2')])], by omega, by omega, by go_num, OwnL.snoc HP1.out HP2.out rfl (HL8.out.grown HG7.out (isC_own HP3.out (by decide) (by decide))) (fun _ _ h => h.grown HG7.out (isC_own HP3.out (by decide) (by decide))) HO7.out, HE2.out, Bg HB8.out HP3.out (Nat.le_refl _) HG7.out⟩
    · obtain rfl : k = cl := by omega
      have he : out = Cha.moreF a x (a1, a2) := by
        have h1 := HE.out
        rw [← HCL.out, Cha.moreD_end, List.append_nil] at h1
        exact h1
      subst he
      go_wp2_with fail
      go_ret
      exact ⟨_, rfl, OwnLk.more HO.out HB1.out.size, Bt HB1.out HB.out⟩
end Go.Proofs.YtahlfndlkfoikaaDoor
