/- Walks over chain's statements: follow. -/
import Derived.Test.YtahlfndlkfoikaaDoorHa
import Derived.Test.YtahlfndlkfoikaaDoorEg
namespace Go.Proofs.YtahlfndlkfoikaaDoor
open Go Go.RowKit Go.Shelf
/-- What holds behind each operation of a drawn region. -/
def FL14 (lim bx b1 : Nat) (ad2 : Addr) (cl cc jc : Nat) (to_ sh a2 : Int) (j : Nat) (s : Nat → Value) (w : World) : Prop :=
  match j with
  | 0 => s 52 = .pointer (some ⟨bx, 1, none⟩)
  | 1 => s 53 = .slice (some ad2) cl cc
  | 2 => s 54 = .int .i64 (jc : Nat)
  | 3 => s 55 = .pointer (some (ad2.add (jc * 5)))
  | 4 => s 56 = .pointer (some ⟨(ad2.add (jc * 5)).block, (ad2.add (jc * 5)).off + 2, none⟩)
  | 5 => s 57 = .int .i64 to_
  | 6 => s 58 = .pointer (some ⟨b1, 1, none⟩)
  | 7 => s 59 = .int .i64 a2
  | 8 => s 60 = .pointer (some ⟨bx, 1, none⟩)
  | 9 => s 61 = .slice (some ad2) cl cc
  | 10 => s 62 = .int .i64 (jc : Nat)
  | 11 => s 63 = .pointer (some (ad2.add (jc * 5)))
  | 12 => s 64 = .pointer (some ⟨(ad2.add (jc * 5)).block, (ad2.add (jc * 5)).off + 3, none⟩)
  | 13 => s 65 = .int .i64 sh
  | 14 => s 66 = .int .i64 (a2 + sh)
  | 15 => s 67 = .agg #[.int .i64 to_, .int .i64 (a2 + sh)]
  | 16 => ∃ b, s 11 = .pointer (some ⟨b, 0, none⟩) ∧ lim ≤ b ∧ ∃ x y, Blk w b 36 #[x, y]
  | 17 => ∃ b, s 11 = .pointer (some ⟨b, 0, none⟩) ∧ lim ≤ b ∧ Blk w b 36 #[.int .i64 to_, .int .i64 (a2 + sh)]
  | _ => True
def VL14 (j : Nat) : List Nat := match j with
  | 0 => [52] | 1 => [53] | 2 => [54] | 3 => [55] | 4 => [56] | 5 => [57] | 6 => [58] | 7 => [59] | 8 => [60] | 9 => [61] | 10 => [62] | 11 => [63] | 12 => [64] | 13 => [65] | 14 => [66] | 15 => [67] | 16 => [11] | 17 => [11] | _ => []
def EL14 (j : Nat) : Bool := j == 17
theorem FL14_V (lim bx b1 : Nat) (ad2 : Addr) (cl cc jc : Nat) (to_ sh a2 : Int) (j : Nat) (s s' : Nat → Value) (w : World) (h : ∀ t, t ∈ VL14 j → s' t = s t) (hF : FL14 lim bx b1 ad2 cl cc jc to_ sh a2 j s w) : FL14 lim bx b1 ad2 cl cc jc to_ sh a2 j s' w := by
  match j with
  | 0 => unfold FL14 at hF ⊢; simp only at hF ⊢; rw [h 52 (by simp [VL14])]; exact hF
  | 1 => unfold FL14 at hF ⊢; simp only at hF ⊢; rw [h 53 (by simp [VL14])]; exact hF
  | 2 => unfold FL14 at hF ⊢; simp only at hF ⊢; rw [h 54 (by simp [VL14])]; exact hF
  | 3 => unfold FL14 at hF ⊢; simp only at hF ⊢; rw [h 55 (by simp [VL14])]; exact hF
  | 4 => unfold FL14 at hF ⊢; simp only at hF ⊢; rw [h 56 (by simp [VL14])]; exact hF
  | 5 => unfold FL14 at hF ⊢; simp only at hF ⊢; rw [h 57 (by simp [VL14])]; exact hF
  | 6 => unfold FL14 at hF ⊢; simp only at hF ⊢; rw [h 58 (by simp [VL14])]; exact hF
  | 7 => unfold FL14 at hF ⊢; simp only at hF ⊢; rw [h 59 (by simp [VL14])]; exact hF
  | 8 => unfold FL14 at hF ⊢; simp only at hF ⊢; rw [h 60 (by simp [VL14])]; exact hF
  | 9 => unfold FL14 at hF ⊢; simp only at hF ⊢; rw [h 61 (by simp [VL14])]; exact hF
  | 10 => unfold FL14 at hF ⊢; simp only at hF ⊢; rw [h 62 (by simp [VL14])]; exact hF
  | 11 => unfold FL14 at hF ⊢; simp only at hF ⊢; rw [h 63 (by simp [VL14])]; exact hF
  | 12 => unfold FL14 at hF ⊢; simp only at hF ⊢; rw [h 64 (by simp [VL14])]; exact hF
  | 13 => unfold FL14 at hF ⊢; simp only at hF ⊢; rw [h 65 (by simp [VL14])]; exact hF
  | 14 => unfold FL14 at hF ⊢; simp only at hF ⊢; rw [h 66 (by simp [VL14])]; exact hF
  | 15 => unfold FL14 at hF ⊢; simp only at hF ⊢; rw [h 67 (by simp [VL14])]; exact hF
  | 16 => unfold FL14 at hF ⊢; simp only at hF ⊢; rw [h 11 (by simp [VL14])]; exact hF
  | 17 => unfold FL14 at hF ⊢; simp only at hF ⊢; rw [h 11 (by simp [VL14])]; exact hF
  | _ + 18 => trivial
theorem FL14_below (lim bx b1 : Nat) (ad2 : Addr) (cl cc jc : Nat) (to_ sh a2 : Int) (j : Nat) (s : Nat → Value) (w w' : World) (hb : Below w.heap.size w w') (hF : FL14 lim bx b1 ad2 cl cc jc to_ sh a2 j s w) : FL14 lim bx b1 ad2 cl cc jc to_ sh a2 j s w' := by
  match j with
  | 0 => exact hF
  | 1 => exact hF
  | 2 => exact hF
  | 3 => exact hF
  | 4 => exact hF
  | 5 => exact hF
  | 6 => exact hF
  | 7 => exact hF
  | 8 => exact hF
  | 9 => exact hF
  | 10 => exact hF
  | 11 => exact hF
  | 12 => exact hF
  | 13 => exact hF
  | 14 => exact hF
  | 15 => exact hF
  | 16 => obtain ⟨b, q1, q2, x, y, q3⟩ := hF; exact ⟨b, q1, q2, x, y, q3.below hb q3.lt⟩
  | 17 => obtain ⟨b, q1, q2, q3⟩ := hF; exact ⟨b, q1, q2, q3.below hb q3.lt⟩
  | _ + 18 => trivial
/-- What holds behind each operation of a drawn region. -/
def FL15 (bx b1 _tb : Nat) (vd vc : Value) (dr : Nat) (ad2 : Addr) (cl cc jc : Nat) (frm a1 to_ x2 er : Int) (d : Bool) (j : Nat) (s : Nat → Value) (_w : World) : Prop :=
  match j with
  | 0 => s 68 = .pointer (some ⟨bx, 1, none⟩)
  | 1 => s 69 = .slice (some ad2) cl cc
  | 2 => s 70 = .int .i64 (jc : Nat)
  | 3 => s 71 = .pointer (some (ad2.add (jc * 5)))
  | 4 => s 72 = .pointer (some ⟨(ad2.add (jc * 5)).block, (ad2.add (jc * 5)).off + 1, none⟩)
  | 5 => s 73 = .int .i64 frm
  | 6 => s 74 = .pointer (some ⟨b1, 0, none⟩)
  | 7 => s 75 = .int .i64 a1
  | 8 => s 76 = .bool d
  | 9 => s 77 = .bool d
  | 10 => d = false → s 78 = .agg #[vd, vc, .int .u64 dr]
  | 11 => d = false → s 79 = .agg #[.int .i64 to_, .int .i64 x2]
  | 12 => d = false → s 80 = .int .i64 er
  | 13 => d = false → s 81 = .bool (er != 0)
  | 14 => s 82 = .bool (d || er != 0)
  | _ => True
def VL15 (j : Nat) : List Nat := match j with
  | 0 => [68] | 1 => [69] | 2 => [70] | 3 => [71] | 4 => [72] | 5 => [73] | 6 => [74] | 7 => [75] | 8 => [76] | 9 => [77] | 10 => [78] | 11 => [79] | 12 => [80] | 13 => [81] | 14 => [82] | _ => []
def EL15 (j : Nat) : Bool := j == 14
theorem FL15_V (bx b1 _tb : Nat) (vd vc : Value) (dr : Nat) (ad2 : Addr) (cl cc jc : Nat) (frm a1 to_ x2 er : Int) (d : Bool) (j : Nat) (s s' : Nat → Value) (w : World) (h : ∀ t, t ∈ VL15 j → s' t = s t) (hF : FL15 bx b1 _tb vd vc dr ad2 cl cc jc frm a1 to_ x2 er d j s w) : FL15 bx b1 _tb vd vc dr ad2 cl cc jc frm a1 to_ x2 er d j s' w := by
  match j with
  | 0 => unfold FL15 at hF ⊢; simp only at hF ⊢; rw [h 68 (by simp [VL15])]; exact hF
  | 1 => unfold FL15 at hF ⊢; simp only at hF ⊢; rw [h 69 (by simp [VL15])]; exact hF
  | 2 => unfold FL15 at hF ⊢; simp only at hF ⊢; rw [h 70 (by simp [VL15])]; exact hF
  | 3 => unfold FL15 at hF ⊢; simp only at hF ⊢; rw [h 71 (by simp [VL15])]; exact hF
  | 4 => unfold FL15 at hF ⊢; simp only at hF ⊢; rw [h 72 (by simp [VL15])]; exact hF
  | 5 => unfold FL15 at hF ⊢; simp only at hF ⊢; rw [h 73 (by simp [VL15])]; exact hF
  | 6 => unfold FL15 at hF ⊢; simp only at hF ⊢; rw [h 74 (by simp [VL15])]; exact hF
  | 7 => unfold FL15 at hF ⊢; simp only at hF ⊢; rw [h 75 (by simp [VL15])]; exact hF
  | 8 => unfold FL15 at hF ⊢; simp only at hF ⊢; rw [h 76 (by simp [VL15])]; exact hF
  | 9 => unfold FL15 at hF ⊢; simp only at hF ⊢; rw [h 77 (by simp [VL15])]; exact hF
  | 10 => unfold FL15 at hF ⊢; simp only at hF ⊢; rw [h 78 (by simp [VL15])]; exact hF
  | 11 => unfold FL15 at hF ⊢; simp only at hF ⊢; rw [h 79 (by simp [VL15])]; exact hF
  | 12 => unfold FL15 at hF ⊢; simp only at hF ⊢; rw [h 80 (by simp [VL15])]; exact hF
  | 13 => unfold FL15 at hF ⊢; simp only at hF ⊢; rw [h 81 (by simp [VL15])]; exact hF
  | 14 => unfold FL15 at hF ⊢; simp only at hF ⊢; rw [h 82 (by simp [VL15])]; exact hF
  | _ + 15 => trivial
theorem FL15_below (bx b1 _tb : Nat) (vd vc : Value) (dr : Nat) (ad2 : Addr) (cl cc jc : Nat) (frm a1 to_ x2 er : Int) (d : Bool) (j : Nat) (s : Nat → Value) (w w' : World) (_hb : Below w.heap.size w w') (hF : FL15 bx b1 _tb vd vc dr ad2 cl cc jc frm a1 to_ x2 er d j s w) : FL15 bx b1 _tb vd vc dr ad2 cl cc jc frm a1 to_ x2 er d j s w' := by
  match j with
  | 0 => exact hF
  | 1 => exact hF
  | 2 => exact hF
  | 3 => exact hF
  | 4 => exact hF
  | 5 => exact hF
  | 6 => exact hF
  | 7 => exact hF
  | 8 => exact hF
  | 9 => exact hF
  | 10 => exact hF
  | 11 => exact hF
  | 12 => exact hF
  | 13 => exact hF
  | 14 => exact hF
  | _ + 15 => trivial
set_option maxRecDepth 100000 in
set_option maxHeartbeats 8000000 in
theorem lfollow_any (a : Cou.Ac) (hok : Cou.Ok a) (vd vc : Value) (hdr : a.drawn < 2 ^ 64) (key : Cou.Ct) (hin : Cou.InA a key) (cv : Value) (cs : List Int) (w : World) (F : Nat → Prop) (hA : AcAt F w vd vc a) (hC : SlI F w cv cs) (hcl : cs.length ≤ 100000) :
    Calls Tryd.prog 16 #[.agg #[vd, vc, .int .u64 a.drawn], .agg #[.int .i64 key.1, .int .i64 key.2], cv] w fun e w' => ∃ v, e = .returned (.tuple #[v, .int .i64 (Cha.followF a key cs).1]) ∧ SlCt (fun b => w.heap.size ≤ b) w' v (Cha.followF a key cs).2 ∧ Below w.heap.size w w' := by
  obtain ⟨Ad, cd, hvd, -, -⟩ := id hA.dv.open
  obtain ⟨Ac, cc, hvc, -, hac⟩ := id hA.cp.open
  subst hvd hvc
  obtain ⟨Av, cc2, rfl, -, -, hat⟩ := hC.open
  have hF := hA.inW
  obtain ⟨dl, hdl⟩ : ∃ dl, a.divs.length = dl := ⟨_, rfl⟩
  obtain ⟨cl, hcl2⟩ : ∃ cl, a.cps.length = cl := ⟨_, rfl⟩
  obtain ⟨n, hn⟩ : ∃ n, cs.length = n := ⟨_, rfl⟩
  have HCL := Lib.hid hcl2
  have HN := Lib.hid hn
  have hc64 : cl ≤ 40 := by rw [← hcl2]; exact hok.nc
  rw [hdl, hcl2] at hA
  rw [hn] at hcl
  rw [hdl, hcl2, hn]
  have HWR := Lib.hid (fun W (hb : Below w.heap.size w W) x => lwrong_any a (.slice Ad dl cd) (.slice Ac cl cc) x a.drawn W F (hA.onB hF hb))
  have HDR := Lib.hid (fun i (hi : i < 64) W => ldrawn4_any (.slice Ad dl cd) (.slice Ac cl cc) a.drawn hdr i hi W)
  obtain ⟨dr, hdrE⟩ : ∃ dr, a.drawn = dr := ⟨_, rfl⟩
  rw [hdrE] at HWR HDR hdr ⊢
  have HDE := Lib.hid hdrE
  clear hdrE
  have HAC := Lib.hid hac
  have HAT := Lib.hid hat
  have HF := Lib.hid hF
  have HOK := Lib.hid hok
  obtain ⟨k1, k2⟩ := key
  have HIN := Lib.hid hin
  obtain ⟨w1, hw1⟩ : ∃ w1 : World, (w.alloc (.cells #[.slice Ad dl cd, .slice Ac cl cc, .int .u64 dr] 33)).alloc (.cells #[.int .i64 k1, .int .i64 k2] 36) = w1 := ⟨_, rfl⟩
  obtain ⟨bx, hbx⟩ : ∃ bx, w.heap.size = bx := ⟨_, rfl⟩
  obtain ⟨b1, hb1⟩ : ∃ b1, bx + 1 = b1 := ⟨_, rfl⟩
  have KX : Blk w1 bx 33 #[.slice Ad dl cd, .slice Ac cl cc, .int .u64 dr] := by rw [← hw1, ← hbx]; exact (Blk.new _ _ _).alloc _
  have KB : Blk w1 b1 36 #[.int .i64 k1, .int .i64 k2] := by
    have := Blk.new (w.alloc (.cells #[.slice Ad dl cd, .slice Ac cl cc, .int .u64 dr] 33)) 36 #[.int .i64 k1, .int .i64 k2]
    rw [hw1] at this
    rw [← hb1, ← hbx]
    simpa using this
  have hs1 : w1.heap.size = b1 + 1 := by rw [← hw1, ← hb1, ← hbx]; simp
  have B1 : Below w.heap.size w w1 := by rw [← hw1]; exact Ba (Ba (B0 w) _) _
  have HS1 := Lib.hid hs1
  have HB1 := Lib.hid B1
  have HW1 := Lib.hid hw1
  have HBX := Lib.hid hbx
  have HE1 := Lib.hid hb1
  have HKX1 := Lib.hid KX
  have HKB1 := Lib.hid KB
  clear hA hC hac hat hF B1 hw1 hbx hb1 hdl hcl2 hn hdr hok hin KX KB hs1
  dsimp only
  by_cases h0 : n = 0
  · subst h0
    have HZ : Hid (Cha.followF a (k1, k2) cs = (13, [])) := Lib.hid (by
      have : cs = [] := List.length_eq_zero_iff.1 HN.out
      unfold Cha.followF; rw [if_pos this])
    go_enter Tryd.func16, Tryd.ntmps16
    go_upto_region 1 with fail
    rw [HW1.out, HBX.out]
    go_wp2_with fail
    go_ret2
    rw [HZ.out]
    exact ⟨_, rfl, Sl.nil_, HB1.out⟩
  have hne : cs ≠ [] := fun e => h0 (by rw [← HN.out, e]; rfl)
  have d0 : ((n : Int) == 0) = false := by simp; omega
  have HZ2 : Hid (Cha.followF a (k1, k2) cs = Cha.folF a true (k1, k2) [] cs) := Lib.hid (by unfold Cha.followF; rw [if_neg hne])
  clear hne
  go_enter Tryd.func16, Tryd.ntmps16
  go_upto_region 1 with fail
  rw [HW1.out, HBX.out, HE1.out]
  go_wp2_with fail
  clear d0
  go_loopg [8, 9] n (fun gg s8 s9 wr => ∃ (k : Nat) (at_ : Cou.Ct) (out : List Cou.Ct), k ≤ n ∧ n - k ≤ gg ∧ s9 = .int .i64 k ∧ Aside (out.length = k) ∧ Aside (Cou.InA a at_) ∧ Aside (OwnL w1.heap.size 36 2 CtC wr s8 out) ∧ Aside (Cha.folF a (decide (k = 0)) at_ out (cs.drop k) = Cha.folF a true (k1, k2) [] cs) ∧ Aside (Blk wr b1 36 #[.int .i64 at_.1, .int .i64 at_.2]) ∧ Aside (Blk wr bx 33 #[.slice Ad dl cd, .slice Ac cl cc, .int .u64 dr]) ∧ Aside (Below w.heap.size w wr) ∧ Aside (w1.heap.size ≤ wr.heap.size))
  case atStart => exact ⟨0, (k1, k2), [], by omega, by omega, rfl, rfl, HIN.out, OwnL.nil, (show Aside _ from by show _ = _; rw [List.drop_zero]; rfl), HKB1.out, HKX1.out, HB1.out, Nat.le_refl _⟩
  case round =>
    obtain ⟨k, at_, out, hk, hg, rfl, HOL, HIA, HO, HE, HKB, HKX, HB, HSZ⟩ := hrel
    replace HOL := Lib.hid HOL
    replace HIA := Lib.hid HIA
    replace HO := Lib.hid HO
    replace HE := Lib.hid HE
    replace HKB := Lib.hid HKB
    replace HKX := Lib.hid HKX
    replace HB := Lib.hid HB
    replace HSZ := Lib.hid HSZ
    have c0 := HKX.out.cell 0
    have c1 := HKX.out.cell 1
    have c2 := HKX.out.cell 2
    simp only [List.getElem?_toArray, List.getElem?_cons_zero, List.getElem?_cons_succ] at c0 c1 c2
    by_cases hlt : k < n
    · have hkl : (k : Int) < n := by omega
      have hkl2 : k < cs.length := by rw [HN.out]; exact hlt
      obtain ⟨ad, rfl, hfb, hfl⟩ := HAT.out k hkl2
      have hfb2 : (ad.add k).block < w.heap.size := by rw [block_of_add]; exact HF.out _ hfb
      have q0 := (HB.out.cell (p := ad.add k) hfb2).trans hfl
      have he := HE.out
      rw [List.drop_eq_getElem_cons hkl2, Cha.folF] at he
      have HE2 := Lib.hid he
      clear he HE hfl hfb hfb2
      generalize cs[k] = i at *
      have HBAD : Hid (∀ er, er ≠ 0 → Cha.badF a (decide (k = 0)) at_ out i = er → Cha.followF a (k1, k2) cs = (er, [])) := Lib.hid fun er h0 h => by
        rw [HZ2.out, ← HE2.out, h, if_neg h0]
      by_cases h1 : i < 0
      · have d1 : decide (i < 0) = true := decide_eq_true h1
        have HZ3 := Lib.hid (HBAD.out 11 (by decide) (by unfold Cha.badF; rw [if_pos (.inl h1)]))
        clear h1 HBAD HE2 HDR HWR
        go_wp2_with fail
        go_ret2
        rw [HZ3.out]
        exact ⟨_, rfl, Sl.nil_, HB.out⟩
      have d1 : decide (i < 0) = false := decide_eq_false h1
      by_cases h2 : (cl : Int) ≤ i
      · have d2 : decide ((cl : Int) ≤ i) = true := decide_eq_true h2
        have HZ3 := Lib.hid (HBAD.out 11 (by decide) (by unfold Cha.badF; rw [HCL.out, if_pos (.inr h2)]))
        clear h1 h2 HBAD HE2 HDR HWR
        go_wp2_with fail
        go_ret2
        rw [HZ3.out]
        exact ⟨_, rfl, Sl.nil_, HB.out⟩
      have d2 : decide ((cl : Int) ≤ i) = false := decide_eq_false h2
      obtain ⟨jc, rfl⟩ : ∃ jc : Nat, i = jc := ⟨i.toNat, by omega⟩
      have hj : jc < cl := by omega
      have hjI : (jc : Int) < cl := by omega
      have hj2 : jc < a.cps.length := by rw [HCL.out]; exact hj
      have HB0 : Hid (Cha.badF a (decide (k = 0)) at_ out jc = if dr.testBit jc = false then 19 else if decide (k = 0) = false ∧ Cou.thruF a jc = false then 7 else match Cou.stepF a jc at_ with | none => 24 | some t => if t ∈ out then 9 else 0) := Lib.hid (by
        unfold Cha.badF
        rw [HCL.out, if_neg (by omega), Int.toNat_natCast, HDE.out]
        rfl)
      have HTO : Hid (∀ t, Cou.stepF a jc at_ = some t → Cha.toF a at_ jc = t) := Lib.hid fun t h => by unfold Cha.toF; rw [Int.toNat_natCast, h]; rfl
      have hth : Cou.thruF a jc = a.cps[jc].thru := by unfold Cou.thruF; rw [List.getElem?_eq_getElem hj2]
      have HTH := Lib.hid hth
      have hx := HOK.out.cp a.cps[jc] (List.getElem_mem hj2)
      have hz : Cou.stepF a jc at_ = if a.cps[jc].from_ = at_.1 ∧ Cou.inB (a.divs.getD a.cps[jc].to.toNat (0, -1)) (at_.2 + a.cps[jc].shift) = true then some (a.cps[jc].to, at_.2 + a.cps[jc].shift) else none := by
        unfold Cou.stepF; rw [List.getElem?_eq_getElem hj2]
      have hwr : Cou.wrongF a (a.cps[jc].to, at_.2 + a.cps[jc].shift) = bif Cou.inB (a.divs.getD a.cps[jc].to.toNat (0, -1)) (at_.2 + a.cps[jc].shift) then 0 else 23 := by
        unfold Cou.wrongF
        rw [if_neg (by dsimp only; omega)]
      have HZS := Lib.hid hz
      have HWZ := Lib.hid hwr
      have hsh : -127 ≤ a.cps[jc].shift ∧ a.cps[jc].shift ≤ 127 := ⟨hx.2.2.2.2.1, hx.2.2.2.2.2⟩
      clear hz hwr hx
      obtain ⟨ad2, rfl, hfb, hfl⟩ := HAC.out jc hj2
      have hfb2 : (ad2.add (jc * 5)).block < w.heap.size := by rw [block_of_add]; exact HF.out _ hfb
      have HFL := Lib.hid (fun W (hb : Below w.heap.size w W) => hfl.below hb hfb2)
      clear h1 h2 hth hfl hfb hfb2
      generalize a.cps[jc] = y at *
      obtain ⟨nm, frm, to_, sh, th⟩ := y
      dsimp only at HTH HFL HZS HWZ hsh
      have HD := Lib.hid (fun W => HDR.out jc (by omega) W)
      clear hj2
      cases hd : dr.testBit jc with
      | false =>
        rw [hd] at HD
        have HZ3 := Lib.hid (HBAD.out 19 (by decide) (by rw [HB0.out, if_pos hd]))
        clear hd HBAD HB0 HE2 HDR HWR
        go_wp2_with (go_at_call 35; (with_reducible refine ((HD.out _).mono ?_)); rintro e w4 ⟨rfl, hb4⟩; have HB4 := Lib.hid (Bt HB.out hb4); clear hb4)
        go_ret2
        rw [HZ3.out]
        exact ⟨_, rfl, Sl.nil_, HB4.out⟩
      | true =>
        rw [hd] at HD
        have hb0 := HB0.out
        rw [if_neg (by rw [hd]; decide)] at hb0
        have HB0 := Lib.hid hb0
        clear hd hb0 HDR
        obtain ⟨a1, a2⟩ := at_
        have hsm := HIA.out.key HOK.out
        dsimp only at hsm HZS HWZ
        have v1 : IntKind.i64.wrap (a2 + sh) = a2 + sh := IntWalk.i64_in _ (by omega)
        have hkd : decide ((0 : Int) < k) = !decide (k = 0) := by
          by_cases h : k = 0
          · subst h; rfl
          · rw [decide_eq_false h]; exact decide_eq_true (by omega)
        have hkd2 : decide (0 < k) = !decide (k = 0) := by
          by_cases h : k = 0
          · subst h; rfl
          · rw [decide_eq_false h]; exact decide_eq_true (by omega)
        by_cases h3 : decide (k = 0) = false ∧ Cou.thruF a jc = false
        · have HZ3 := Lib.hid (HBAD.out 7 (by decide) (by rw [HB0.out, if_pos h3]))
          obtain ⟨h3a, h3b⟩ := h3
          rw [HTH.out] at h3b
          subst h3b
          rw [h3a, Bool.not_false] at hkd hkd2
          clear HBAD HB0 HE2 HWR h3a
          go_wp2_with (go_at_call 35; (with_reducible refine ((HD.out _).mono ?_)); rintro e w4 ⟨rfl, hb4⟩; have HB4 := Lib.hid (Bt HB.out hb4); have hX := HKX.out.below hb4 HKX.out.lt; have c1' := hX.cell 1; simp only [List.getElem?_toArray, List.getElem?_cons_zero, List.getElem?_cons_succ] at c1'; have q4 := (HFL.out w4 HB4.out).f4 rfl; clear hb4 c0 c1 c2 hX)
          go_ret2
          rw [HZ3.out]
          exact ⟨_, rfl, Sl.nil_, HB4.out⟩
        have hb0 := HB0.out
        rw [if_neg h3] at hb0
        have HB0 := Lib.hid hb0
        have hcs : decide (k = 0) = true ∨ (decide (k = 0) = false ∧ th = true) := by
          rw [HTH.out] at h3
          cases hq : decide (k = 0) with
          | true => exact .inl rfl
          | false =>
            rw [hq] at h3
            cases th with
            | true => exact .inr ⟨rfl, rfl⟩
            | false => exact absurd ⟨rfl, rfl⟩ h3
        clear h3 hb0
        rcases hcs with hq | ⟨hq, rfl⟩
        all_goals
          rw [hq] at hkd hkd2
          simp only [Bool.not_true, Bool.not_false] at hkd hkd2
          clear hq
          go_upto_region 14 with (go_at_call 35; (with_reducible refine ((HD.out _).mono ?_)); rintro e w4 ⟨rfl, hb4⟩; have HB4 := Lib.hid (Bt HB.out hb4); have HX4 := Lib.hid (HKX.out.below hb4 HKX.out.lt); have HK4 := Lib.hid (HKB.out.below hb4 HKB.out.lt); have HO4 := Lib.hid (own_bel HO.out hb4); have HSZ4 := Lib.hid (Nat.le_trans HSZ.out hb4.size); have c1' := HX4.out.cell 1; simp only [List.getElem?_toArray, List.getElem?_cons_zero, List.getElem?_cons_succ] at c1'; have q4 := (HFL.out w4 HB4.out).f4 rfl; clear hb4 c0 c1 c2)
          have HL4 := Lib.hid (fun W (hb : Below w4.heap.size w4 W) => Bt HB4.out hb)
          have HS := Lib.hid (fun W (hb : Below w4.heap.size w4 W) => (show (W.cell? ⟨bx, 0, none⟩ = some (.slice Ad dl cd) ∧ W.cell? ⟨bx, 1, none⟩ = some (.slice (some ad2) cl cc) ∧ W.cell? ⟨bx, 2, none⟩ = some (.int .u64 dr)) ∧ (W.cell? ⟨b1, 0, none⟩ = some (.int .i64 a1) ∧ W.cell? ⟨b1, 1, none⟩ = some (.int .i64 a2)) ∧
            W.cell? ⟨(ad2.add (jc * 5)).block, (ad2.add (jc * 5)).off + 1, none⟩ = some (.int .i64 frm) ∧ W.cell? ⟨(ad2.add (jc * 5)).block, (ad2.add (jc * 5)).off + 2, none⟩ = some (.int .i64 to_) ∧ W.cell? ⟨(ad2.add (jc * 5)).block, (ad2.add (jc * 5)).off + 3, none⟩ = some (.int .i64 sh) from
            ⟨⟨(Bc hb HX4.out.lt).trans (HX4.out.cell 0), (Bc hb HX4.out.lt).trans (HX4.out.cell 1), (Bc hb HX4.out.lt).trans (HX4.out.cell 2)⟩, ⟨(Bc hb HK4.out.lt).trans (HK4.out.cell 0), (Bc hb HK4.out.lt).trans (HK4.out.cell 1)⟩, (HFL.out W (HL4.out W hb)).f1 rfl, (HFL.out W (HL4.out W hb)).f2 rfl, (HFL.out W (HL4.out W hb)).f3 rfl⟩))
          have hBB4 : ∀ (L : Nat → Bool) (i : Nat) (W W' : World), Below W.heap.size W W' → Below w4.heap.size w4 W → Below w4.heap.size w4 W' := fun _ _ _ _ hb h => Bt h hb
          clear c1' q4
          refine region_blocks (by kernel_rfl) ?_
          refine from_lawW 18 EL14 (fun _ W => Below w4.heap.size w4 W) (FL14 w4.heap.size bx b1 ad2 cl cc jc to_ sh a2) VL14 (by kernel_rfl) rfl (FL14_V _ _ _ _ _ _ _ _ _ _) (by kernel_rfl) (by kernel_rfl) ((B0 w4).drew) ⟨?_, ?_, ?_, ?_, ?_, ?_, ?_, ?_, ?_, ?_, ?_, ?_, ?_, ?_, ?_, ?_, ?_, ?_, trivial⟩ ?_
          · refine OpFactW.value rfl (FL14_below _ _ _ _ _ _ _ _ _ _) hBB4 fun L a w2 hl hf D hb => ?_
            have h0 : sl a 3 = .pointer (some ⟨bx, 0, none⟩) := hf 3 (by kernel_rfl)
            refine ⟨.pointer (some ⟨bx, 1, none⟩), w2, ?_, B0 _, fun s _ h => h 52 rfl⟩
            unfold sl at h0
            simp at h0
            simp [go_sem, h0]
          · refine OpFactW.value rfl (FL14_below _ _ _ _ _ _ _ _ _ _) hBB4 fun L a w2 hl hf D hb => ?_
            have h0 : sl a 52 = .pointer (some ⟨bx, 1, none⟩) := D 0 (by kernel_rfl)
            have es := HS.out w2 hb
            refine ⟨.slice (some ad2) cl cc, w2, ?_, B0 _, fun s _ h => h 53 rfl⟩
            unfold sl at h0
            simp at h0
            simp [go_sem, h0, es]
          · refine OpFactW.value rfl (FL14_below _ _ _ _ _ _ _ _ _ _) hBB4 fun L a w2 hl hf D hb => ?_
            have h0 : sl a 10 = .int .i64 (jc : Nat) := hf 10 (by kernel_rfl)
            refine ⟨.int .i64 (jc : Nat), w2, ?_, B0 _, fun s _ h => h 54 rfl⟩
            unfold sl at h0
            simp [go_sem, h0]
          · refine OpFactW.value rfl (FL14_below _ _ _ _ _ _ _ _ _ _) hBB4 fun L a w2 hl hf D hb => ?_
            have h1 : sl a 53 = .slice (some ad2) cl cc := D 1 (by kernel_rfl)
            have h2 : sl a 54 = .int .i64 (jc : Nat) := D 2 (by kernel_rfl)
            refine ⟨.pointer (some (ad2.add (jc * 5))), w2, ?_, B0 _, fun s _ h => h 55 rfl⟩
            unfold sl at h1 h2
            simp at h1 h2
            simp [go_sem, h1, h2, hjI]
          · refine OpFactW.value rfl (FL14_below _ _ _ _ _ _ _ _ _ _) hBB4 fun L a w2 hl hf D hb => ?_
            have h1 : sl a 55 = .pointer (some (ad2.add (jc * 5))) := D 3 (by kernel_rfl)
            refine ⟨.pointer (some ⟨(ad2.add (jc * 5)).block, (ad2.add (jc * 5)).off + 2, none⟩), w2, ?_, B0 _, fun s _ h => h 56 rfl⟩
            unfold sl at h1
            simp at h1
            simp [go_sem, h1]
          · refine OpFactW.value rfl (FL14_below _ _ _ _ _ _ _ _ _ _) hBB4 fun L a w2 hl hf D hb => ?_
            have h0 : sl a 56 = .pointer (some ⟨(ad2.add (jc * 5)).block, (ad2.add (jc * 5)).off + 2, none⟩) := D 4 (by kernel_rfl)
            have es := HS.out w2 hb
            refine ⟨.int .i64 to_, w2, ?_, B0 _, fun s _ h => h 57 rfl⟩
            unfold sl at h0
            simp at h0
            simp [go_sem, h0, es]
          · refine OpFactW.value rfl (FL14_below _ _ _ _ _ _ _ _ _ _) hBB4 fun L a w2 hl hf D hb => ?_
            have h0 : sl a 4 = .pointer (some ⟨b1, 0, none⟩) := hf 4 (by kernel_rfl)
            refine ⟨.pointer (some ⟨b1, 1, none⟩), w2, ?_, B0 _, fun s _ h => h 58 rfl⟩
            unfold sl at h0
            simp at h0
            simp [go_sem, h0]
          · refine OpFactW.value rfl (FL14_below _ _ _ _ _ _ _ _ _ _) hBB4 fun L a w2 hl hf D hb => ?_
            have h0 : sl a 58 = .pointer (some ⟨b1, 1, none⟩) := D 6 (by kernel_rfl)
            have es := HS.out w2 hb
            refine ⟨.int .i64 a2, w2, ?_, B0 _, fun s _ h => h 59 rfl⟩
            unfold sl at h0
            simp at h0
            simp [go_sem, h0, es]
          · refine OpFactW.value rfl (FL14_below _ _ _ _ _ _ _ _ _ _) hBB4 fun L a w2 hl hf D hb => ?_
            have h0 : sl a 3 = .pointer (some ⟨bx, 0, none⟩) := hf 3 (by kernel_rfl)
            refine ⟨.pointer (some ⟨bx, 1, none⟩), w2, ?_, B0 _, fun s _ h => h 60 rfl⟩
            unfold sl at h0
            simp at h0
            simp [go_sem, h0]
          · refine OpFactW.value rfl (FL14_below _ _ _ _ _ _ _ _ _ _) hBB4 fun L a w2 hl hf D hb => ?_
            have h0 : sl a 60 = .pointer (some ⟨bx, 1, none⟩) := D 8 (by kernel_rfl)
            have es := HS.out w2 hb
            refine ⟨.slice (some ad2) cl cc, w2, ?_, B0 _, fun s _ h => h 61 rfl⟩
            unfold sl at h0
            simp at h0
            simp [go_sem, h0, es]
          · refine OpFactW.value rfl (FL14_below _ _ _ _ _ _ _ _ _ _) hBB4 fun L a w2 hl hf D hb => ?_
            have h0 : sl a 10 = .int .i64 (jc : Nat) := hf 10 (by kernel_rfl)
            refine ⟨.int .i64 (jc : Nat), w2, ?_, B0 _, fun s _ h => h 62 rfl⟩
            unfold sl at h0
            simp [go_sem, h0]
          · refine OpFactW.value rfl (FL14_below _ _ _ _ _ _ _ _ _ _) hBB4 fun L a w2 hl hf D hb => ?_
            have h1 : sl a 61 = .slice (some ad2) cl cc := D 9 (by kernel_rfl)
            have h2 : sl a 62 = .int .i64 (jc : Nat) := D 10 (by kernel_rfl)
            refine ⟨.pointer (some (ad2.add (jc * 5))), w2, ?_, B0 _, fun s _ h => h 63 rfl⟩
            unfold sl at h1 h2
            simp at h1 h2
            simp [go_sem, h1, h2, hjI]
          · refine OpFactW.value rfl (FL14_below _ _ _ _ _ _ _ _ _ _) hBB4 fun L a w2 hl hf D hb => ?_
            have h1 : sl a 63 = .pointer (some (ad2.add (jc * 5))) := D 11 (by kernel_rfl)
            refine ⟨.pointer (some ⟨(ad2.add (jc * 5)).block, (ad2.add (jc * 5)).off + 3, none⟩), w2, ?_, B0 _, fun s _ h => h 64 rfl⟩
            unfold sl at h1
            simp at h1
            simp [go_sem, h1]
          · refine OpFactW.value rfl (FL14_below _ _ _ _ _ _ _ _ _ _) hBB4 fun L a w2 hl hf D hb => ?_
            have h0 : sl a 64 = .pointer (some ⟨(ad2.add (jc * 5)).block, (ad2.add (jc * 5)).off + 3, none⟩) := D 12 (by kernel_rfl)
            have es := HS.out w2 hb
            refine ⟨.int .i64 sh, w2, ?_, B0 _, fun s _ h => h 65 rfl⟩
            unfold sl at h0
            simp at h0
            simp [go_sem, h0, es]
          · refine OpFactW.value rfl (FL14_below _ _ _ _ _ _ _ _ _ _) hBB4 fun L a w2 hl hf D hb => ?_
            have h1 : sl a 59 = .int .i64 a2 := D 7 (by kernel_rfl)
            have h2 : sl a 65 = .int .i64 sh := D 13 (by kernel_rfl)
            refine ⟨.int .i64 (a2 + sh), w2, ?_, B0 _, fun s _ h => h 66 rfl⟩
            unfold sl at h1 h2
            simp at h1 h2
            simp [go_sem, h1, h2, v1]
          · refine OpFactW.value rfl (FL14_below _ _ _ _ _ _ _ _ _ _) hBB4 fun L a w2 hl hf D hb => ?_
            have h1 : sl a 57 = .int .i64 to_ := D 5 (by kernel_rfl)
            have h2 : sl a 66 = .int .i64 (a2 + sh) := D 14 (by kernel_rfl)
            refine ⟨.agg #[.int .i64 to_, .int .i64 (a2 + sh)], w2, ?_, B0 _, fun s _ h => h 67 rfl⟩
            unfold sl at h1 h2
            simp at h1 h2
            simp [go_sem, h1, h2]
          · refine OpFactW.value rfl (FL14_below _ _ _ _ _ _ _ _ _ _) hBB4 fun L a w2 hl hf D hb => ?_
            refine ⟨.pointer (some ⟨w2.heap.size, 0, none⟩), w2.alloc (.cells #[.int .i64 0, .int .i64 0] 36), ?_, Ba (B0 _) _, fun s _ h => ⟨w2.heap.size, h 11 rfl, hb.size, _, _, Blk.new _ _ _⟩⟩
            first | kernel_rfl | simp [go_sem, zeroCt]
          · refine OpFactW.skip rfl fun L a w2 hl hf D hb => ?_
            obtain ⟨b, h8, hlb, x, y, hK⟩ : ∃ b, sl a 11 = .pointer (some ⟨b, 0, none⟩) ∧ w4.heap.size ≤ b ∧ ∃ x y, Blk w2 b 36 #[x, y] := D 16 (by kernel_rfl)
            have h1 : sl a 67 = .agg #[.int .i64 to_, .int .i64 (a2 + sh)] := D 15 (by kernel_rfl)
            have hK2 : Blk ((w2.setCell ⟨b, 0, none⟩ (.int .i64 to_)).setCell ⟨b, 1, none⟩ (.int .i64 (a2 + sh))) b 36 #[.int .i64 to_, .int .i64 (a2 + sh)] := by simpa using (hK.set_ 0 (.int .i64 to_)).set_ 1 (.int .i64 (a2 + sh))
            have e0 := hK.frozen 0
            have e1 := hK.frozen 1
            have e2 := hK.cell 0
            have e3 := hK.cell 1
            simp only [List.getElem?_toArray, List.getElem?_cons_zero, List.getElem?_cons_succ] at e2 e3
            refine ⟨(w2.setCell ⟨b, 0, none⟩ (.int .i64 to_)).setCell ⟨b, 1, none⟩ (.int .i64 (a2 + sh)), ?_, Bs (Bs hb _ hlb) _ hlb, fun j hj hE hF => ?_, fun s ho => ⟨b, (ho 11 (by simp)).trans h8, hlb, hK2⟩⟩
            · unfold sl at h8 h1
              simp at h8 h1
              simp [go_sem, h8, h1, e0, e1, e2, e3]
            · match j with
              | 0 => exact hF
              | 1 => exact hF
              | 2 => exact hF
              | 3 => exact hF
              | 4 => exact hF
              | 5 => exact hF
              | 6 => exact hF
              | 7 => exact hF
              | 8 => exact hF
              | 9 => exact hF
              | 10 => exact hF
              | 11 => exact hF
              | 12 => exact hF
              | 13 => exact hF
              | 14 => exact hF
              | 15 => exact hF
              | 16 => exact ⟨b, h8, hlb, _, _, hK2⟩
              | 17 => exact absurd rfl hj
              | _ + 18 => trivial
          intro L y w8 hb8 hF8
          obtain ⟨tb, h11, htb, hTB⟩ : ∃ b, y 11 = .pointer (some ⟨b, 0, none⟩) ∧ w4.heap.size ≤ b ∧ Blk w8 b 36 #[.int .i64 to_, .int .i64 (a2 + sh)] := hF8 17 (by decide) rfl
          have HTB := Lib.hid hTB
          have HB8 := Lib.hid hb8
          have HTN : Hid (∀ b, u8.ownBlock = some b → b < tb) := Lib.hid fun b h => by have h1 := (HO4.out.lt b h).2; omega
          clear hF8 hb8 hTB htb
          rw [aft17 (d0 := 52) (d1 := 53) (d2 := 54) (d3 := 55) (d4 := 56) (d5 := 57) (d6 := 58) (d7 := 59) (d8 := 60) (d9 := 61) (d10 := 62) (d11 := 63) (d12 := 64) (d13 := 65) (d14 := 66) (d15 := 67) (d16 := 11) (by kernel_rfl) rfl]
          rw [h11]
          simp only [List.set_cons_succ, List.set_cons_zero]
          refine from_end rfl ?_
          go_upto_region 15 with fail
          obtain ⟨er, her⟩ : ∃ er, Cou.wrongF a (to_, a2 + sh) = er := ⟨_, rfl⟩
          have HWC := fun W (hb : Below w8.heap.size w8 W) => HWR.out W (HL4.out W (Bt HB8.out hb)) (to_, a2 + sh)
          rw [her] at HWC
          replace HWC := Lib.hid HWC
          have HS5 := Lib.hid (fun W (hb : Below w8.heap.size w8 W) => And.intro (HS.out W (Bt HB8.out hb)) (show W.cell? ⟨tb, 0, none⟩ = some (.int .i64 to_) ∧ W.cell? ⟨tb, 1, none⟩ = some (.int .i64 (a2 + sh)) from ⟨(Bc hb HTB.out.lt).trans (HTB.out.cell 0), (Bc hb HTB.out.lt).trans (HTB.out.cell 1)⟩))
          have hBB5 : ∀ (L : Nat → Bool) (i : Nat) (W W' : World), Below W.heap.size W W' → Below w8.heap.size w8 W → Below w8.heap.size w8 W' := fun _ _ _ _ hb h => Bt h hb
          have hwz := HWZ.out
          rw [her] at hwz
          have HZ4 := HZS
          clear HWZ her
          by_cases hfa : frm = a1
          · have dfa : (frm != a1) = false := by simp [hfa]
            have hst : er ≠ 0 → Cou.stepF a jc (a1, a2) = none := fun h => by
              rw [HZ4.out, if_neg]
              rintro ⟨-, h2⟩
              rw [h2] at hwz
              exact h hwz
            have hst2 : er = 0 → Cou.stepF a jc (a1, a2) = some (to_, a2 + sh) := fun h => by
              rw [HZ4.out, if_pos]
              refine ⟨hfa, ?_⟩
              cases h2 : Cou.inB (a.divs.getD to_.toNat (0, -1)) (a2 + sh) with
              | true => rfl
              | false => rw [h2, h] at hwz; cases hwz
            have HST1 := Lib.hid hst
            have HST2 := Lib.hid hst2
            clear hst hst2 hwz hfa HZ4 HZS
            refine region_blocks (by kernel_rfl) ?_
            refine from_lawW 15 EL15 (fun _ W => Below w8.heap.size w8 W) (FL15 bx b1 tb (.slice Ad dl cd) (.slice (some ad2) cl cc) dr ad2 cl cc jc frm a1 to_ (a2 + sh) er false) VL15 (by kernel_rfl) rfl (FL15_V _ _ _ _ _ _ _ _ _ _ _ _ _ _ _ _) (by kernel_rfl) (by kernel_rfl) ((B0 w8).drew) ⟨?_, ?_, ?_, ?_, ?_, ?_, ?_, ?_, ?_, ?_, ?_, ?_, ?_, ?_, ?_, trivial⟩ ?_
            · refine OpFactW.value rfl (FL15_below _ _ _ _ _ _ _ _ _ _ _ _ _ _ _ _) hBB5 fun L a w2 hl hf D hb => ?_
              have h0 : sl a 3 = .pointer (some ⟨bx, 0, none⟩) := hf 3 (by kernel_rfl)
              refine ⟨.pointer (some ⟨bx, 1, none⟩), w2, ?_, B0 _, fun s _ h => h 68 rfl⟩
              unfold sl at h0
              simp at h0
              simp [go_sem, h0]
            · refine OpFactW.value rfl (FL15_below _ _ _ _ _ _ _ _ _ _ _ _ _ _ _ _) hBB5 fun L a w2 hl hf D hb => ?_
              have h0 : sl a 68 = .pointer (some ⟨bx, 1, none⟩) := D 0 (by kernel_rfl)
              have es := HS5.out w2 hb
              refine ⟨.slice (some ad2) cl cc, w2, ?_, B0 _, fun s _ h => h 69 rfl⟩
              unfold sl at h0
              simp at h0
              simp [go_sem, h0, es]
            · refine OpFactW.value rfl (FL15_below _ _ _ _ _ _ _ _ _ _ _ _ _ _ _ _) hBB5 fun L a w2 hl hf D hb => ?_
              have h0 : sl a 10 = .int .i64 (jc : Nat) := hf 10 (by kernel_rfl)
              refine ⟨.int .i64 (jc : Nat), w2, ?_, B0 _, fun s _ h => h 70 rfl⟩
              unfold sl at h0
              simp [go_sem, h0]
            · refine OpFactW.value rfl (FL15_below _ _ _ _ _ _ _ _ _ _ _ _ _ _ _ _) hBB5 fun L a w2 hl hf D hb => ?_
              have h1 : sl a 69 = .slice (some ad2) cl cc := D 1 (by kernel_rfl)
              have h2 : sl a 70 = .int .i64 (jc : Nat) := D 2 (by kernel_rfl)
              refine ⟨.pointer (some (ad2.add (jc * 5))), w2, ?_, B0 _, fun s _ h => h 71 rfl⟩
              unfold sl at h1 h2
              simp at h1 h2
              simp [go_sem, h1, h2, hjI]
            · refine OpFactW.value rfl (FL15_below _ _ _ _ _ _ _ _ _ _ _ _ _ _ _ _) hBB5 fun L a w2 hl hf D hb => ?_
              have h1 : sl a 71 = .pointer (some (ad2.add (jc * 5))) := D 3 (by kernel_rfl)
              refine ⟨.pointer (some ⟨(ad2.add (jc * 5)).block, (ad2.add (jc * 5)).off + 1, none⟩), w2, ?_, B0 _, fun s _ h => h 72 rfl⟩
              unfold sl at h1
              simp at h1
              simp [go_sem, h1]
            · refine OpFactW.value rfl (FL15_below _ _ _ _ _ _ _ _ _ _ _ _ _ _ _ _) hBB5 fun L a w2 hl hf D hb => ?_
              have h0 : sl a 72 = .pointer (some ⟨(ad2.add (jc * 5)).block, (ad2.add (jc * 5)).off + 1, none⟩) := D 4 (by kernel_rfl)
              have es := HS5.out w2 hb
              refine ⟨.int .i64 frm, w2, ?_, B0 _, fun s _ h => h 73 rfl⟩
              unfold sl at h0
              simp at h0
              simp [go_sem, h0, es]
            · refine OpFactW.value rfl (FL15_below _ _ _ _ _ _ _ _ _ _ _ _ _ _ _ _) hBB5 fun L a w2 hl hf D hb => ?_
              have h0 : sl a 4 = .pointer (some ⟨b1, 0, none⟩) := hf 4 (by kernel_rfl)
              refine ⟨.pointer (some ⟨b1, 0, none⟩), w2, ?_, B0 _, fun s _ h => h 74 rfl⟩
              unfold sl at h0
              simp at h0
              simp [go_sem, h0]
            · refine OpFactW.value rfl (FL15_below _ _ _ _ _ _ _ _ _ _ _ _ _ _ _ _) hBB5 fun L a w2 hl hf D hb => ?_
              have h0 : sl a 74 = .pointer (some ⟨b1, 0, none⟩) := D 6 (by kernel_rfl)
              have es := HS5.out w2 hb
              refine ⟨.int .i64 a1, w2, ?_, B0 _, fun s _ h => h 75 rfl⟩
              unfold sl at h0
              simp at h0
              simp [go_sem, h0, es]
            · refine OpFactW.value rfl (FL15_below _ _ _ _ _ _ _ _ _ _ _ _ _ _ _ _) hBB5 fun L a w2 hl hf D hb => ?_
              have h1 : sl a 73 = .int .i64 frm := D 5 (by kernel_rfl)
              have h2 : sl a 75 = .int .i64 a1 := D 7 (by kernel_rfl)
              refine ⟨.bool false, w2, ?_, B0 _, fun s _ h => h 76 rfl⟩
              unfold sl at h1 h2
              simp at h1 h2
              simp [go_sem, h1, h2, dfa]
            · refine OpFactW.value rfl (FL15_below _ _ _ _ _ _ _ _ _ _ _ _ _ _ _ _) hBB5 fun L a w2 hl hf D hb => ?_
              have h1 : sl a 76 = .bool false := D 8 (by kernel_rfl)
              refine ⟨.bool false, w2, ?_, B0 _, fun s _ h => h 77 rfl⟩
              unfold sl at h1
              simp at h1
              simp [go_sem, h1]
            · refine OpFactW.on (g := 9) (d := 77) rfl rfl (fun s w h => h) (by kernel_rfl) fun L a w2 hl hf D hb => OpFactW.wp_value (L := L) (FL15_below _ _ _ _ _ _ _ _ _ _ _ _ _ _ _ _) hBB5 hb ?_
              have h0 : sl a 3 = .pointer (some ⟨bx, 0, none⟩) := hf 3 (by kernel_rfl)
              have es := HS5.out w2 hb
              refine ⟨.agg #[.slice Ad dl cd, .slice (some ad2) cl cc, .int .u64 dr], w2, ?_, B0 _, fun s _ h _ => h 78 rfl⟩
              unfold sl at h0
              simp at h0
              simp [go_sem, h0, es]
            · refine OpFactW.on (g := 9) (d := 77) rfl rfl (fun s w h => h) (by kernel_rfl) fun L a w2 hl hf D hb => OpFactW.wp_value (L := L) (FL15_below _ _ _ _ _ _ _ _ _ _ _ _ _ _ _ _) hBB5 hb ?_
              have h0 : sl a 11 = .pointer (some ⟨tb, 0, none⟩) := hf 11 (by kernel_rfl)
              have es := HS5.out w2 hb
              refine ⟨.agg #[.int .i64 to_, .int .i64 (a2 + sh)], w2, ?_, B0 _, fun s _ h _ => h 79 rfl⟩
              unfold sl at h0
              simp at h0
              simp [go_sem, h0, es]
            · refine OpFactW.on (g := 9) (d := 77) rfl rfl (fun s w h => h) (by kernel_rfl) fun L a w2 hl hf D hb => OpFactW.wp_call (L := L) (FL15_below _ _ _ _ _ _ _ _ _ _ _ _ _ _ _ _) hBB5 hb ?_
              have h1 : sl a 78 = .agg #[.slice Ad dl cd, .slice (some ad2) cl cc, .int .u64 dr] := (show false = false → sl a 78 = .agg #[.slice Ad dl cd, .slice (some ad2) cl cc, .int .u64 dr] from D 10 (by kernel_rfl)) rfl
              have h2 : sl a 79 = .agg #[.int .i64 to_, .int .i64 (a2 + sh)] := (show false = false → sl a 79 = .agg #[.int .i64 to_, .int .i64 (a2 + sh)] from D 11 (by kernel_rfl)) rfl
              refine ⟨28, #[.agg #[.slice Ad dl cd, .slice (some ad2) cl cc, .int .u64 dr], .agg #[.int .i64 to_, .int .i64 (a2 + sh)]], ?_, (HWC.out w2 hb).mono ?_⟩
              · unfold sl at h1 h2
                simp at h1 h2
                simp [go_sem, h1, h2]
              · rintro e w' ⟨rfl, hb3⟩
                exact ⟨_, rfl, hb3, fun s _ h _ => h 80 rfl⟩
            · refine OpFactW.on (g := 9) (d := 77) rfl rfl (fun s w h => h) (by kernel_rfl) fun L a w2 hl hf D hb => OpFactW.wp_value (L := L) (FL15_below _ _ _ _ _ _ _ _ _ _ _ _ _ _ _ _) hBB5 hb ?_
              have h1 : sl a 80 = .int .i64 er := (show false = false → sl a 80 = .int .i64 er from D 12 (by kernel_rfl)) rfl
              refine ⟨.bool (er != 0), w2, ?_, B0 _, fun s _ h _ => h 81 rfl⟩
              unfold sl at h1
              simp at h1
              simp [go_sem, h1]
            · refine OpFactW.value rfl (FL15_below _ _ _ _ _ _ _ _ _ _ _ _ _ _ _ _) hBB5 fun L a w2 hl hf D hb => ?_
              have h1 : sl a 77 = .bool false := D 9 (by kernel_rfl)
              have h2 : sl a 81 = .bool (er != 0) := (show false = false → sl a 81 = .bool (er != 0) from D 13 (by kernel_rfl)) rfl
              refine ⟨.bool (false || er != 0), w2, ?_, B0 _, fun s _ h => h 82 rfl⟩
              unfold sl at h1 h2
              simp at h1 h2
              simp [go_sem, h1, h2]
            intro L5 y5 w9 hb9 hF9
            have h82 : y5 82 = .bool (false || er != 0) := hF9 14 (by decide) rfl
            have HB9 := Lib.hid (Bt HB8.out hb9)
            have HT9 := Lib.hid (HTB.out.below hb9 HTB.out.lt)
            clear hF9 hb9
            rw [aft15 (d0 := 68) (d1 := 69) (d2 := 70) (d3 := 71) (d4 := 72) (d5 := 73) (d6 := 74) (d7 := 75) (d8 := 76) (d9 := 77) (d10 := 78) (d11 := 79) (d12 := 80) (d13 := 81) (d14 := 82) (by kernel_rfl) rfl]
            rw [h82]
            simp only [List.set_cons_succ, List.set_cons_zero, Bool.false_or]
            refine from_end rfl ?_
            by_cases he0 : er = 0
            · have hs := HST2.out he0
              subst he0
              have hb0 := HB0.out
              rw [hs] at hb0
              simp only at hb0
              have HTO2 := Lib.hid (HTO.out _ hs)
              have HIT := Lib.hid (Cou.stepF_in HOK.out hs)
              have HO9 := Lib.hid (own_bel HO4.out HB9.out)
              have hsl := SlCt.bnd3 (OwnL.sl (F := fun _ => True) HO9.out (by have := HOL.out; simp only [Aside] at this; omega) fun _ _ _ _ => trivial)
              have z0 := HT9.out.cell 0
              have z1 := HT9.out.cell 1
              simp only [List.getElem?_toArray, List.getElem?_cons_zero, List.getElem?_cons_succ] at z0 z1
              have hha := has_any u8 out (to_, a2 + sh) w9 _ (fun _ h => h) hsl
              by_cases hm : (to_, a2 + sh) ∈ out
              · have HZ3 := Lib.hid (HBAD.out 9 (by decide) (by rw [hb0, if_pos hm]))
                rw [decide_eq_true hm] at hha
                have HHA := Lib.hid hha
                clear hha hb0 hm hs HBAD HE2 hsl
                go_wp2_with (go_at_call 26; (with_reducible refine (HHA.out.mono ?_)); rintro e w7 ⟨rfl, hb7⟩; have HB7 := Lib.hid (HL4.out _ (Bt HB9.out hb7)); clear hb7)
                go_ret2
                rw [HZ3.out]
                exact ⟨_, rfl, Sl.nil_, HB7.out⟩
              · rw [decide_eq_false hm] at hha
                have HHA := Lib.hid hha
                have he := HE2.out
                rw [hb0, if_neg hm, if_pos rfl, HTO2.out] at he
                have HE3 := Lib.hid he
                clear hha hb0 hm hs HBAD HE2 hsl he
                go_upto_region 19 with (go_at_call 26; (with_reducible refine (HHA.out.mono ?_)); rintro e w7 ⟨rfl, hb7⟩; have HB7 := Lib.hid (Bt HB9.out hb7); have HT7 := Lib.hid (HT9.out.below hb7 HT9.out.lt); have HO7 := Lib.hid (own_bel HO9.out hb7); clear hb7 z0 z1)
                have z0 := HT7.out.cell 0
                have z1 := HT7.out.cell 1
                simp only [List.getElem?_toArray, List.getElem?_cons_zero, List.getElem?_cons_succ] at z0 z1
                have hK7 := HK4.out.below HB7.out HK4.out.lt
                have hX7 := HX4.out.below HB7.out HX4.out.lt
                obtain ⟨cs', p1, p2, p3⟩ := id HO7.out
                have HP1 := Lib.hid p1
                have HP2 := Lib.hid p2
                have HP3 := Lib.hid p3
                have HKK := Lib.hid hK7
                have HXX := Lib.hid hX7
                have hbs : w1.heap.size ≤ w7.heap.size := Nat.le_trans HSZ4.out HB7.out.size
                have hlo : out.length ≤ 100000 := by have := HOL.out; simp only [Aside] at this; omega
                clear p1 p2 p3 hK7 hX7
                go_upto_region 20 with (at_builtin; refine wpList_appS elemCt (by omega) rfl _ _ rfl w1.heap.size _ out.length _ rfl (HP3.out.alloc _) ⟨w7.heap.size, 0, none⟩ 1 [.int .i64 to_, .int .i64 (a2 + sh)] rfl rfl (Flds.new w7 _ _) (by simp [Value.oneCell']) (by omega) (by omega) (by simp; omega) ?_; intro g cap w6 hown6 hg6 hgg; have HO6 := Lib.hid hown6; have HG6 := Lib.hid hg6; clear hown6 hg6 hgg)
                have hT6 := (HT7.out.alloc (.cells #[.int .i64 to_, .int .i64 (a2 + sh)] 36)).grown HG6.out (fun e => by have h1 := HTN.out tb e.symm; omega)
                have hK6 := (HKK.out.alloc (.cells #[.int .i64 to_, .int .i64 (a2 + sh)] 36)).grown HG6.out (fun e => by have h1 := HP3.out.lt b1 e.symm; have h2 := HS1.out; omega)
                have hX6 := (HXX.out.alloc (.cells #[.int .i64 to_, .int .i64 (a2 + sh)] 36)).grown HG6.out (fun e => by have h1 := HP3.out.lt bx e.symm; have h2 := HS1.out; have h3 := HE1.out; omega)
                have hO6 : OwnL w1.heap.size 36 2 CtC w6 (.slice (some ⟨g, 0, none⟩) (out.length + 1) cap) (out ++ [(to_, a2 + sh)]) := OwnL.snoc HP1.out HP2.out rfl rfl (fun _ _ h => h) HO6.out
                have hB6 : Below w.heap.size w w6 := ((Ba (HL4.out _ HB7.out) _).grown HG6.out (by have := (HL4.out _ HB7.out).size; simp; omega) fun b e => by have h1 := (HP3.out.lt b e).1; have h2 := HB1.out.size; omega)
                have f0 := hK6.frozen 0
                have f1 := hK6.frozen 1
                have y0 := hT6.cell 0
                have y1 := hT6.cell 1
                have y2 := hK6.cell 0
                have y3 := hK6.cell 1
                simp only [List.getElem?_toArray, List.getElem?_cons_zero, List.getElem?_cons_succ] at y0 y1 y2 y3
                have HO66 := Lib.hid hO6
                have HB66 := Lib.hid hB6
                have HK66 := Lib.hid hK6
                have HX66 := Lib.hid hX6
                have HSZ6 : Hid (w1.heap.size ≤ w6.heap.size) := Lib.hid (by have h1 := HK66.out.lt; have h2 := HS1.out; omega)
                clear hO6 hB6 hK6 hX6 hT6 z0 z1
                go_wp2_with fail
                go_roundg (n - (k + 1))
                case measure => omega
                case rel =>
                  have hl1 : b1 < w1.heap.size := by have := HS1.out; omega
                  have hlb : w.heap.size ≤ b1 := by have h1 := HBX.out; have h2 := HE1.out; omega
                  refine ⟨k + 1, (to_, a2 + sh), out ++ [(to_, a2 + sh)], by omega, by omega, by go_num, (show Aside _ from by show _ = _; rw [List.length_append, HOL.out]; rfl), HIT.out, own_far (own_far HO66.out hl1) hl1, ?_, ?_, ?_, Bs (Bs HB66.out _ hlb) _ hlb, ?_⟩
                  · exact (show Aside _ from by show _ = _; rw [decide_eq_false (by omega)]; exact HE3.out)
                  · have hK := (HK66.out.set_ 0 (.int .i64 to_)).set_ 1 (.int .i64 (a2 + sh))
                    exact (show Aside _ from by show Blk _ _ _ _; simpa using hK)
                  · exact (show Aside _ from by show Blk _ _ _ _; exact (HX66.out.far (p := ⟨b1, 0, none⟩) (by show bx ≠ b1; have := HE1.out; omega) _).far (p := ⟨b1, 1, none⟩) (by show bx ≠ b1; have := HE1.out; omega) _)
                  · exact (show Aside _ from by show _ ≤ _; simpa [World.setCell] using HSZ6.out)
            · have hs := HST1.out he0
              have HZ3 := Lib.hid (HBAD.out 24 (by decide) (by rw [HB0.out, hs]))
              have hne : (er != 0) = true := by simpa using he0
              clear HBAD HE2 hs he0
              go_wp2_with fail
              go_ret2
              rw [HZ3.out]
              exact ⟨_, rfl, Sl.nil_, HL4.out _ HB9.out⟩
          · have dfa : (frm != a1) = true := by simp [hfa]
            have hs : Cou.stepF a jc (a1, a2) = none := by rw [HZ4.out, if_neg (fun h => hfa h.1)]
            have HZ3 := Lib.hid (HBAD.out 24 (by decide) (by rw [HB0.out, hs]))
            clear hs hwz hfa HZ4 HZS HBAD HE2
            refine region_blocks (by kernel_rfl) ?_
            refine from_lawW 15 EL15 (fun _ W => Below w8.heap.size w8 W) (FL15 bx b1 tb (.slice Ad dl cd) (.slice (some ad2) cl cc) dr ad2 cl cc jc frm a1 to_ (a2 + sh) er true) VL15 (by kernel_rfl) rfl (FL15_V _ _ _ _ _ _ _ _ _ _ _ _ _ _ _ _) (by kernel_rfl) (by kernel_rfl) ((B0 w8).drew) ⟨?_, ?_, ?_, ?_, ?_, ?_, ?_, ?_, ?_, ?_, ?_, ?_, ?_, ?_, ?_, trivial⟩ ?_
            · refine OpFactW.value rfl (FL15_below _ _ _ _ _ _ _ _ _ _ _ _ _ _ _ _) hBB5 fun L a w2 hl hf D hb => ?_
              have h0 : sl a 3 = .pointer (some ⟨bx, 0, none⟩) := hf 3 (by kernel_rfl)
              refine ⟨.pointer (some ⟨bx, 1, none⟩), w2, ?_, B0 _, fun s _ h => h 68 rfl⟩
              unfold sl at h0
              simp at h0
              simp [go_sem, h0]
            · refine OpFactW.value rfl (FL15_below _ _ _ _ _ _ _ _ _ _ _ _ _ _ _ _) hBB5 fun L a w2 hl hf D hb => ?_
              have h0 : sl a 68 = .pointer (some ⟨bx, 1, none⟩) := D 0 (by kernel_rfl)
              have es := HS5.out w2 hb
              refine ⟨.slice (some ad2) cl cc, w2, ?_, B0 _, fun s _ h => h 69 rfl⟩
              unfold sl at h0
              simp at h0
              simp [go_sem, h0, es]
            · refine OpFactW.value rfl (FL15_below _ _ _ _ _ _ _ _ _ _ _ _ _ _ _ _) hBB5 fun L a w2 hl hf D hb => ?_
              have h0 : sl a 10 = .int .i64 (jc : Nat) := hf 10 (by kernel_rfl)
              refine ⟨.int .i64 (jc : Nat), w2, ?_, B0 _, fun s _ h => h 70 rfl⟩
              unfold sl at h0
              simp [go_sem, h0]
            · refine OpFactW.value rfl (FL15_below _ _ _ _ _ _ _ _ _ _ _ _ _ _ _ _) hBB5 fun L a w2 hl hf D hb => ?_
              have h1 : sl a 69 = .slice (some ad2) cl cc := D 1 (by kernel_rfl)
              have h2 : sl a 70 = .int .i64 (jc : Nat) := D 2 (by kernel_rfl)
              refine ⟨.pointer (some (ad2.add (jc * 5))), w2, ?_, B0 _, fun s _ h => h 71 rfl⟩
              unfold sl at h1 h2
              simp at h1 h2
              simp [go_sem, h1, h2, hjI]
            · refine OpFactW.value rfl (FL15_below _ _ _ _ _ _ _ _ _ _ _ _ _ _ _ _) hBB5 fun L a w2 hl hf D hb => ?_
              have h1 : sl a 71 = .pointer (some (ad2.add (jc * 5))) := D 3 (by kernel_rfl)
              refine ⟨.pointer (some ⟨(ad2.add (jc * 5)).block, (ad2.add (jc * 5)).off + 1, none⟩), w2, ?_, B0 _, fun s _ h => h 72 rfl⟩
              unfold sl at h1
              simp at h1
              simp [go_sem, h1]
            · refine OpFactW.value rfl (FL15_below _ _ _ _ _ _ _ _ _ _ _ _ _ _ _ _) hBB5 fun L a w2 hl hf D hb => ?_
              have h0 : sl a 72 = .pointer (some ⟨(ad2.add (jc * 5)).block, (ad2.add (jc * 5)).off + 1, none⟩) := D 4 (by kernel_rfl)
              have es := HS5.out w2 hb
              refine ⟨.int .i64 frm, w2, ?_, B0 _, fun s _ h => h 73 rfl⟩
              unfold sl at h0
              simp at h0
              simp [go_sem, h0, es]
            · refine OpFactW.value rfl (FL15_below _ _ _ _ _ _ _ _ _ _ _ _ _ _ _ _) hBB5 fun L a w2 hl hf D hb => ?_
              have h0 : sl a 4 = .pointer (some ⟨b1, 0, none⟩) := hf 4 (by kernel_rfl)
              refine ⟨.pointer (some ⟨b1, 0, none⟩), w2, ?_, B0 _, fun s _ h => h 74 rfl⟩
              unfold sl at h0
              simp at h0
              simp [go_sem, h0]
            · refine OpFactW.value rfl (FL15_below _ _ _ _ _ _ _ _ _ _ _ _ _ _ _ _) hBB5 fun L a w2 hl hf D hb => ?_
              have h0 : sl a 74 = .pointer (some ⟨b1, 0, none⟩) := D 6 (by kernel_rfl)
              have es := HS5.out w2 hb
              refine ⟨.int .i64 a1, w2, ?_, B0 _, fun s _ h => h 75 rfl⟩
              unfold sl at h0
              simp at h0
              simp [go_sem, h0, es]
            · refine OpFactW.value rfl (FL15_below _ _ _ _ _ _ _ _ _ _ _ _ _ _ _ _) hBB5 fun L a w2 hl hf D hb => ?_
              have h1 : sl a 73 = .int .i64 frm := D 5 (by kernel_rfl)
              have h2 : sl a 75 = .int .i64 a1 := D 7 (by kernel_rfl)
              refine ⟨.bool true, w2, ?_, B0 _, fun s _ h => h 76 rfl⟩
              unfold sl at h1 h2
              simp at h1 h2
              simp [go_sem, h1, h2, dfa]
            · refine OpFactW.value rfl (FL15_below _ _ _ _ _ _ _ _ _ _ _ _ _ _ _ _) hBB5 fun L a w2 hl hf D hb => ?_
              have h1 : sl a 76 = .bool true := D 8 (by kernel_rfl)
              refine ⟨.bool true, w2, ?_, B0 _, fun s _ h => h 77 rfl⟩
              unfold sl at h1
              simp at h1
              simp [go_sem, h1]
            · refine OpFactW.off (g := 9) (d := 77) (c := true) rfl rfl (by simp) (by decide) (fun _ _ _ h => h) (fun s w h => h) (by kernel_rfl) (fun s w h => absurd h (by decide))
            · refine OpFactW.off (g := 9) (d := 77) (c := true) rfl rfl (by simp) (by decide) (fun _ _ _ h => h) (fun s w h => h) (by kernel_rfl) (fun s w h => absurd h (by decide))
            · refine OpFactW.off (g := 9) (d := 77) (c := true) rfl rfl (by simp) (by decide) (fun _ _ _ h => h) (fun s w h => h) (by kernel_rfl) (fun s w h => absurd h (by decide))
            · refine OpFactW.off (g := 9) (d := 77) (c := true) rfl rfl (by simp) (by decide) (fun _ _ _ h => h) (fun s w h => h) (by kernel_rfl) (fun s w h => absurd h (by decide))
            · refine OpFactW.value rfl (FL15_below _ _ _ _ _ _ _ _ _ _ _ _ _ _ _ _) hBB5 fun L a w2 hl hf D hb => ?_
              have h1 : sl a 77 = .bool true := D 9 (by kernel_rfl)
              refine ⟨.bool (true || er != 0), w2, ?_, B0 _, fun s _ h => h 82 rfl⟩
              unfold sl at h1
              simp at h1
              simp [go_sem, h1]
            intro L5 y5 w9 hb9 hF9
            have h82 : y5 82 = .bool (true || er != 0) := hF9 14 (by decide) rfl
            have HB9 := Lib.hid (HL4.out _ (Bt HB8.out hb9))
            clear hF9 hb9
            rw [aft15 (d0 := 68) (d1 := 69) (d2 := 70) (d3 := 71) (d4 := 72) (d5 := 73) (d6 := 74) (d7 := 75) (d8 := 76) (d9 := 77) (d10 := 78) (d11 := 79) (d12 := 80) (d13 := 81) (d14 := 82) (by kernel_rfl) rfl]
            rw [h82]
            simp only [List.set_cons_succ, List.set_cons_zero, Bool.true_or]
            refine from_end rfl ?_
            go_wp2_with fail
            go_ret2
            rw [HZ3.out]
            exact ⟨_, rfl, Sl.nil_, HB9.out⟩
    · obtain rfl : k = n := by omega
      have HZ3 : Hid (Cha.followF a (k1, k2) cs = (0, out)) := Lib.hid (by
        rw [HZ2.out, ← HE.out, List.drop_eq_nil_of_le (by rw [HN.out]; exact Nat.le_refl _), Cha.folF])
      go_wp2_with fail
      go_ret2
      rw [HZ3.out]
      refine ⟨_, rfl, HO.out.sl (by have := HOL.out; simp only [Aside] at this; omega) fun b hb _ _ => ?_, HB.out⟩
      have h1 := HB1.out.size
      show w.heap.size ≤ b
      omega
end Go.Proofs.YtahlfndlkfoikaaDoor
