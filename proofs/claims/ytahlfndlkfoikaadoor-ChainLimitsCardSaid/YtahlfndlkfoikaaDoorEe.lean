/- Walks over chain: more. -/
import Derived.Test.YtahlfndlkfoikaaDoorEh
import Derived.Test.YtahlfndlkfoikaaDoorEb
import Derived.Test.YtahlfndlkfoikaaDoorEd
import Derived.Test.YtahlfndlkfoikaaDoorGr
import Derived.Test.YtahlfndlkfoikaaDoorRegW
namespace Go.Proofs.YtahlfndlkfoikaaDoor
open Go Go.RowKit Go.Shelf
/-- What holds behind each operation of a drawn region. -/
def FM (base : Nat) (Au Av : Option Addr) (n cu cv bx _bt k : Nat) (v : Value) (x : Cha.Lk) (t : Cou.Ct) (j : Nat) (s : Nat → Value) (w : World) : Prop :=
  match j with
  | 0 => s 54 = v
  | 1 => s 55 = .pointer (some ⟨bx, 0, none⟩)
  | 2 => s 56 = .slice Au n cu
  | 3 => s 57 = .int .i64 n
  | 4 => s 58 = .int .i64 n
  | 5 => s 59 = .slice Au n n
  | 6 => s 60 = .int .i64 k
  | 7 => ∃ g, s 61 = .slice (some ⟨g, 0, none⟩) 1 1 ∧ g < w.heap.size ∧ Flds w ⟨g, 0, none⟩ [.int .i64 k]
  | 8 => ∃ g c, s 62 = .slice (some ⟨g, 0, none⟩) (n + 1) c ∧ w.ownsRow base 3 1 (.slice (some ⟨g, 0, none⟩) (n + 1) c) (n + 1) (inCs (x.1 ++ [(k : Int)]))
  | 9 => s 63 = .pointer (some ⟨bx, 1, none⟩)
  | 10 => s 64 = .slice Av n cv
  | 11 => s 65 = .int .i64 n
  | 12 => s 66 = .int .i64 n
  | 13 => s 67 = .slice Av n n
  | 14 => s 68 = .agg #[.int .i64 t.1, .int .i64 t.2]
  | 15 => ∃ g, s 69 = .slice (some ⟨g, 0, none⟩) 1 1 ∧ g < w.heap.size ∧ Flds w ⟨g, 0, none⟩ [.int .i64 t.1, .int .i64 t.2]
  | 16 => ∃ g c, s 70 = .slice (some ⟨g, 0, none⟩) (n + 1) c ∧ w.ownsRow base 36 2 (.slice (some ⟨g, 0, none⟩) (n + 1) c) (n + 1) (ctCsL (x.2 ++ [t]))
  | 17 => ∃ g c g2 c2, s 71 = .agg #[.slice (some ⟨g, 0, none⟩) (n + 1) c, .slice (some ⟨g2, 0, none⟩) (n + 1) c2] ∧ w.ownsRow base 3 1 (.slice (some ⟨g, 0, none⟩) (n + 1) c) (n + 1) (inCs (x.1 ++ [(k : Int)])) ∧ w.ownsRow base 36 2 (.slice (some ⟨g2, 0, none⟩) (n + 1) c2) (n + 1) (ctCsL (x.2 ++ [t]))
  | 18 => ∃ g u1 u2, s 72 = .slice (some ⟨g, 0, none⟩) 1 1 ∧ g < w.heap.size ∧ Flds w ⟨g, 0, none⟩ [u1, u2] ∧ LinkC w [u1, u2] (x.1 ++ [(k : Int)], x.2 ++ [t]) ∧ u1.oneCell' = true ∧ u2.oneCell' = true
  | _ => True
def VM (j : Nat) : List Nat := match j with
  | 0 => [54] | 1 => [55] | 2 => [56] | 3 => [57] | 4 => [58] | 5 => [59] | 6 => [60] | 7 => [61] | 8 => [62] | 9 => [63] | 10 => [64] | 11 => [65] | 12 => [66] | 13 => [67] | 14 => [68] | 15 => [69] | 16 => [70] | 17 => [71] | 18 => [72] | _ => []
def EM (j : Nat) : Bool := j == 0 || j == 18
theorem FM_V (base : Nat) (Au Av : Option Addr) (n cu cv bx _bt k : Nat) (v : Value) (x : Cha.Lk) (t : Cou.Ct) (j : Nat) (s s' : Nat → Value) (w : World) (h : ∀ t, t ∈ VM j → s' t = s t) (hF : FM base Au Av n cu cv bx _bt k v x t j s w) : FM base Au Av n cu cv bx _bt k v x t j s' w := by
  match j with
  | 0 => unfold FM at hF ⊢; simp only at hF ⊢; rw [h 54 (by simp [VM])]; exact hF
  | 1 => unfold FM at hF ⊢; simp only at hF ⊢; rw [h 55 (by simp [VM])]; exact hF
  | 2 => unfold FM at hF ⊢; simp only at hF ⊢; rw [h 56 (by simp [VM])]; exact hF
  | 3 => unfold FM at hF ⊢; simp only at hF ⊢; rw [h 57 (by simp [VM])]; exact hF
  | 4 => unfold FM at hF ⊢; simp only at hF ⊢; rw [h 58 (by simp [VM])]; exact hF
  | 5 => unfold FM at hF ⊢; simp only at hF ⊢; rw [h 59 (by simp [VM])]; exact hF
  | 6 => unfold FM at hF ⊢; simp only at hF ⊢; rw [h 60 (by simp [VM])]; exact hF
  | 7 => unfold FM at hF ⊢; simp only at hF ⊢; rw [h 61 (by simp [VM])]; exact hF
  | 8 => unfold FM at hF ⊢; simp only at hF ⊢; rw [h 62 (by simp [VM])]; exact hF
  | 9 => unfold FM at hF ⊢; simp only at hF ⊢; rw [h 63 (by simp [VM])]; exact hF
  | 10 => unfold FM at hF ⊢; simp only at hF ⊢; rw [h 64 (by simp [VM])]; exact hF
  | 11 => unfold FM at hF ⊢; simp only at hF ⊢; rw [h 65 (by simp [VM])]; exact hF
  | 12 => unfold FM at hF ⊢; simp only at hF ⊢; rw [h 66 (by simp [VM])]; exact hF
  | 13 => unfold FM at hF ⊢; simp only at hF ⊢; rw [h 67 (by simp [VM])]; exact hF
  | 14 => unfold FM at hF ⊢; simp only at hF ⊢; rw [h 68 (by simp [VM])]; exact hF
  | 15 => unfold FM at hF ⊢; simp only at hF ⊢; rw [h 69 (by simp [VM])]; exact hF
  | 16 => unfold FM at hF ⊢; simp only at hF ⊢; rw [h 70 (by simp [VM])]; exact hF
  | 17 => unfold FM at hF ⊢; simp only at hF ⊢; rw [h 71 (by simp [VM])]; exact hF
  | 18 => unfold FM at hF ⊢; simp only at hF ⊢; rw [h 72 (by simp [VM])]; exact hF
  | _ + 19 => trivial
theorem FM_below (base : Nat) (Au Av : Option Addr) (n cu cv bx _bt k : Nat) (v : Value) (x : Cha.Lk) (t : Cou.Ct) (j : Nat) (s : Nat → Value) (w w' : World) (hb : Below w.heap.size w w') (hF : FM base Au Av n cu cv bx _bt k v x t j s w) : FM base Au Av n cu cv bx _bt k v x t j s w' := by
  match j with
  | 0 => exact hF
  | 1 => exact hF
  | 2 => exact hF
  | 3 => exact hF
  | 4 => exact hF
  | 5 => exact hF
  | 6 => exact hF
  | 7 => obtain ⟨g, q1, q2, q3⟩ := hF; exact ⟨g, q1, Nat.lt_of_lt_of_le q2 hb.size, q3.below hb q2⟩
  | 8 => obtain ⟨g, c, q1, q2⟩ := hF; exact ⟨g, c, q1, q2.kept (row := none) (only_of_below hb none) (.inr (by simp [Value.ownBlock]))⟩
  | 9 => exact hF
  | 10 => exact hF
  | 11 => exact hF
  | 12 => exact hF
  | 13 => exact hF
  | 14 => exact hF
  | 15 => obtain ⟨g, q1, q2, q3⟩ := hF; exact ⟨g, q1, Nat.lt_of_lt_of_le q2 hb.size, q3.below hb q2⟩
  | 16 => obtain ⟨g, c, q1, q2⟩ := hF; exact ⟨g, c, q1, q2.kept (row := none) (only_of_below hb none) (.inr (by simp [Value.ownBlock]))⟩
  | 17 => obtain ⟨g, c, g2, c2, q1, q2, q3⟩ := hF; exact ⟨g, c, g2, c2, q1, q2.kept (row := none) (only_of_below hb none) (.inr (by simp [Value.ownBlock])), q3.kept (row := none) (only_of_below hb none) (.inr (by simp [Value.ownBlock]))⟩
  | 18 => obtain ⟨g, u1, u2, q1, q2, q3, q4, q5⟩ := hF; exact ⟨g, u1, u2, q1, Nat.lt_of_lt_of_le q2 hb.size, q3.below hb q2, q4.below hb, q5⟩
  | _ + 19 => trivial
set_option maxRecDepth 100000 in
set_option maxHeartbeats 4000000 in
theorem more_any (a : Cou.Ac) (hok : Cou.Ok a) (vd vc : Value) (hdr : a.drawn < 2 ^ 64) (u v : Value) (x : Cha.Lk) (hx : x.1.length = x.2.length) (hxl : x.1.length ≤ 100000) (at_ : Cou.Ct) (hat : CtS at_) (w : World) (F : Nat → Prop) (hA : AcAt F w vd vc a) (hU : SlI F w u x.1) (hV : SlCt F w v x.2) :
    Calls Tryd.prog 58 #[.agg #[vd, vc, .int .u64 a.drawn], .agg #[u, v], .agg #[.int .i64 at_.1, .int .i64 at_.2]] w fun e w' => ∃ r, e = .returned r ∧ OwnLk w.heap.size w' r (Cha.moreF a x at_) ∧ Below w.heap.size w w' := by
  obtain ⟨Ad, cd, hvd, -, -⟩ := id hA.dv.open
  obtain ⟨Ac, cc, hvc, -, hac⟩ := id hA.cp.open
  subst hvd hvc
  obtain ⟨Au, cu, hvu, hcu, -, -⟩ := id hU.open
  obtain ⟨Av, cv, hvv, hcv, -, -⟩ := id hV.open
  subst hvu hvv
  have hF := hA.inW
  have hRU := SlI.reads hU hF
  have hRV := SlCt.reads hV hF
  have h40 := hok.nc
  obtain ⟨dl, hdl⟩ : ∃ dl, a.divs.length = dl := ⟨_, rfl⟩
  obtain ⟨cl, hcl⟩ : ∃ cl, a.cps.length = cl := ⟨_, rfl⟩
  obtain ⟨n, hn⟩ : ∃ n, x.1.length = n := ⟨_, rfl⟩
  have hn2 : x.2.length = n := by omega
  have HCL := Lib.hid hcl
  have HN1 := Lib.hid hn
  have HN2 := Lib.hid hn2
  rw [hdl, hcl] at hA
  rw [hn] at hU hcu hRU hxl
  rw [hn2] at hV hcv hRV
  rw [hdl, hcl, hn, hn2]
  rw [hcl] at h40
  have HST := Lib.hid (fun W (hb : Below w.heap.size w W) i (hi : i < cl) => cstep_any a hok (.slice Ad dl cd) (.slice Ac cl cc) i (by rw [HCL.out]; exact hi) at_ ⟨hat.2.2.1, hat.2.2.2⟩ a.drawn W F (hA.onB hF hb))
  have HCN := Lib.hid (fun W (hb : Below w.heap.size w W) t => contains_ct (.slice Av n cv) x.2 t W F (fun b h => Nat.lt_of_lt_of_le (hF b h) hb.size) (SlCt.keep hV (Agree.below hb hF)))
  have HDR := Lib.hid (fun i (hi : i < 64) W => cdrawn_any (.slice Ad dl cd) (.slice Ac cl cc) a.drawn hdr i hi W)
  have HAC := Lib.hid hac
  have HRU := Lib.hid hRU
  have HRV := Lib.hid hRV
  have HF := Lib.hid hF
  obtain ⟨a1, a2⟩ := at_
  obtain ⟨w1, hw1⟩ : ∃ w1 : World, ((w.alloc (.cells #[.slice Ad dl cd, .slice Ac cl cc, .int .u64 a.drawn] 33)).alloc (.cells #[.slice Au n cu, .slice Av n cv] 109)).alloc (.cells #[.int .i64 a1, .int .i64 a2] 36) = w1 := ⟨_, rfl⟩
  obtain ⟨bx, hbx⟩ : ∃ bx, w.heap.size = bx := ⟨_, rfl⟩
  obtain ⟨b1, hb1⟩ : ∃ b1, bx + 1 = b1 := ⟨_, rfl⟩
  obtain ⟨b2, hb2⟩ : ∃ b2, b1 + 1 = b2 := ⟨_, rfl⟩
  have c0 : w1.cell? ⟨bx, 0, none⟩ = some (.slice Ad dl cd) := by rw [← hw1, ← hbx]; simp [go_sem]
  have c1 : w1.cell? ⟨bx, 1, none⟩ = some (.slice Ac cl cc) := by rw [← hw1, ← hbx]; simp [go_sem]
  have c2 : w1.cell? ⟨bx, 2, none⟩ = some (.int .u64 a.drawn) := by rw [← hw1, ← hbx]; simp [go_sem]
  have c3 : w1.cell? ⟨b1, 0, none⟩ = some (.slice Au n cu) := by rw [← hw1, ← hb1, ← hbx]; simp [go_sem]
  have c4 : w1.cell? ⟨b1, 1, none⟩ = some (.slice Av n cv) := by rw [← hw1, ← hb1, ← hbx]; simp [go_sem]
  have c5 : w1.cell? ⟨b2, 0, none⟩ = some (.int .i64 a1) := by rw [← hw1, ← hb2, ← hb1, ← hbx]; simp [go_sem]
  have c6 : w1.cell? ⟨b2, 1, none⟩ = some (.int .i64 a2) := by rw [← hw1, ← hb2, ← hb1, ← hbx]; simp [go_sem]
  have l1 : b2 < w1.heap.size := by rw [← hw1, ← hb2, ← hb1, ← hbx]; simp
  have B1 : Below w.heap.size w w1 := by rw [← hw1]; exact Ba (Ba (Ba (B0 w) _) _) _
  have HK := Lib.hid (fun W (hb : Below w1.heap.size w1 W) => (show (W.cell? ⟨bx, 0, none⟩ = some (.slice Ad dl cd) ∧ W.cell? ⟨bx, 1, none⟩ = some (.slice Ac cl cc) ∧ W.cell? ⟨bx, 2, none⟩ = some (.int .u64 a.drawn)) ∧ (W.cell? ⟨b1, 0, none⟩ = some (.slice Au n cu) ∧ W.cell? ⟨b1, 1, none⟩ = some (.slice Av n cv)) ∧ W.cell? ⟨b2, 0, none⟩ = some (.int .i64 a1) ∧ W.cell? ⟨b2, 1, none⟩ = some (.int .i64 a2) from
    ⟨⟨(Bc hb (by omega)).trans c0, (Bc hb (by omega)).trans c1, (Bc hb (by omega)).trans c2⟩, ⟨(Bc hb (by omega)).trans c3, (Bc hb (by omega)).trans c4⟩, (Bc hb l1).trans c5, (Bc hb l1).trans c6⟩))
  have HB1 := Lib.hid B1
  have HW1 := Lib.hid hw1
  have HBX := Lib.hid hbx
  have HE1 := Lib.hid hb1
  have HE2b := Lib.hid hb2
  clear hA hU hV hac hRU hRV hF B1 hw1 hbx hb1 hb2 c2 c3 c4 c5 c6 l1 hdl hcl hn hn2 hx hat hdr
  dsimp only
  go_enter Tryd.func58, Tryd.ntmps58
  go_upto_region 2 with fail
  rw [HW1.out, HBX.out, HE1.out, HE2b.out]
  go_wp2_with fail
  go_loopg [7, 16] cl (fun gg s7 s16 wr => ∃ (k : Nat) (out : List Cha.Lk), k ≤ cl ∧ cl - k ≤ gg ∧ s16 = .int .i64 k ∧ Aside (OwnLk w1.heap.size wr s7 out) ∧ Aside (out ++ Cha.moreD a x (a1, a2) k = Cha.moreF a x (a1, a2)) ∧ Aside (Below w1.heap.size w1 wr))
  case atStart => exact ⟨0, [], by omega, by omega, rfl, OwnL.nil, (show Aside _ from by show _ = _; rw [Cha.moreD_zero, List.nil_append]), B0 w1⟩
  case round =>
    obtain ⟨k, out, hk, hg, rfl, HO, HE, HB⟩ := hrel
    replace HO := Lib.hid HO
    replace HE := Lib.hid HE
    replace HB := Lib.hid HB
    clear c0 c1
    by_cases hlt : k < cl
    · have hkl : (k : Int) < cl := by omega
      have hk64 : k < 64 := by omega
      have hkl2 : k < a.cps.length := by rw [HCL.out]; exact hlt
      obtain ⟨ad, rfl, hfb, hfl⟩ := HAC.out k hkl2
      have hfb2 : (ad.add (k * 5)).block < w.heap.size := by rw [block_of_add]; exact HF.out _ hfb
      have hfl2 := hfl.below (Bt HB1.out HB.out) hfb2
      have q0 := hfl2.f0 rfl
      have q1 := hfl2.f1 rfl
      have q2 := hfl2.f2 rfl
      have q3 := hfl2.f3 rfl
      have q4 := hfl2.f4 rfl
      have hth : Cou.thruF a k = a.cps[k].thru := by unfold Cou.thruF; rw [List.getElem?_eq_getElem hkl2]
      have HNO : Hid (Cha.oneMoreF a x (a1, a2) k = none → Aside (out ++ Cha.moreD a x (a1, a2) (k + 1) = Cha.moreF a x (a1, a2))) := Lib.hid (fun h => by show _ = _; rw [← Cha.moreD_none hkl2 h]; exact HE.out)
      have HYES : Hid (∀ y, Cha.oneMoreF a x (a1, a2) k = some y → Aside ((out ++ [y]) ++ Cha.moreD a x (a1, a2) (k + 1) = Cha.moreF a x (a1, a2))) := Lib.hid (fun y h => by show _ = _; rw [List.append_assoc, List.singleton_append, ← Cha.moreD_some hkl2 h]; exact HE.out)
      have HOL : Hid (out.length ≤ 40) := Lib.hid (by
        have h1 := congrArg List.length HE.out
        have h2 := Cha.moreF_len a x (a1, a2)
        have h3 := HCL.out
        simp only [List.length_append] at h1
        omega)
      have HTH := Lib.hid hth
      clear hfl hfl2 hth hfb hfb2
      generalize a.cps[k] = y at *
      obtain ⟨nm, fr, to_, sh, th⟩ := y
      dsimp only at q0 q1 q2 q3 q4 HTH
      clear hkl2
      obtain ⟨bw, hbw⟩ : ∃ bw, wr.heap.size = bw := ⟨_, rfl⟩
      obtain ⟨w2, hw2⟩ : ∃ w2 : World, wr.alloc (.cells #[.string nm, .int .i64 fr, .int .i64 to_, .int .i64 sh, .bool th] 46) = w2 := ⟨_, rfl⟩
      have HB2 : Hid (Below w1.heap.size w1 w2) := Lib.hid (by rw [← hw2]; exact Ba HB.out _)
      have KB : Blk w2 bw 46 #[.string nm, .int .i64 fr, .int .i64 to_, .int .i64 sh, .bool th] := by rw [← hw2, ← hbw]; exact Blk.new _ _ _
      have HY := Lib.hid (fun W (hb : Below w2.heap.size w2 W) => (show W.cell? ⟨bw, 4, none⟩ = some (.bool th) from (Bc hb KB.lt).trans (KB.cell 4)))
      have HO2 : Hid (OwnLk w1.heap.size w2 u7 out) := Lib.hid (by rw [← hw2]; exact OwnLk.below HO.out (Ba (B0 wr) _))
      clear KB
      go_upto_region 5 with fail
      try rw [hw2]
      try rw [hbw]
      obtain ⟨⟨k0, k1, k2⟩, ⟨k3, k4⟩, k5, k6⟩ := HK.out w2 HB2.out
      have y4 := HY.out w2 (B0 w2)
      clear hw2 hbw q0 q1 q2 q3 q4 HO HB
      cases hd : a.drawn.testBit k with
      | false =>
        have HD := Lib.hid (fun W => HDR.out k hk64 W)
        rw [hd] at HD
        have HE2 := Lib.hid (HNO.out (by unfold Cha.oneMoreF; rw [if_neg (by rw [hd]; simp)]))
        clear HNO HYES hd HDR HST HCN
        go_wp2_with (go_at_call 39; (with_reducible refine ((HD.out _).mono ?_)); rintro e w3 ⟨rfl, hb3⟩; have HO3 := Lib.hid (OwnLk.below HO2.out hb3); have HB3 := Lib.hid (Bt HB2.out hb3); clear hb3)
        go_roundg (cl - (k + 1))
        case measure => omega
        case rel => exact ⟨k + 1, out, by omega, by omega, by go_num, HO3.out, HE2.out, HB3.out⟩
      | true =>
        have HD := Lib.hid (fun W => HDR.out k hk64 W)
        rw [hd] at HD
        have HDT := Lib.hid hd
        clear hd HDR
        have hcs : (0 < n ∧ th = false) ∨ (n = 0 ∧ decide (0 < (n : Int)) = false) ∨ (th = true ∧ decide (0 < (n : Int)) = true) := by
          cases th <;> simp <;> omega
        have hdn : decide (0 < n) = decide (0 < (n : Int)) := by simp
        rcases hcs with ⟨hn0, rfl⟩ | hcs
        · have d1 : decide (0 < (n : Int)) = true := by simpa using hn0
          have hne : x.1 ≠ [] := fun e => by have := HN1.out; rw [e] at this; simp at this; omega
          have HE2 := Lib.hid (HNO.out (by unfold Cha.oneMoreF; rw [if_neg (by rw [HTH.out]; simp [hne])]))
          rw [d1] at hdn
          clear HNO HYES HST HCN hne
          go_wp2_with (go_at_call 39; (with_reducible refine ((HD.out _).mono ?_)); rintro e w3 ⟨rfl, hb3⟩; have HO3 := Lib.hid (OwnLk.below HO2.out hb3); have HB3 := Lib.hid (Bt HB2.out hb3); obtain ⟨⟨k0', k1', k2'⟩, ⟨k3', k4'⟩, k5', k6'⟩ := HK.out w3 HB3.out; have y4' := HY.out w3 hb3; clear hb3)
          go_roundg (cl - (k + 1))
          case measure => omega
          case rel => exact ⟨k + 1, out, by omega, by omega, by go_num, HO3.out, HE2.out, HB3.out⟩
        · have HGO : Hid (x.1 = [] ∨ Cou.thruF a k = true) := Lib.hid (by
            rcases hcs with ⟨h, _⟩ | ⟨h, _⟩
            · exact .inl (List.eq_nil_of_length_eq_zero (by rw [HN1.out]; exact h))
            · exact .inr (by rw [HTH.out]; exact h))
          cases hs : Cou.stepF a k (a1, a2) with
          | none =>
            have HE2 := Lib.hid (HNO.out (by unfold Cha.oneMoreF; rw [if_pos ⟨HDT.out, HGO.out⟩, hs]))
            have HS := Lib.hid hs
            clear HNO HYES hs
            rcases hcs with ⟨-, d1⟩ | ⟨rfl, d1⟩
            all_goals
              rw [d1] at hdn
              go_upto_region 6 with (go_at_call 39; (with_reducible refine ((HD.out _).mono ?_)); rintro e w3 ⟨rfl, hb3⟩; have HO3 := Lib.hid (OwnLk.below HO2.out hb3); have HB3 := Lib.hid (Bt HB2.out hb3); obtain ⟨⟨k0', k1', k2'⟩, ⟨k3', k4'⟩, k5', k6'⟩ := HK.out w3 HB3.out; have y4' := HY.out w3 hb3; clear hb3 k0 k1 k2 k3 k4 k5 k6 y4)
              go_upto_region 7 with (go_at_call 40; (with_reducible refine ((HST.out _ (Bt HB1.out HB3.out) k hlt).mono ?_)); rintro e w4 ⟨⟨⟨t1, t2⟩, b, rfl, hbs, -⟩, hb4⟩; dsimp only; (obtain rfl : b = false := by rw [hbs, HS.out]; rfl); clear hbs; have HO4 := Lib.hid (OwnLk.below (OwnLk.below HO3.out hb4) (Ba (B0 w4) (.cells #[.int .i64 t1, .int .i64 t2] 36))); have HB4 := Lib.hid (Ba (Bt HB3.out hb4) (.cells #[.int .i64 t1, .int .i64 t2] 36)); clear hb4 k0' k1' k2' k3' k4' k5' k6' y4')
              obtain ⟨w5, hw5⟩ : ∃ w5 : World, w4.alloc (.cells #[.int .i64 t1, .int .i64 t2] 36) = w5 := ⟨_, rfl⟩
              rw [hw5] at HO4 HB4 ⊢
              clear hw5
              obtain ⟨⟨k0, k1, k2⟩, ⟨k3, k4⟩, k5, k6⟩ := HK.out w5 HB4.out
              go_wp2_with fail
              go_roundg (cl - (k + 1))
              case measure => omega
              case rel => exact ⟨k + 1, out, by omega, by omega, by go_num, HO4.out, HE2.out, HB4.out⟩
          | some t =>
            obtain ⟨t1, t2⟩ := t
            have HS := Lib.hid hs
            by_cases hm : (t1, t2) ∈ x.2
            · have HE2 := Lib.hid (HNO.out (by unfold Cha.oneMoreF; rw [if_pos ⟨HDT.out, HGO.out⟩, hs]; simp only; rw [if_pos hm]))
              have hcn := fun W hb => HCN.out W hb (t1, t2)
              rw [decide_eq_true hm] at hcn
              have HCN2 := Lib.hid hcn
              clear HNO HYES hs hm HCN hcn
              rcases hcs with ⟨-, d1⟩ | ⟨rfl, d1⟩
              all_goals
                rw [d1] at hdn
                go_upto_region 6 with (go_at_call 39; (with_reducible refine ((HD.out _).mono ?_)); rintro e w3 ⟨rfl, hb3⟩; have HO3 := Lib.hid (OwnLk.below HO2.out hb3); have HB3 := Lib.hid (Bt HB2.out hb3); obtain ⟨⟨k0', k1', k2'⟩, ⟨k3', k4'⟩, k5', k6'⟩ := HK.out w3 HB3.out; have y4' := HY.out w3 hb3; clear hb3 k0 k1 k2 k3 k4 k5 k6 y4)
                go_upto_region 7 with (go_at_call 40; (with_reducible refine ((HST.out _ (Bt HB1.out HB3.out) k hlt).mono ?_)); rintro e w4 ⟨⟨⟨t1', t2'⟩, b, rfl, hbs, hus⟩, hb4⟩; (obtain rfl : b = true := by rw [hbs, HS.out]; rfl); (obtain ⟨rfl, rfl⟩ : t1' = t1 ∧ t2' = t2 := by simpa using hus _ HS.out); have HO4 := Lib.hid (OwnLk.below (OwnLk.below HO3.out hb4) (Ba (B0 w4) (.cells #[.int .i64 t1', .int .i64 t2'] 36))); have HB4 := Lib.hid (Ba (Bt HB3.out hb4) (.cells #[.int .i64 t1', .int .i64 t2'] 36)); clear hb4 hbs hus k0' k1' k2' k3' k4' k5' k6' y4')
                obtain ⟨w5, hw5⟩ : ∃ w5 : World, w4.alloc (.cells #[.int .i64 t1', .int .i64 t2'] 36) = w5 := ⟨_, rfl⟩
                have z0 : w5.cell? ⟨w4.heap.size, 0, none⟩ = some (.int .i64 t1') := by rw [← hw5]; simp [go_sem]
                have z1 : w5.cell? ⟨w4.heap.size, 1, none⟩ = some (.int .i64 t2') := by rw [← hw5]; simp [go_sem]
                rw [hw5] at HO4 HB4 ⊢
                clear hw5
                obtain ⟨⟨k0, k1, k2⟩, ⟨k3, k4⟩, k5, k6⟩ := HK.out w5 HB4.out
                go_wp2_with (go_at_call 41; (with_reducible refine ((HCN2.out _ (Bt HB1.out HB4.out)).mono ?_)); rintro e w6 ⟨rfl, hb6⟩; have HO6 := Lib.hid (OwnLk.below HO4.out hb6); have HB6 := Lib.hid (Bt HB4.out hb6); clear hb6)
                go_roundg (cl - (k + 1))
                case measure => omega
                case rel => exact ⟨k + 1, out, by omega, by omega, by go_num, HO6.out, HE2.out, HB6.out⟩
            · have HE2 := Lib.hid (HYES.out _ (by unfold Cha.oneMoreF; rw [if_pos ⟨HDT.out, HGO.out⟩, hs]; simp only; rw [if_neg hm]))
              have hcn := fun W hb => HCN.out W hb (t1, t2)
              rw [decide_eq_false hm] at hcn
              have HCN2 := Lib.hid hcn
              clear HNO HYES hs hm HCN hcn
              rcases hcs with ⟨-, d1⟩ | ⟨rfl, d1⟩
              all_goals
                rw [d1] at hdn
                go_upto_region 6 with (go_at_call 39; (with_reducible refine ((HD.out _).mono ?_)); rintro e w3 ⟨rfl, hb3⟩; have HO3 := Lib.hid (OwnLk.below HO2.out hb3); have HB3 := Lib.hid (Bt HB2.out hb3); obtain ⟨⟨k0', k1', k2'⟩, ⟨k3', k4'⟩, k5', k6'⟩ := HK.out w3 HB3.out; have y4' := HY.out w3 hb3; clear hb3 k0 k1 k2 k3 k4 k5 k6 y4)
                go_upto_region 7 with (go_at_call 40; (with_reducible refine ((HST.out _ (Bt HB1.out HB3.out) k hlt).mono ?_)); rintro e w4 ⟨⟨⟨t1', t2'⟩, b, rfl, hbs, hus⟩, hb4⟩; (obtain rfl : b = true := by rw [hbs, HS.out]; rfl); (obtain ⟨rfl, rfl⟩ : t1' = t1 ∧ t2' = t2 := by simpa using hus _ HS.out); have HO4 := Lib.hid (OwnLk.below (OwnLk.below HO3.out hb4) (Ba (B0 w4) (.cells #[.int .i64 t1', .int .i64 t2'] 36))); have HB4 := Lib.hid (Ba (Bt HB3.out hb4) (.cells #[.int .i64 t1', .int .i64 t2'] 36)); clear hb4 hbs hus k0' k1' k2' k3' k4' k5' k6' y4')
                obtain ⟨bt, hbt⟩ : ∃ bt, w4.heap.size = bt := ⟨_, rfl⟩
                obtain ⟨w5, hw5⟩ : ∃ w5 : World, w4.alloc (.cells #[.int .i64 t1', .int .i64 t2'] 36) = w5 := ⟨_, rfl⟩
                have KT : Blk w5 bt 36 #[.int .i64 t1', .int .i64 t2'] := by rw [← hw5, ← hbt]; exact Blk.new _ _ _
                have z0 := KT.cell 0
                have z1 := KT.cell 1
                simp only [List.getElem?_toArray, List.getElem?_cons_zero, List.getElem?_cons_succ] at z0 z1
                have HKT := Lib.hid KT
                rw [hw5] at HO4 HB4 ⊢
                rw [hbt]
                clear hw5 hbt KT
                obtain ⟨⟨k0, k1, k2⟩, ⟨k3, k4⟩, k5, k6⟩ := HK.out w5 HB4.out
                go_upto_region 8 with (go_at_call 41; (with_reducible refine ((HCN2.out _ (Bt HB1.out HB4.out)).mono ?_)); rintro e w6 ⟨rfl, hb6⟩; have HO6 := Lib.hid (OwnLk.below HO4.out hb6); have HB6 := Lib.hid (Bt HB4.out hb6); have HKT6 := Lib.hid (HKT.out.below hb6 HKT.out.lt); obtain ⟨⟨k0', k1', k2'⟩, ⟨k3', k4'⟩, k5', k6'⟩ := HK.out w6 HB6.out; clear hb6)
                go_upto_region 9 with fail
                obtain ⟨w9, hw9⟩ : ∃ w9 : World, w6 = w9 := ⟨_, rfl⟩
                rw [hw9] at HO6 HB6 HKT6 ⊢
                clear hw9 k0 k1 k2 k3 k4 k5 k6 z0 z1 k0' k1' k2' k5' k6'
                have HK9 := Lib.hid (fun W (hb : Below w9.heap.size w9 W) => (HK.out W (Bt HB6.out hb)).2.1)
                have HT9 := Lib.hid (fun W (hb : Below w9.heap.size w9 W) => (show W.cell? ⟨bt, 0, none⟩ = some (.int .i64 t1') ∧ W.cell? ⟨bt, 1, none⟩ = some (.int .i64 t2') from ⟨(Bc hb HKT6.out.lt).trans (HKT6.out.cell 0), (Bc hb HKT6.out.lt).trans (HKT6.out.cell 1)⟩))
                have HRU9 := Lib.hid (fun W (hb : Below w9.heap.size w9 W) => HRU.out.below (Bt HB1.out (Bt HB6.out hb)))
                have HRV9 := Lib.hid (fun W (hb : Below w9.heap.size w9 W) => HRV.out.below (Bt HB1.out (Bt HB6.out hb)))
                refine region_blocks (by kernel_rfl) ?_
                refine from_lawM 19 EM (fun w' => Below w9.heap.size w9 w') (FM w9.heap.size Au Av n cu cv b1 bt k u7 x (t1', t2')) VM (by kernel_rfl) rfl (FM_V _ _ _ _ _ _ _ _ _ _ _ _) (by kernel_rfl) (by kernel_rfl) ((B0 w9).drew) ⟨?_, ?_, ?_, ?_, ?_, ?_, ?_, ?_, ?_, ?_, ?_, ?_, ?_, ?_, ?_, ?_, ?_, ?_, ?_, trivial⟩ ?_
                · refine OpFactM.value (FM_below _ _ _ _ _ _ _ _ _ _ _ _) fun a w2 hf D hb => ?_
                  have h0 : sl a 7 = u7 := hf 7 (by kernel_rfl)
                  refine ⟨u7, w2, ?_, B0 _, hb, fun s _ h => h 54 rfl⟩
                  unfold sl at h0
                  simp [go_sem, h0]
                · refine OpFactM.value (FM_below _ _ _ _ _ _ _ _ _ _ _ _) fun a w2 hf D hb => ?_
                  have h0 : sl a 4 = .pointer (some ⟨b1, 0, none⟩) := hf 4 (by kernel_rfl)
                  refine ⟨.pointer (some ⟨b1, 0, none⟩), w2, ?_, B0 _, hb, fun s _ h => h 55 rfl⟩
                  unfold sl at h0
                  simp at h0
                  simp [go_sem, h0]
                · refine OpFactM.value (FM_below _ _ _ _ _ _ _ _ _ _ _ _) fun a w2 hf D hb => ?_
                  have h0 : sl a 55 = .pointer (some ⟨b1, 0, none⟩) := D 1 (by kernel_rfl)
                  have es := HK9.out w2 hb
                  refine ⟨.slice Au n cu, w2, ?_, B0 _, hb, fun s _ h => h 56 rfl⟩
                  unfold sl at h0
                  simp at h0
                  simp [go_sem, h0, es]
                · refine OpFactM.value (FM_below _ _ _ _ _ _ _ _ _ _ _ _) fun a w2 hf D hb => ?_
                  have h0 : sl a 12 = .int .i64 n := hf 12 (by kernel_rfl)
                  refine ⟨.int .i64 n, w2, ?_, B0 _, hb, fun s _ h => h 57 rfl⟩
                  unfold sl at h0
                  simp [go_sem, h0]
                · refine OpFactM.value (FM_below _ _ _ _ _ _ _ _ _ _ _ _) fun a w2 hf D hb => ?_
                  have h0 : sl a 12 = .int .i64 n := hf 12 (by kernel_rfl)
                  refine ⟨.int .i64 n, w2, ?_, B0 _, hb, fun s _ h => h 58 rfl⟩
                  unfold sl at h0
                  simp [go_sem, h0]
                · refine OpFactM.value (FM_below _ _ _ _ _ _ _ _ _ _ _ _) fun a w2 hf D hb => ?_
                  have h1 : sl a 56 = .slice Au n cu := D 2 (by kernel_rfl)
                  have h2 : sl a 57 = .int .i64 n := D 3 (by kernel_rfl)
                  have h3 : sl a 58 = .int .i64 n := D 4 (by kernel_rfl)
                  refine ⟨.slice Au n n, w2, ?_, B0 _, hb, fun s _ h => h 59 rfl⟩
                  unfold sl at h1 h2 h3
                  simp at h1 h2 h3
                  unfold execOp
                  simp [Act.eval, h1, h2, h3, go_sem, Nat.not_lt.2 hcu]
                · refine OpFactM.value (FM_below _ _ _ _ _ _ _ _ _ _ _ _) fun a w2 hf D hb => ?_
                  have h0 : sl a 8 = .int .i64 k := hf 8 (by kernel_rfl)
                  refine ⟨.int .i64 k, w2, ?_, B0 _, hb, fun s _ h => h 60 rfl⟩
                  unfold sl at h0
                  simp [go_sem, h0]
                · refine OpFactM.value (FM_below _ _ _ _ _ _ _ _ _ _ _ _) fun a w2 hf D hb => ?_
                  have h1 : sl a 60 = .int .i64 k := D 6 (by kernel_rfl)
                  refine ⟨.slice (some ⟨w2.heap.size, 0, none⟩) 1 1, w2.alloc (.cells #[.int .i64 k] 3), ?_, Ba (B0 _) _, Ba hb _, fun s _ h => ⟨_, h 61 rfl, by simp, Flds.new w2 _ _⟩⟩
                  unfold sl at h1
                  simp at h1
                  simp [go_sem, h1]
                · refine OpFactM.value (FM_below _ _ _ _ _ _ _ _ _ _ _ _) fun a w2 hf D hb => ?_
                  have h1 : sl a 59 = .slice Au n n := D 5 (by kernel_rfl)
                  obtain ⟨g, h2, _, hfl⟩ : ∃ g, sl a 61 = .slice (some ⟨g, 0, none⟩) 1 1 ∧ g < w2.heap.size ∧ Flds w2 ⟨g, 0, none⟩ [.int .i64 (k : Int)] := D 7 (by kernel_rfl)
                  obtain ⟨c', w', hrun, h3, h4⟩ := run_append_full (w := w2) elemIn (by omega) 27 Au n _ _ (HRU9.out w2 hb) g _ rfl hfl (by simp [Value.oneCell']) (by omega) (by omega)
                  refine ⟨_, w', ?_, h3, Bt hb h3, fun s _ h => ⟨_, c', h 62 rfl, by simpa [inCs] using own_more h4 hb.size⟩⟩
                  unfold sl at h1 h2
                  simp at h1 h2
                  unfold execOp
                  simp [resolve, invoke, builtin, Act.eval, h1, h2, hrun]
                · refine OpFactM.value (FM_below _ _ _ _ _ _ _ _ _ _ _ _) fun a w2 hf D hb => ?_
                  have h0 : sl a 4 = .pointer (some ⟨b1, 0, none⟩) := hf 4 (by kernel_rfl)
                  refine ⟨.pointer (some ⟨b1, 1, none⟩), w2, ?_, B0 _, hb, fun s _ h => h 63 rfl⟩
                  unfold sl at h0
                  simp at h0
                  simp [go_sem, h0]
                · refine OpFactM.value (FM_below _ _ _ _ _ _ _ _ _ _ _ _) fun a w2 hf D hb => ?_
                  have h0 : sl a 63 = .pointer (some ⟨b1, 1, none⟩) := D 9 (by kernel_rfl)
                  have es := HK9.out w2 hb
                  refine ⟨.slice Av n cv, w2, ?_, B0 _, hb, fun s _ h => h 64 rfl⟩
                  unfold sl at h0
                  simp at h0
                  simp [go_sem, h0, es]
                · refine OpFactM.value (FM_below _ _ _ _ _ _ _ _ _ _ _ _) fun a w2 hf D hb => ?_
                  have h0 : sl a 12 = .int .i64 n := hf 12 (by kernel_rfl)
                  refine ⟨.int .i64 n, w2, ?_, B0 _, hb, fun s _ h => h 65 rfl⟩
                  unfold sl at h0
                  simp [go_sem, h0]
                · refine OpFactM.value (FM_below _ _ _ _ _ _ _ _ _ _ _ _) fun a w2 hf D hb => ?_
                  have h0 : sl a 12 = .int .i64 n := hf 12 (by kernel_rfl)
                  refine ⟨.int .i64 n, w2, ?_, B0 _, hb, fun s _ h => h 66 rfl⟩
                  unfold sl at h0
                  simp [go_sem, h0]
                · refine OpFactM.value (FM_below _ _ _ _ _ _ _ _ _ _ _ _) fun a w2 hf D hb => ?_
                  have h1 : sl a 64 = .slice Av n cv := D 10 (by kernel_rfl)
                  have h2 : sl a 65 = .int .i64 n := D 11 (by kernel_rfl)
                  have h3 : sl a 66 = .int .i64 n := D 12 (by kernel_rfl)
                  refine ⟨.slice Av n n, w2, ?_, B0 _, hb, fun s _ h => h 67 rfl⟩
                  unfold sl at h1 h2 h3
                  simp at h1 h2 h3
                  unfold execOp
                  simp [Act.eval, h1, h2, h3, go_sem, Nat.not_lt.2 hcv]
                · refine OpFactM.value (FM_below _ _ _ _ _ _ _ _ _ _ _ _) fun a w2 hf D hb => ?_
                  have h0 : sl a 10 = .pointer (some ⟨bt, 0, none⟩) := hf 10 (by kernel_rfl)
                  have es := HT9.out w2 hb
                  refine ⟨.agg #[.int .i64 t1', .int .i64 t2'], w2, ?_, B0 _, hb, fun s _ h => h 68 rfl⟩
                  unfold sl at h0
                  simp at h0
                  simp [go_sem, h0, es]
                · refine OpFactM.value (FM_below _ _ _ _ _ _ _ _ _ _ _ _) fun a w2 hf D hb => ?_
                  have h1 : sl a 68 = .agg #[.int .i64 t1', .int .i64 t2'] := D 14 (by kernel_rfl)
                  refine ⟨.slice (some ⟨w2.heap.size, 0, none⟩) 1 1, w2.alloc (.cells #[.int .i64 t1', .int .i64 t2'] 36), ?_, Ba (B0 _) _, Ba hb _, fun s _ h => ⟨_, h 69 rfl, by simp, Flds.new w2 _ _⟩⟩
                  unfold sl at h1
                  simp at h1
                  simp [go_sem, h1]
                · refine OpFactM.value (FM_below _ _ _ _ _ _ _ _ _ _ _ _) fun a w2 hf D hb => ?_
                  have h1 : sl a 67 = .slice Av n n := D 13 (by kernel_rfl)
                  obtain ⟨g, h2, _, hfl⟩ : ∃ g, sl a 69 = .slice (some ⟨g, 0, none⟩) 1 1 ∧ g < w2.heap.size ∧ Flds w2 ⟨g, 0, none⟩ [.int .i64 t1', .int .i64 t2'] := D 15 (by kernel_rfl)
                  obtain ⟨c', w', hrun, h3, h4⟩ := run_append_full (w := w2) elemCt (by omega) 38 Av n _ _ (HRV9.out w2 hb) g _ rfl hfl (by simp [Value.oneCell']) (by omega) (by omega)
                  refine ⟨_, w', ?_, h3, Bt hb h3, fun s _ h => ⟨_, c', h 70 rfl, by rw [ctCsL_app]; exact own_more h4 hb.size⟩⟩
                  unfold sl at h1 h2
                  simp at h1 h2
                  unfold execOp
                  simp [resolve, invoke, builtin, Act.eval, h1, h2, hrun]
                · refine OpFactM.value (FM_below _ _ _ _ _ _ _ _ _ _ _ _) fun a w2 hf D hb => ?_
                  obtain ⟨g, c, h1, q1⟩ : ∃ g c, sl a 62 = .slice (some ⟨g, 0, none⟩) (n + 1) c ∧ w2.ownsRow w9.heap.size 3 1 (.slice (some ⟨g, 0, none⟩) (n + 1) c) (n + 1) (inCs (x.1 ++ [(k : Int)])) := D 8 (by kernel_rfl)
                  obtain ⟨g2, c2, h2, q2⟩ : ∃ g c, sl a 70 = .slice (some ⟨g, 0, none⟩) (n + 1) c ∧ w2.ownsRow w9.heap.size 36 2 (.slice (some ⟨g, 0, none⟩) (n + 1) c) (n + 1) (ctCsL (x.2 ++ [(t1', t2')])) := D 16 (by kernel_rfl)
                  refine ⟨.agg #[.slice (some ⟨g, 0, none⟩) (n + 1) c, .slice (some ⟨g2, 0, none⟩) (n + 1) c2], w2, ?_, B0 _, hb, fun s _ h => ⟨g, c, g2, c2, h 71 rfl, q1, q2⟩⟩
                  unfold sl at h1 h2
                  simp at h1 h2
                  simp [go_sem, h1, h2]
                · refine OpFactM.value (FM_below _ _ _ _ _ _ _ _ _ _ _ _) fun a w2 hf D hb => ?_
                  obtain ⟨g, c, g2, c2, h1, q1, q2⟩ : ∃ g c g2 c2, sl a 71 = .agg #[.slice (some ⟨g, 0, none⟩) (n + 1) c, .slice (some ⟨g2, 0, none⟩) (n + 1) c2] ∧ w2.ownsRow w9.heap.size 3 1 (.slice (some ⟨g, 0, none⟩) (n + 1) c) (n + 1) (inCs (x.1 ++ [(k : Int)])) ∧ w2.ownsRow w9.heap.size 36 2 (.slice (some ⟨g2, 0, none⟩) (n + 1) c2) (n + 1) (ctCsL (x.2 ++ [(t1', t2')])) := D 17 (by kernel_rfl)
                  have hL : LinkC w2 [.slice (some ⟨g, 0, none⟩) (n + 1) c, .slice (some ⟨g2, 0, none⟩) (n + 1) c2] (x.1 ++ [(k : Int)], x.2 ++ [(t1', t2')]) :=
                    ⟨_, _, rfl, slI_own (l := x.1 ++ [(k : Int)]) (by rw [List.length_append, HN1.out]; exact q1) (by rw [List.length_append, HN1.out]; simp; omega), slCt_own (l := x.2 ++ [(t1', t2')]) (by rw [List.length_append, HN2.out]; exact q2) (by rw [List.length_append, HN2.out]; simp; omega)⟩
                  refine ⟨.slice (some ⟨w2.heap.size, 0, none⟩) 1 1, w2.alloc (.cells #[.slice (some ⟨g, 0, none⟩) (n + 1) c, .slice (some ⟨g2, 0, none⟩) (n + 1) c2] 109), ?_, Ba (B0 _) _, Ba hb _, fun s _ h => ⟨_, _, _, h 72 rfl, by simp, Flds.new w2 _ _, hL.below (Ba (B0 _) _), rfl, rfl⟩⟩
                  unfold sl at h1
                  simp at h1
                  simp [go_sem, h1]
                · intro y w8 hb8 hF8
                  have h54 : y 54 = u7 := hF8 0 (by decide) rfl
                  obtain ⟨g8, e1, e2, h72, _, hfl8, hL8, ho1, ho2⟩ : ∃ g u1 u2, y 72 = .slice (some ⟨g, 0, none⟩) 1 1 ∧ g < w8.heap.size ∧ Flds w8 ⟨g, 0, none⟩ [u1, u2] ∧ LinkC w8 [u1, u2] (x.1 ++ [(k : Int)], x.2 ++ [(t1', t2')]) ∧ u1.oneCell' = true ∧ u2.oneCell' = true := hF8 18 (by decide) rfl
                  obtain ⟨cs, p1, p2, p3⟩ := OwnLk.below HO6.out hb8
                  have hbs : w1.heap.size ≤ w8.heap.size := Nat.le_trans HB6.out.size hb8.size
                  have hol := HOL.out
                  have HB8 := Lib.hid (Bt HB6.out hb8)
                  have HP1 := Lib.hid p1
                  have HP2 := Lib.hid p2
                  have HP3 := Lib.hid p3
                  have HF8 := Lib.hid hfl8
                  have HL8 := Lib.hid hL8
                  clear hF8 hb8 p1 p2 p3 hfl8 hL8
                  rw [aft19 (d0 := 54) (d1 := 55) (d2 := 56) (d3 := 57) (d4 := 58) (d5 := 59) (d6 := 60) (d7 := 61) (d8 := 62) (d9 := 63) (d10 := 64) (d11 := 65) (d12 := 66) (d13 := 67) (d14 := 68) (d15 := 69) (d16 := 70) (d17 := 71) (d18 := 72) (by kernel_rfl) rfl]
                  rw [h54, h72]
                  simp only [List.set_cons_succ, List.set_cons_zero]
                  refine from_list 21 (by kernel_rfl) (by simp only [List.take_succ_cons, List.take_zero, List.drop_succ_cons, List.drop_zero]; exact rfl) ?_
                  (intro Q' hQ' hX; clear hX)
                  go_wp2_with (at_builtin; refine wpList_appS elemLk (by omega) rfl _ _ rfl w1.heap.size u7 out.length _ rfl HP3.out ⟨g8, 0, none⟩ 1 [e1, e2] rfl rfl HF8.out (by simp [ho1, ho2]) (by omega) (by omega) hbs ?_; intro g cap w7 hown7 hg7 hgg; have HO7 := Lib.hid hown7; have HG7 := Lib.hid hg7; clear hown7 hg7 hgg)
                  refine from_end rfl ?_
                  go_wp2_with fail
                  go_roundg (cl - (k + 1))
                  case measure => omega
                  case rel => exact ⟨k + 1, out ++ [(x.1 ++ [(k : Int)], x.2 ++ [(t1', t2')])], by omega, by omega, by go_num, OwnL.snoc HP1.out HP2.out rfl (HL8.out.grown HG7.out (isC_own HP3.out (by decide) (by decide))) (fun _ _ h => h.grown HG7.out (isC_own HP3.out (by decide) (by decide))) HO7.out, HE2.out, Bg HB8.out HP3.out (Nat.le_refl _) HG7.out⟩
    · obtain rfl : k = cl := by omega
      have he : out = Cha.moreF a x (a1, a2) := by
        have h1 := HE.out
        rw [← HCL.out, Cha.moreD_end, List.append_nil] at h1
        exact h1
      subst he
      go_wp2_with fail
      go_ret
      exact ⟨_, rfl, OwnLk.more HO.out HB1.out.size, Bt HB1.out HB.out⟩
end Go.Proofs.YtahlfndlkfoikaaDoor
