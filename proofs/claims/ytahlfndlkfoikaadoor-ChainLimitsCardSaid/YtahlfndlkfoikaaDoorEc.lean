/- Walks over chain: begin. -/
import Derived.Test.YtahlfndlkfoikaaDoorEa
import Derived.Test.YtahlfndlkfoikaaDoorEp
import Derived.Test.YtahlfndlkfoikaaDoorKi
import Derived.Test.YtahlfndlkfoikaaDoorVa
namespace Go.Proofs.YtahlfndlkfoikaaDoor
open Go Go.RowKit Go.Shelf
namespace Cha
/-- The first error of contacts. -/
def wrongsF (a : Cou.Ac) : List Cou.Ct → Int
  | [] => 0
  | c :: l => if Cou.wrongF a c = 0 then wrongsF a l else Cou.wrongF a c
/-- The error of an action with contacts. -/
def beginF (a : Cou.Ac) (l : List Cou.Ct) : Int := if Cou.rightF a = 0 then wrongsF a l else Cou.rightF a
end Cha
set_option maxRecDepth 100000 in
set_option maxHeartbeats 2000000 in
theorem begin_any (a : Cou.Ac) (vd vc : Value) (hdr : a.drawn < 2 ^ 64) (pv : Value) (pl : List Cou.Ct) (w : World) (F : Nat → Prop) (hA : AcAt F w vd vc a) (hP : SlCt F w pv pl) :
    Calls Tryd.prog 38 #[.agg #[vd, vc, .int .u64 a.drawn], pv] w fun e w' => e = .returned (.int .i64 (Cha.beginF a pl)) ∧ Below w.heap.size w w' := by
  obtain ⟨Ad, cd, hvd, -, -⟩ := id hA.dv.open
  obtain ⟨Ac, cc, hvc, -, -⟩ := id hA.cp.open
  subst hvd hvc
  obtain ⟨A, c, rfl, -, hlm, hat⟩ := hP.open
  have hF := hA.inW
  obtain ⟨dl, hdl⟩ : ∃ dl, a.divs.length = dl := ⟨_, rfl⟩
  obtain ⟨cl, hcl⟩ : ∃ cl, a.cps.length = cl := ⟨_, rfl⟩
  rw [hdl, hcl] at hA ⊢
  have HRT := Lib.hid (fun W (hb : Below w.heap.size w W) => right_any a (.slice Ad dl cd) (.slice Ac cl cc) hdr W F (hA.onB hF hb))
  have HCT := Lib.hid (fun W (hb : Below w.heap.size w W) x => ccontact_any a (.slice Ad dl cd) (.slice Ac cl cc) x a.drawn W F (hA.onB hF hb))
  obtain ⟨n, hn⟩ : ∃ n, pl.length = n := ⟨_, rfl⟩
  have HN := Lib.hid hn
  have HAT := Lib.hid hat
  rw [hn] at hlm ⊢
  obtain ⟨w1, hw1⟩ : ∃ w1 : World, w.alloc (.cells #[.slice Ad dl cd, .slice Ac cl cc, .int .u64 a.drawn] 33) = w1 := ⟨_, rfl⟩
  obtain ⟨bx, hbx⟩ : ∃ bx, w.heap.size = bx := ⟨_, rfl⟩
  have K1 : Blk w1 bx 33 #[.slice Ad dl cd, .slice Ac cl cc, .int .u64 a.drawn] := by rw [← hw1, ← hbx]; exact Blk.new _ _ _
  have B1 : Below w.heap.size w w1 := by rw [← hw1]; exact Ba (B0 w) _
  have HK := Lib.hid (fun W (hb : Below w1.heap.size w1 W) => (show W.cell? ⟨bx, 0, none⟩ = some (.slice Ad dl cd) ∧ W.cell? ⟨bx, 1, none⟩ = some (.slice Ac cl cc) ∧ W.cell? ⟨bx, 2, none⟩ = some (.int .u64 a.drawn) from
    ⟨(Bc hb K1.lt).trans (K1.cell 0), (Bc hb K1.lt).trans (K1.cell 1), (Bc hb K1.lt).trans (K1.cell 2)⟩))
  obtain ⟨k0, k1, k2⟩ := HK.out w1 (B0 w1)
  have HB1 := Lib.hid B1
  have HW1 := Lib.hid hw1
  have HBX := Lib.hid hbx
  clear hA hP hat hn K1 B1 hw1 hbx hdl hcl hdr
  have HR1 := Lib.hid (HRT.out w1 HB1.out)
  by_cases hr : Cou.rightF a = 0
  · have HZ : Hid (Cha.beginF a pl = Cha.wrongsF a pl) := Lib.hid (by unfold Cha.beginF; rw [if_pos hr])
    rw [hr] at HR1
    clear hr HRT
    go_enter Tryd.func38, Tryd.ntmps38
    go_upto_region 1 with fail
    rw [HW1.out, HBX.out]
    go_wp2_with (go_at_call 27; (with_reducible refine (HR1.out.mono ?_)); rintro e w2 ⟨rfl, hb2⟩; have HB2 := Lib.hid hb2; clear hb2 k0 k1 k2)
    go_loopw [16] (fun s wr => ∃ k : Nat, k ≤ n ∧ s = .int .i64 k ∧ Aside (Cha.wrongsF a pl = Cha.wrongsF a (pl.drop k)) ∧ Aside (Below w1.heap.size w1 wr)) (fun s _ => n - (intOf s).toNat)
    case atStart => exact ⟨0, by omega, rfl, (show Aside _ from by show _ = _; rw [List.drop_zero]), HB2.out⟩
    case round =>
      obtain ⟨k, hk, rfl, hE, hB⟩ := hrel
      replace hE : Cha.wrongsF a pl = Cha.wrongsF a (pl.drop k) := hE
      replace hB : Below w1.heap.size w1 wr := hB
      clear HB2
      by_cases hlt : k < n
      · have hkl : (k : Int) < n := by omega
        have hkl1 : k < pl.length := by rw [HN.out]; exact hlt
        obtain ⟨ad, rfl, hfb, hfl⟩ := HAT.out k hkl1
        have hfb2 : (ad.add (k * 2)).block < w.heap.size := by rw [block_of_add]; exact hF _ hfb
        have hfl2 := hfl.below (Bt HB1.out hB) hfb2
        have f0 := hfl2.f0 rfl
        have f1 := hfl2.f1 rfl
        rw [List.drop_eq_getElem_cons hkl1, Cha.wrongsF] at hE
        generalize pl[k] = x at *
        obtain ⟨x1, x2⟩ := x
        dsimp only at f0 f1
        have hbw := Ba hB (.cells #[.int .i64 x1, .int .i64 x2] 36)
        have hcall := HCT.out _ (Bt HB1.out hbw) (x1, x2)
        obtain ⟨k0, k1, k2⟩ := HK.out _ hbw
        have HE := Lib.hid hE
        have HBw := Lib.hid hbw
        clear hE hB hbw hfl hfl2 hkl1
        obtain ⟨by_, hby⟩ : ∃ b, wr.heap.size = b := ⟨_, rfl⟩
        by_cases hz : Cou.wrongF a (x1, x2) = 0
        · rw [hz] at hcall
          have HC := Lib.hid hcall
          have HE2 : Hid (Cha.wrongsF a pl = Cha.wrongsF a (pl.drop (k + 1))) := Lib.hid (by rw [HE.out, if_pos hz])
          clear hcall hz HE
          go_wp2_with (go_at_call 60; (with_reducible refine (HC.out.mono ?_)); rintro e w3 ⟨rfl, hb3⟩; have HB3 := Lib.hid (Bt HBw.out hb3); clear hb3)
          go_roundw
          case rel => exact ⟨k + 1, by omega, by go_num, HE2.out, HB3.out⟩
          case measure => simp [intOf]; omega
        · have d1 : (Cou.wrongF a (x1, x2) != 0) = true := by simpa using hz
          have HC := Lib.hid hcall
          have HE2 : Hid (Cha.beginF a pl = Cou.wrongF a (x1, x2)) := Lib.hid (by rw [HZ.out, HE.out, if_neg hz])
          clear hcall hz HE
          generalize Cou.wrongF a (x1, x2) = er at *
          go_wp2_with (go_at_call 60; (with_reducible refine (HC.out.mono ?_)); rintro e w3 ⟨rfl, hb3⟩; have HB3 := Lib.hid (Bt HBw.out hb3); clear hb3)
          go_ret
          exact ⟨by rw [HE2.out]; rfl, Bt HB1.out HB3.out⟩
      · obtain rfl : k = n := by omega
        have HE : Hid (Cha.beginF a pl = 0) := Lib.hid (by rw [HZ.out, hE, List.drop_eq_nil_of_le (by rw [HN.out]; exact Nat.le_refl _)]; rfl)
        have HB := Lib.hid hB
        clear hE hB
        go_wp2
        go_ret
        exact ⟨by rw [HE.out]; rfl, Bt HB1.out HB.out⟩
  · have HZ : Hid (Cha.beginF a pl = Cou.rightF a) := Lib.hid (by unfold Cha.beginF; rw [if_neg hr])
    have d1 : (Cou.rightF a != 0) = true := by simpa using hr
    clear hr HRT
    generalize Cou.rightF a = er at *
    go_enter Tryd.func38, Tryd.ntmps38
    go_upto_region 1 with fail
    rw [HW1.out, HBX.out]
    go_wp2_with (go_at_call 27; (with_reducible refine (HR1.out.mono ?_)); rintro e w2 ⟨rfl, hb2⟩; have HB2 := Lib.hid hb2; clear hb2)
    go_ret
    exact ⟨by rw [HZ.out]; rfl, Bt HB1.out HB2.out⟩
/-- What step answers: where the coupler takes the contact, and whether it may. -/
def StpP (a : Cou.Ac) (i : Nat) (c : Cou.Ct) (e : Ending) : Prop := ∃ t : Cou.Ct, ∃ b : Bool, e = .returned (.tuple #[.agg #[.int .i64 t.1, .int .i64 t.2], .bool b]) ∧ b = (Cou.stepF a i c).isSome ∧ ∀ u, Cou.stepF a i c = some u → t = u
end Go.Proofs.YtahlfndlkfoikaaDoor
