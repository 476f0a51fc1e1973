/- Walks over chain: All. -/
import Derived.Test.YtahlfndlkfoikaaDoorEf
import Derived.Test.YtahlfndlkfoikaaDoorEg
namespace Go.Proofs.YtahlfndlkfoikaaDoor
open Go Go.RowKit Go.Shelf
namespace Cha
/-- What All answers. -/
def allR (a : Cou.Ac) (key : Cou.Ct) : Int × List Ch := if beginF a [key] = 0 then (match allF a key with | none => (4, []) | some L => (0, L)) else (beginF a [key], [])
end Cha
theorem OwnCh.nil_ (base : Nat) (w : World) : OwnCh base w (.slice none 0 0) [] := OwnL.nil
set_option maxRecDepth 100000 in
set_option maxHeartbeats 4000000 in
theorem All_any (a : Cou.Ac) (vd vc : Value) (hdr : a.drawn < 2 ^ 64) (key : Cou.Ct) (w : World) (F : Nat → Prop) (hA : AcAt F w vd vc a) :
    Calls Tryd.prog 29 #[.agg #[vd, vc, .int .u64 a.drawn], .agg #[.int .i64 key.1, .int .i64 key.2]] w fun e w' => ∃ v, e = .returned (.tuple #[v, .int .i64 (Cha.allR a key).1]) ∧ OwnCh w.heap.size w' v (Cha.allR a key).2 ∧ Below w.heap.size w w' := by
  obtain ⟨Ad, cd, hvd, -, -⟩ := id hA.dv.open
  obtain ⟨Ac, cc, hvc, -, -⟩ := id hA.cp.open
  subst hvd hvc
  have hF := hA.inW
  obtain ⟨dl, hdl⟩ : ∃ dl, a.divs.length = dl := ⟨_, rfl⟩
  obtain ⟨cl, hcl⟩ : ∃ cl, a.cps.length = cl := ⟨_, rfl⟩
  rw [hdl, hcl] at hA ⊢
  have HBG := Lib.hid (fun W (hb : Below w.heap.size w W) pv pl (hP : SlCt (fun b => b < W.heap.size) W pv pl) => begin_any a (.slice Ad dl cd) (.slice Ac cl cc) hdr pv pl W (fun b => b < W.heap.size) (hA.onB hF hb).all hP)
  have HAL := Lib.hid (fun (hok : Cou.Ok a) (c : Cou.Ct) (hc : CtS c) W (hb : Below w.heap.size w W) => all_any a hok (.slice Ad dl cd) (.slice Ac cl cc) hdr c hc W F (hA.onB hF hb))
  obtain ⟨k1, k2⟩ := key
  obtain ⟨w1, hw1⟩ : ∃ w1 : World, (w.alloc (.cells #[.slice Ad dl cd, .slice Ac cl cc, .int .u64 a.drawn] 33)).alloc (.cells #[.int .i64 k1, .int .i64 k2] 36) = w1 := ⟨_, rfl⟩
  obtain ⟨bx, hbx⟩ : ∃ bx, w.heap.size = bx := ⟨_, rfl⟩
  obtain ⟨b1, hb1⟩ : ∃ b1, bx + 1 = b1 := ⟨_, rfl⟩
  have c0 : w1.cell? ⟨bx, 0, none⟩ = some (.slice Ad dl cd) := by rw [← hw1, ← hbx]; simp [go_sem]
  have c1 : w1.cell? ⟨bx, 1, none⟩ = some (.slice Ac cl cc) := by rw [← hw1, ← hbx]; simp [go_sem]
  have c2 : w1.cell? ⟨bx, 2, none⟩ = some (.int .u64 a.drawn) := by rw [← hw1, ← hbx]; simp [go_sem]
  have c3 : w1.cell? ⟨b1, 0, none⟩ = some (.int .i64 k1) := by rw [← hw1, ← hb1, ← hbx]; simp [go_sem]
  have c4 : w1.cell? ⟨b1, 1, none⟩ = some (.int .i64 k2) := by rw [← hw1, ← hb1, ← hbx]; simp [go_sem]
  have l1 : b1 < w1.heap.size := by rw [← hw1, ← hb1, ← hbx]; simp
  have B1 : Below w.heap.size w w1 := by rw [← hw1]; exact Ba (Ba (B0 w) _) _
  have HK := Lib.hid (fun W (hb : Below w1.heap.size w1 W) => (show (W.cell? ⟨bx, 0, none⟩ = some (.slice Ad dl cd) ∧ W.cell? ⟨bx, 1, none⟩ = some (.slice Ac cl cc) ∧ W.cell? ⟨bx, 2, none⟩ = some (.int .u64 a.drawn)) ∧ W.cell? ⟨b1, 0, none⟩ = some (.int .i64 k1) ∧ W.cell? ⟨b1, 1, none⟩ = some (.int .i64 k2) from
    ⟨⟨(Bc hb (by omega)).trans c0, (Bc hb (by omega)).trans c1, (Bc hb (by omega)).trans c2⟩, (Bc hb l1).trans c3, (Bc hb l1).trans c4⟩))
  have HB1 := Lib.hid B1
  have HW1 := Lib.hid hw1
  have HBX := Lib.hid hbx
  have HE1 := Lib.hid hb1
  have hbg := HBG.out _ (Bt B1 (Ba (B0 w1) (.cells #[.int .i64 k1, .int .i64 k2] 36))) _ _ (slCt_one w1 (k1, k2))
  clear hA hF B1 hw1 hbx hb1 l1 hdl hcl HBG hdr
  dsimp only
  by_cases hbe : Cha.beginF a [(k1, k2)] = 0
  · obtain ⟨hok, hin⟩ := Cha.begin_one hbe
    have hz : Cha.allR a (k1, k2) = match Cha.allF a (k1, k2) with | none => (4, []) | some L => (0, L) := by unfold Cha.allR; rw [if_pos hbe]
    rw [hbe] at hbg
    have HBE := Lib.hid hbg
    have HAL2 := Lib.hid (HAL.out hok (k1, k2) (inA_cts hok hin))
    clear hbe hbg hok hin HAL
    cases hal : Cha.allF a (k1, k2) with
    | none =>
      have HZ : Hid (Cha.allR a (k1, k2) = (4, [])) := Lib.hid (by rw [hz, hal])
      have hc := HAL2.out
      rw [hal] at hc
      have HC := Lib.hid hc
      clear hz hal hc HAL2
      go_enter Tryd.func29, Tryd.ntmps29
      go_upto_region 1 with fail
      rw [HW1.out, HBX.out, HE1.out]
      go_wp2_with (first
        | (go_at_call 38; (with_reducible refine (HBE.out.mono ?_)); rintro e w2 ⟨rfl, hb2⟩; have HB2 := Lib.hid (Bt (Ba (B0 w1) _) hb2); obtain ⟨⟨d0, d1, d2⟩, d3, d4⟩ := HK.out w2 HB2.out; clear hb2 c0 c1 c2 c3 c4)
        | (go_at_call 54; (with_reducible refine ((HC.out _ (Bt HB1.out HB2.out)).mono ?_)); rintro e w3 ⟨v, rfl, -, hb3⟩; have HB3 := Lib.hid (Bt HB2.out hb3); clear hb3 d0 d1 d2 d3 d4))
      go_ret2
      rw [HZ.out]
      exact ⟨_, rfl, OwnCh.nil_ _ _, Bt HB1.out HB3.out⟩
    | some L =>
      have HZ : Hid (Cha.allR a (k1, k2) = (0, L)) := Lib.hid (by rw [hz, hal])
      have hc := HAL2.out
      rw [hal] at hc
      have HC := Lib.hid hc
      clear hz hal hc HAL2
      go_enter Tryd.func29, Tryd.ntmps29
      go_upto_region 1 with fail
      rw [HW1.out, HBX.out, HE1.out]
      go_wp2_with (first
        | (go_at_call 38; (with_reducible refine (HBE.out.mono ?_)); rintro e w2 ⟨rfl, hb2⟩; have HB2 := Lib.hid (Bt (Ba (B0 w1) _) hb2); obtain ⟨⟨d0, d1, d2⟩, d3, d4⟩ := HK.out w2 HB2.out; clear hb2 c0 c1 c2 c3 c4)
        | (go_at_call 54; (with_reducible refine ((HC.out _ (Bt HB1.out HB2.out)).mono ?_)); rintro e w3 ⟨v, rfl, hO3, hb3⟩; have HO3 := Lib.hid (OwnCh.more (hO3 L rfl) (Bt HB1.out HB2.out).size); have HB3 := Lib.hid (Bt HB2.out hb3); clear hb3 hO3 d0 d1 d2 d3 d4))
      go_ret2
      rw [HZ.out]
      exact ⟨_, rfl, HO3.out, Bt HB1.out HB3.out⟩
  · have HZ : Hid (Cha.allR a (k1, k2) = (Cha.beginF a [(k1, k2)], [])) := Lib.hid (by unfold Cha.allR; rw [if_neg hbe])
    have d1 : (Cha.beginF a [(k1, k2)] != 0) = true := by simpa using hbe
    have HBE := Lib.hid hbg
    clear hbe hbg HAL
    generalize Cha.beginF a [(k1, k2)] = er at *
    go_enter Tryd.func29, Tryd.ntmps29
    go_upto_region 1 with fail
    rw [HW1.out, HBX.out, HE1.out]
    go_wp2_with (go_at_call 38; (with_reducible refine (HBE.out.mono ?_)); rintro e w2 ⟨rfl, hb2⟩; have HB2 := Lib.hid (Bt (Ba (B0 w1) _) hb2); clear hb2)
    go_ret2
    rw [HZ.out]
    exact ⟨_, rfl, OwnCh.nil_ _ _, Bt HB1.out HB2.out⟩
end Go.Proofs.YtahlfndlkfoikaaDoor
