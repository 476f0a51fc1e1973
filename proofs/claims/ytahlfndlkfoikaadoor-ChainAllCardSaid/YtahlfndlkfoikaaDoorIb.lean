/- Walks over chain: To. -/
import Derived.Test.YtahlfndlkfoikaaDoorIa
import Derived.Test.YtahlfndlkfoikaaDoorEi
import Derived.Test.YtahlfndlkfoikaaDoorQ3
namespace Go.Proofs.YtahlfndlkfoikaaDoor
open Go Go.RowKit Go.Shelf
namespace Cha
/-- What To answers. -/
def toR (a : Cou.Ac) (key c : Cou.Ct) : Int × List Ch := if beginF a [key, c] = 0 then (match allF a key with | none => (4, []) | some L => (0, L.filter fun x => decide (x.2 = c))) else (beginF a [key, c], [])
end Cha
set_option maxRecDepth 100000 in
set_option maxHeartbeats 1000000 in
theorem to1_any (x : Zc) (B : Nat) (c : Cou.Ct) (w : World) (hB : Blk w B 36 #[.int .i64 c.1, .int .i64 c.2]) :
    Calls Tryd.prog 56 (#[zV x] ++ #[.pointer (some ⟨B, 0, none⟩)]) w fun e w' => e = .returned (.bool (!decide (x.2.2 = c))) ∧ Below w.heap.size w w' := by
  obtain ⟨⟨xa, xn, xc⟩, us, x1, x2⟩ := x
  obtain ⟨c1, c2⟩ := c
  have HV : Hid (∀ b, decide (((x1, x2) : Cou.Ct) = (c1, c2)) = b → (Value.bool (!decide (((x1, x2) : Cou.Ct) = (c1, c2)))) = .bool (!b)) := Lib.hid fun b h => by rw [h]
  have b0 := (Bc (Ba (B0 w) (.cells #[.slice xa xn xc, .int .i64 x1, .int .i64 x2] 56)) hB.lt).trans (hB.cell 0)
  have b1 := (Bc (Ba (B0 w) (.cells #[.slice xa xn xc, .int .i64 x1, .int .i64 x2] 56)) hB.lt).trans (hB.cell 1)
  simp only [List.getElem?_toArray, List.getElem?_cons_zero, List.getElem?_cons_succ] at b0 b1
  obtain ⟨w1, hw1⟩ : ∃ w1 : World, w.alloc (.cells #[.slice xa xn xc, .int .i64 x1, .int .i64 x2] 56) = w1 := ⟨_, rfl⟩
  obtain ⟨bx, hbx⟩ : ∃ bx, w.heap.size = bx := ⟨_, rfl⟩
  have d0 : w1.cell? ⟨bx, 1, none⟩ = some (.int .i64 x1) := by rw [← hw1, ← hbx]; simp [go_sem]
  have d1 : w1.cell? ⟨bx, 2, none⟩ = some (.int .i64 x2) := by rw [← hw1, ← hbx]; simp [go_sem]
  have HB1 : Hid (Below w.heap.size w w1) := Lib.hid (by rw [← hw1]; exact Ba (B0 w) _)
  rw [hw1] at b0 b1
  have HW1 := Lib.hid hw1
  have HBX := Lib.hid hbx
  clear hB hw1 hbx
  unfold zV
  dsimp only
  by_cases h1 : x1 = c1
  · subst h1
    by_cases h2 : x2 = c2
    · subst h2
      have HZ := Lib.hid (HV.out true (by simp))
      clear HV
      go_enter Tryd.func56, Tryd.ntmps56
      go_upto_region 1 with fail
      rw [HW1.out, HBX.out]
      go_wp2
      go_ret
      exact ⟨by first | rfl | (rw [HZ.out]; rfl), HB1.out⟩
    · have HZ := Lib.hid (HV.out false (by simp [h2]))
      have e2 : (x2 == c2) = false := by simpa using h2
      clear HV h2
      go_enter Tryd.func56, Tryd.ntmps56
      go_upto_region 1 with fail
      rw [HW1.out, HBX.out]
      go_wp2
      go_ret
      exact ⟨by first | rfl | (rw [HZ.out]; rfl), HB1.out⟩
  · have HZ := Lib.hid (HV.out false (by simp [h1]))
    have e1 : (x1 == c1) = false := by simpa using h1
    clear HV h1
    go_enter Tryd.func56, Tryd.ntmps56
    go_upto_region 1 with fail
    rw [HW1.out, HBX.out]
    go_wp2
    go_ret
    exact ⟨by first | rfl | (rw [HZ.out]; rfl), HB1.out⟩
/-- A row's chains read, from those with their slices. -/
theorem slCh_of_z {F : Nat → Prop} {w : World} {v : Value} {Z : List Zc} (h : SlZ F w v Z) (hs : ∀ z ∈ Z, SlI (IsC w) w (.slice z.1.1 z.1.2.1 z.1.2.2) z.2.1) : SlCh F w v (Z.map (·.2)) := by
  obtain ⟨A, c, rfl, h1, h2, h3⟩ := h
  refine ⟨A, c, by rw [List.length_map], by rwa [List.length_map], by rwa [List.length_map], fun i hi => ?_⟩
  rw [List.length_map] at hi
  obtain ⟨ad, cs, q1, q2, q3, q4, q5⟩ := h3 i hi
  refine ⟨ad, cs, q1, q2, q3, ?_, q5⟩
  unfold ZC zCs at q4
  rw [List.getElem_map]
  exact ⟨_, q4, hs _ (List.getElem_mem hi)⟩
theorem slCh_nil (F : Nat → Prop) (w : World) : SlCh F w (.slice none 0 0) [] := Sl.nil_
set_option maxRecDepth 100000 in
set_option maxHeartbeats 4000000 in
theorem To_any (a : Cou.Ac) (vd vc : Value) (hdr : a.drawn < 2 ^ 64) (key c : Cou.Ct) (w : World) (F : Nat → Prop) (hA : AcAt F w vd vc a) :
    Calls Tryd.prog 30 #[.agg #[vd, vc, .int .u64 a.drawn], .agg #[.int .i64 key.1, .int .i64 key.2], .agg #[.int .i64 c.1, .int .i64 c.2]] w fun e w' => ∃ v, e = .returned (.tuple #[v, .int .i64 (Cha.toR a key c).1]) ∧ SlCh (fun b => w.heap.size ≤ b ∧ b < w'.heap.size) w' v (Cha.toR a key c).2 ∧ Below w.heap.size w w' := by
  obtain ⟨Ad, cd, hvd, -, -⟩ := id hA.dv.open
  obtain ⟨Ac, cc, hvc, -, -⟩ := id hA.cp.open
  subst hvd hvc
  have hF := hA.inW
  obtain ⟨dl, hdl⟩ : ∃ dl, a.divs.length = dl := ⟨_, rfl⟩
  obtain ⟨cl, hcl⟩ : ∃ cl, a.cps.length = cl := ⟨_, rfl⟩
  rw [hdl, hcl] at hA ⊢
  have HBG := Lib.hid (fun W (hb : Below w.heap.size w W) pv pl (hP : SlCt (fun b => b < W.heap.size) W pv pl) => begin_any a (.slice Ad dl cd) (.slice Ac cl cc) hdr pv pl W (fun b => b < W.heap.size) (hA.onB hF hb).all hP)
  have HAL := Lib.hid (fun (hok : Cou.Ok a) (c : Cou.Ct) (hc : CtS c) W (hb : Below w.heap.size w W) => all_any a hok (.slice Ad dl cd) (.slice Ac cl cc) hdr c hc W F (hA.onB hF hb))
  obtain ⟨k1, k2⟩ := key
  obtain ⟨t1, t2⟩ := c
  obtain ⟨w1, hw1⟩ : ∃ w1 : World, ((w.alloc (.cells #[.slice Ad dl cd, .slice Ac cl cc, .int .u64 a.drawn] 33)).alloc (.cells #[.int .i64 k1, .int .i64 k2] 36)).alloc (.cells #[.int .i64 t1, .int .i64 t2] 36) = w1 := ⟨_, rfl⟩
  obtain ⟨bx, hbx⟩ : ∃ bx, w.heap.size = bx := ⟨_, rfl⟩
  obtain ⟨b1, hb1⟩ : ∃ b1, bx + 1 = b1 := ⟨_, rfl⟩
  obtain ⟨b2, hb2⟩ : ∃ b2, b1 + 1 = b2 := ⟨_, rfl⟩
  have KX : Blk w1 bx 33 #[.slice Ad dl cd, .slice Ac cl cc, .int .u64 a.drawn] := by
    rw [← hw1, ← hbx]; exact ((Blk.new _ _ _).alloc _).alloc _
  have KK : Blk w1 b1 36 #[.int .i64 k1, .int .i64 k2] := by
    have := (Blk.new (w.alloc (.cells #[.slice Ad dl cd, .slice Ac cl cc, .int .u64 a.drawn] 33)) 36 #[.int .i64 k1, .int .i64 k2]).alloc (.cells #[.int .i64 t1, .int .i64 t2] 36)
    rw [hw1] at this
    rw [← hb1, ← hbx]; simpa using this
  have KC : Blk w1 b2 36 #[.int .i64 t1, .int .i64 t2] := by
    have := Blk.new ((w.alloc (.cells #[.slice Ad dl cd, .slice Ac cl cc, .int .u64 a.drawn] 33)).alloc (.cells #[.int .i64 k1, .int .i64 k2] 36)) 36 #[.int .i64 t1, .int .i64 t2]
    rw [hw1] at this
    rw [← hb2, ← hb1, ← hbx]; simpa using this
  have B1 : Below w.heap.size w w1 := by rw [← hw1]; exact Ba (Ba (Ba (B0 w) _) _) _
  have HK := Lib.hid (fun W (hb : Below w1.heap.size w1 W) => (show (W.cell? ⟨bx, 0, none⟩ = some (.slice Ad dl cd) ∧ W.cell? ⟨bx, 1, none⟩ = some (.slice Ac cl cc) ∧ W.cell? ⟨bx, 2, none⟩ = some (.int .u64 a.drawn)) ∧ (W.cell? ⟨b1, 0, none⟩ = some (.int .i64 k1) ∧ W.cell? ⟨b1, 1, none⟩ = some (.int .i64 k2)) ∧ W.cell? ⟨b2, 0, none⟩ = some (.int .i64 t1) ∧ W.cell? ⟨b2, 1, none⟩ = some (.int .i64 t2) from
    ⟨⟨(Bc hb KX.lt).trans (KX.cell 0), (Bc hb KX.lt).trans (KX.cell 1), (Bc hb KX.lt).trans (KX.cell 2)⟩, ⟨(Bc hb KK.lt).trans (KK.cell 0), (Bc hb KK.lt).trans (KK.cell 1)⟩, (Bc hb KC.lt).trans (KC.cell 0), (Bc hb KC.lt).trans (KC.cell 1)⟩))
  have HKC := Lib.hid KC
  have HB1 := Lib.hid B1
  have HW1 := Lib.hid hw1
  have HBX := Lib.hid hbx
  have HE1 := Lib.hid hb1
  have HE2 := Lib.hid hb2
  have hbg := HBG.out _ (Bt B1 (Ba (B0 w1) (.cells #[.int .i64 k1, .int .i64 k2, .int .i64 t1, .int .i64 t2] 36))) _ _ (slCt_two w1 (k1, k2) (t1, t2))
  obtain ⟨⟨c0, c1, c2⟩, ⟨c3, c4⟩, c5, c6⟩ := HK.out w1 (B0 w1)
  clear hA hF B1 hw1 hbx hb1 hb2 hdl hcl HBG hdr KX KK KC
  dsimp only
  by_cases hbe : Cha.beginF a [(k1, k2), (t1, t2)] = 0
  · obtain ⟨hrt, hwk, -⟩ := Cha.begin_two hbe
    have hok := Cou.right_ok hrt
    have hin := Cha.wrong_inA hwk
    have hz : Cha.toR a (k1, k2) (t1, t2) = match Cha.allF a (k1, k2) with | none => (4, []) | some L => (0, L.filter fun x => decide (x.2 = (t1, t2))) := by unfold Cha.toR; rw [if_pos hbe]
    rw [hbe] at hbg
    have HBE := Lib.hid hbg
    have HAL2 := Lib.hid (HAL.out hok (k1, k2) (inA_cts hok hin))
    cases hal : Cha.allF a (k1, k2) with
    | none =>
      have HZ : Hid (Cha.toR a (k1, k2) (t1, t2) = (4, [])) := Lib.hid (by rw [hz, hal])
      have hc := HAL2.out
      rw [hal] at hc
      have HC := Lib.hid hc
      clear hz hal hc HAL2 hbe hbg hok hin HAL hrt hwk
      go_enter Tryd.func30, Tryd.ntmps30
      go_upto_region 1 with fail
      rw [HW1.out, HBX.out, HE1.out, HE2.out]
      go_wp2_with (first
        | (go_at_call 38; (with_reducible refine (HBE.out.mono ?_)); rintro e w2 ⟨rfl, hb2⟩; have HB2 := Lib.hid (Bt (Ba (B0 w1) _) hb2); clear c0 c1 c2 c3 c4 c5 c6; obtain ⟨⟨d0, d1, d2⟩, ⟨d3, d4⟩, d5, d6⟩ := HK.out w2 HB2.out; clear hb2)
        | (go_at_call 54; (with_reducible refine ((HC.out _ (Bt HB1.out HB2.out)).mono ?_)); rintro e w3 ⟨v, rfl, -, hb3⟩; have HB3 := Lib.hid (Bt HB2.out hb3); clear hb3 d0 d1 d2 d3 d4 d5 d6))
      go_ret2
      rw [HZ.out]
      exact ⟨_, rfl, slCh_nil _ _, Bt HB1.out HB3.out⟩
    | some L =>
      have HZ : Hid (Cha.toR a (k1, k2) (t1, t2) = (0, L.filter fun x => decide (x.2 = (t1, t2)))) := Lib.hid (by rw [hz, hal])
      have hLl : L.length ≤ 2000 := by
        unfold Cha.allF at hal
        split at hal
        · cases hal
        · split at hal
          · rename_i h
            injection hal with hal
            rw [← hal, List.length_map]; exact h
          · cases hal
      have HLL := Lib.hid hLl
      have hc := HAL2.out
      rw [hal] at hc
      have HC := Lib.hid hc
      clear hz hal hc HAL2 hLl hbe hbg hok hin HAL hrt hwk
      go_enter Tryd.func30, Tryd.ntmps30
      go_upto_region 1 with fail
      rw [HW1.out, HBX.out, HE1.out, HE2.out]
      go_upto_region 7 with (first
        | (go_at_call 38; (with_reducible refine (HBE.out.mono ?_)); rintro e w2 ⟨rfl, hb2⟩; have HB2 := Lib.hid (Bt (Ba (B0 w1) _) hb2); clear c0 c1 c2 c3 c4 c5 c6; obtain ⟨⟨d0, d1, d2⟩, ⟨d3, d4⟩, d5, d6⟩ := HK.out w2 HB2.out; clear hb2)
        | (go_at_call 54; (with_reducible refine ((HC.out _ (Bt HB1.out HB2.out)).mono ?_)); rintro e w3 ⟨v, rfl, hO3, hb3⟩; have HO3 := Lib.hid (OwnCh.more (hO3 L rfl) (Bt (Bt HB1.out HB2.out) (B0 w2)).size); have HO32 := Lib.hid (hO3 L rfl); have HB3 := Lib.hid (Bt HB2.out hb3); clear hb3 hO3 d0 d1 d2 d3 d4 d5 d6))
      obtain ⟨Z, hZ1, hZ2, hZ3⟩ := ownCh_z HO32.out
      have hlt : ∀ b, v.ownBlock = some b → w2.heap.size ≤ b := fun b h => (hZ2.lt b h).1
      have HC3 := Lib.hid (HKC.out.below HB3.out HKC.out.lt)
      have hzl : Z.length ≤ 2000 := by rw [← List.length_map (f := fun z : Zc => z.2), hZ1]; exact HLL.out
      have hb2s : b2 < w2.heap.size := Nat.lt_of_lt_of_le HKC.out.lt HB2.out.size
      have HDF := Lib.hid (deletef_z (fun x => !decide (x = (t1, t2))) Z (by omega) 56 #[.pointer (some ⟨b2, 0, none⟩)] (enters_of Tryd.func56 (by kernel_rfl) rfl) w2.heap.size v w3 hZ2 fun W x _ hW => to1_any x b2 (t1, t2) W (HC3.out.grown hW fun e => by have := hlt b2 e.symm; omega))
      have HZ1 := Lib.hid hZ1
      have HZ2 := Lib.hid hZ2
      have HZ3 := Lib.hid hZ3
      have HLT := Lib.hid hlt
      clear hZ1 hZ2 hZ3 hlt hzl hb2s
      go_wp2_with (go_at_call 55; (with_reducible refine (HDF.out.mono ?_)); rintro e w4 ⟨v4, rfl, hs4, hg4⟩; have HS4 := Lib.hid hs4; have HG4 := Lib.hid hg4; clear hs4 hg4)
      go_ret2
      rw [HZ.out]
      have hle : w.heap.size ≤ w2.heap.size := Nat.le_trans HB1.out.size HB2.out.size
      have hfe : (Z.filter fun c => !!decide (c.2.2 = (t1, t2))).map (·.2) = L.filter fun x => decide (x.2 = (t1, t2)) := by
        rw [← HZ1.out, List.filter_map]
        simp only [Bool.not_not]
        rfl
      have hno : ∀ b, IsC w3 b → some b ≠ v.ownBlock := by
        obtain ⟨cs, _, _, ho⟩ := HZ2.out
        exact isC_own ho (by decide) (by decide)
      refine ⟨v4, rfl, ?_, (Bt HB1.out HB3.out).grown HG4.out (Bt HB1.out HB3.out).size fun k e => Nat.le_trans hle (HLT.out k e)⟩
      have h := slCh_of_z HS4.out fun z hz => by
        have hA3 : Agree (IsC w3) w3 w4 := Agree.grown HG4.out fun b hb => ⟨hb.lt, hno b hb⟩
        exact (SlI.keep (HZ3.out z (List.mem_filter.1 hz).1) hA3).mono fun b hb => hb.grown HG4.out (hno b hb)
      rw [hfe] at h
      exact Sl.mono h fun b hb => ⟨Nat.le_trans hle hb.1, hb.2⟩
  · have HZ : Hid (Cha.toR a (k1, k2) (t1, t2) = (Cha.beginF a [(k1, k2), (t1, t2)], [])) := Lib.hid (by unfold Cha.toR; rw [if_neg hbe])
    have d1 : (Cha.beginF a [(k1, k2), (t1, t2)] != 0) = true := by simpa using hbe
    have HBE := Lib.hid hbg
    clear hbe hbg HAL
    generalize Cha.beginF a [(k1, k2), (t1, t2)] = er at *
    go_enter Tryd.func30, Tryd.ntmps30
    go_upto_region 1 with fail
    rw [HW1.out, HBX.out, HE1.out, HE2.out]
    go_wp2_with (go_at_call 38; (with_reducible refine (HBE.out.mono ?_)); rintro e w2 ⟨rfl, hb2⟩; have HB2 := Lib.hid (Bt (Ba (B0 w1) _) hb2); clear hb2)
    go_ret2
    rw [HZ.out]
    exact ⟨_, rfl, slCh_nil _ _, Bt HB1.out HB2.out⟩
end Go.Proofs.YtahlfndlkfoikaaDoor
