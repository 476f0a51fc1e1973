/- Walks over chain: Follow. -/
import Derived.Test.YtahlfndlkfoikaaDoorQ2
import Derived.Test.YtahlfndlkfoikaaDoorRegW
import Derived.Test.YtahlfndlkfoikaaDoorQ1
namespace Go.Proofs.YtahlfndlkfoikaaDoor
open Go Go.RowKit Go.Shelf
namespace Cha
/-- What Follow answers. -/
def folR (a : Cou.Ac) (key : Cou.Ct) (cs : List Int) : Int × List Cou.Ct := if beginF a [key] = 0 then followF a key cs else (beginF a [key], [])
theorem wrong_inA {a : Cou.Ac} {c : Cou.Ct} (hc : Cou.wrongF a c = 0) : Cou.InA a c := by
  unfold Cou.wrongF at hc
  by_cases q : c.1 < 0 ∨ (a.divs.length : Int) ≤ c.1
  · rw [if_pos q] at hc; cases hc
  · rw [if_neg q] at hc
    refine ⟨by omega, by omega, ?_⟩
    cases hq : Cou.inB (a.divs.getD c.1.toNat (0, -1)) c.2 with
    | true => rfl
    | false => simp only [hq, cond_false] at hc; cases hc
theorem begin_one {a : Cou.Ac} {c : Cou.Ct} (h : beginF a [c] = 0) : Cou.Ok a ∧ Cou.InA a c := by
  unfold beginF at h
  split at h
  · rename_i hr
    refine ⟨Cou.right_ok hr, wrong_inA ?_⟩
    unfold wrongsF at h
    split at h
    · assumption
    · rename_i q; exact absurd h q
  · rename_i q; exact absurd h q
end Cha
/-- What holds behind each operation of a drawn region. -/
def FG (base n lim : Nat) (v : Value) (out : List Cou.Ct) (t1 t2 : Int) (j : Nat) (s : Nat → Value) (w : World) : Prop :=
  match j with
  | 0 => s 69 = v
  | 1 => s 70 = .agg #[.int .i64 t1, .int .i64 t2]
  | 2 => ∃ g, s 71 = .slice (some ⟨g, 0, none⟩) 1 1 ∧ g < w.heap.size ∧ lim < g ∧ Flds w ⟨g, 0, none⟩ [.int .i64 t1, .int .i64 t2]
  | 3 => ∃ g c, s 72 = .slice (some ⟨g, 0, none⟩) (n + 1) c ∧ OwnL base 36 2 CtC w (.slice (some ⟨g, 0, none⟩) (n + 1) c) (out ++ [(t1, t2)])
  | 4 => s 73 = .agg #[.int .i64 t1, .int .i64 t2]
  | 5 => s 9 = s 72
  | _ => True
def VG (j : Nat) : List Nat := match j with
  | 0 => [69] | 1 => [70] | 2 => [71] | 3 => [72] | 4 => [73] | 5 => [9, 72] | _ => []
def EG (j : Nat) : Bool := j == 3 || j == 4 || j == 5
theorem FG_V (base n lim : Nat) (v : Value) (out : List Cou.Ct) (t1 t2 : Int) (j : Nat) (s s' : Nat → Value) (w : World) (h : ∀ t, t ∈ VG j → s' t = s t) (hF : FG base n lim v out t1 t2 j s w) : FG base n lim v out t1 t2 j s' w := by
  match j with
  | 0 => unfold FG at hF ⊢; simp only at hF ⊢; rw [h 69 (by simp [VG])]; exact hF
  | 1 => unfold FG at hF ⊢; simp only at hF ⊢; rw [h 70 (by simp [VG])]; exact hF
  | 2 => unfold FG at hF ⊢; simp only at hF ⊢; rw [h 71 (by simp [VG])]; exact hF
  | 3 => unfold FG at hF ⊢; simp only at hF ⊢; rw [h 72 (by simp [VG])]; exact hF
  | 4 => unfold FG at hF ⊢; simp only at hF ⊢; rw [h 73 (by simp [VG])]; exact hF
  | 5 => unfold FG at hF ⊢; simp only at hF ⊢; rw [h 9 (by simp [VG]), h 72 (by simp [VG])]; exact hF
  | _ + 6 => trivial
theorem FG_below (base n lim : Nat) (v : Value) (out : List Cou.Ct) (t1 t2 : Int) (j : Nat) (s : Nat → Value) (w w' : World) (hb : Below w.heap.size w w') (hF : FG base n lim v out t1 t2 j s w) : FG base n lim v out t1 t2 j s w' := by
  match j with
  | 0 => exact hF
  | 1 => exact hF
  | 2 => obtain ⟨g, q1, q2, q3, q4⟩ := hF; exact ⟨g, q1, Nat.lt_of_lt_of_le q2 hb.size, q3, q4.below hb q2⟩
  | 3 => obtain ⟨g, c, q1, q2⟩ := hF; exact ⟨g, c, q1, own_bel q2 hb⟩
  | 4 => exact hF
  | 5 => exact hF
  | _ + 6 => trivial
set_option maxRecDepth 100000 in
set_option maxHeartbeats 4000000 in
theorem Follow_any (a : Cou.Ac) (vd vc : Value) (hdr : a.drawn < 2 ^ 64) (key : Cou.Ct) (cv : Value) (cs : List Int) (w : World) (F : Nat → Prop) (hA : AcAt F w vd vc a) (hC : SlI F w cv cs) (hcl : cs.length ≤ 100000) :
    Calls Tryd.prog 14 #[.agg #[vd, vc, .int .u64 a.drawn], .agg #[.int .i64 key.1, .int .i64 key.2], cv] w fun e w' => ∃ v, e = .returned (.tuple #[v, .int .i64 (Cha.folR a key cs).1]) ∧ SlCt (fun b => w.heap.size ≤ b) w' v (Cha.folR a key cs).2 ∧ Below w.heap.size w w' := by
  obtain ⟨Ad, cd, hvd, -, -⟩ := id hA.dv.open
  obtain ⟨Ac, cc, hvc, -, hac⟩ := id hA.cp.open
  subst hvd hvc
  obtain ⟨Av, cc2, rfl, -, -, hat⟩ := hC.open
  have hF := hA.inW
  obtain ⟨dl, hdl⟩ : ∃ dl, a.divs.length = dl := ⟨_, rfl⟩
  obtain ⟨cl, hcl2⟩ : ∃ cl, a.cps.length = cl := ⟨_, rfl⟩
  obtain ⟨n, hn⟩ : ∃ n, cs.length = n := ⟨_, rfl⟩
  have HCL := Lib.hid hcl2
  have HN := Lib.hid hn
  rw [hdl, hcl2] at hA
  rw [hn] at hcl
  rw [hdl, hcl2, hn]
  have HBG := Lib.hid (fun W (hb : Below w.heap.size w W) pv pl (hP : SlCt (fun b => b < W.heap.size) W pv pl) => begin_any a (.slice Ad dl cd) (.slice Ac cl cc) hdr pv pl W (fun b => b < W.heap.size) (hA.onB hF hb).all hP)
  have HST := Lib.hid (fun (hok : Cou.Ok a) W (hb : Below w.heap.size w W) i (hi : i < cl) (c : Cou.Ct) (hc : -1000 ≤ c.2 ∧ c.2 ≤ 1000) => cstep_any a hok (.slice Ad dl cd) (.slice Ac cl cc) i (by rw [HCL.out]; exact hi) c hc a.drawn W F (hA.onB hF hb))
  have HDR := Lib.hid (fun i (hi : i < 64) W => cdrawn_any (.slice Ad dl cd) (.slice Ac cl cc) a.drawn hdr i hi W)
  have HCN := Lib.hid (fun (v : Value) (l : List Cou.Ct) W (hS : SlCt (fun b => b < W.heap.size) W v l) c => contains_ct v l c W _ (fun _ h => h) hS)
  have HAC := Lib.hid hac
  have HAT := Lib.hid hat
  have HF := Lib.hid hF
  obtain ⟨k1, k2⟩ := key
  obtain ⟨w1, hw1⟩ : ∃ w1 : World, (w.alloc (.cells #[.slice Ad dl cd, .slice Ac cl cc, .int .u64 a.drawn] 33)).alloc (.cells #[.int .i64 k1, .int .i64 k2] 36) = w1 := ⟨_, rfl⟩
  obtain ⟨bx, hbx⟩ : ∃ bx, w.heap.size = bx := ⟨_, rfl⟩
  obtain ⟨b1, hb1⟩ : ∃ b1, bx + 1 = b1 := ⟨_, rfl⟩
  have c0 : w1.cell? ⟨bx, 0, none⟩ = some (.slice Ad dl cd) := by rw [← hw1, ← hbx]; simp [go_sem]
  have c1 : w1.cell? ⟨bx, 1, none⟩ = some (.slice Ac cl cc) := by rw [← hw1, ← hbx]; simp [go_sem]
  have c2 : w1.cell? ⟨bx, 2, none⟩ = some (.int .u64 a.drawn) := by rw [← hw1, ← hbx]; simp [go_sem]
  have c3 : w1.cell? ⟨b1, 0, none⟩ = some (.int .i64 k1) := by rw [← hw1, ← hb1, ← hbx]; simp [go_sem]
  have c4 : w1.cell? ⟨b1, 1, none⟩ = some (.int .i64 k2) := by rw [← hw1, ← hb1, ← hbx]; simp [go_sem]
  have l1 : b1 < w1.heap.size := by rw [← hw1, ← hb1, ← hbx]; simp
  have B1 : Below w.heap.size w w1 := by rw [← hw1]; exact Ba (Ba (B0 w) _) _
  have HK := Lib.hid (fun W (hb : Below w1.heap.size w1 W) => (show (W.cell? ⟨bx, 0, none⟩ = some (.slice Ad dl cd) ∧ W.cell? ⟨bx, 1, none⟩ = some (.slice Ac cl cc) ∧ W.cell? ⟨bx, 2, none⟩ = some (.int .u64 a.drawn)) ∧ W.cell? ⟨b1, 0, none⟩ = some (.int .i64 k1) ∧ W.cell? ⟨b1, 1, none⟩ = some (.int .i64 k2) from
    ⟨⟨(Bc hb (by omega)).trans c0, (Bc hb (by omega)).trans c1, (Bc hb (by omega)).trans c2⟩, (Bc hb l1).trans c3, (Bc hb l1).trans c4⟩))
  have HB1 := Lib.hid B1
  have HW1 := Lib.hid hw1
  have HBX := Lib.hid hbx
  have HE1 := Lib.hid hb1
  have hbg := HBG.out _ (Bt B1 (Ba (B0 w1) (.cells #[.int .i64 k1, .int .i64 k2] 36))) _ _ (slCt_one w1 (k1, k2))
  clear hA hC hac hat hF B1 hw1 hbx hb1 l1 hdl hcl2 hn hdr
  dsimp only
  by_cases hbe : Cha.beginF a [(k1, k2)] = 0
  · obtain ⟨hok, hin⟩ := Cha.begin_one hbe
    have HZ : Hid (Cha.folR a (k1, k2) cs = Cha.followF a (k1, k2) cs) := Lib.hid (by unfold Cha.folR; rw [if_pos hbe])
    rw [hbe] at hbg
    have HBE := Lib.hid hbg
    have HST2 := Lib.hid (HST.out hok)
    have HOK := Lib.hid hok
    have h40 : cl ≤ 40 := by rw [← HCL.out]; exact hok.nc
    have HIN := Lib.hid hin
    clear hbe hbg hok hin HST HBG
    by_cases hn0 : n = 0
    · have HZ2 : Hid (Cha.folR a (k1, k2) cs = (13, [])) := Lib.hid (by
        rw [HZ.out]
        unfold Cha.followF
        rw [if_pos (List.eq_nil_of_length_eq_zero (by rw [HN.out]; exact hn0))])
      subst hn0
      go_enter Tryd.func14, Tryd.ntmps14
      go_upto_region 1 with fail
      rw [HW1.out, HBX.out, HE1.out]
      go_wp2_with (go_at_call 38; (with_reducible refine (HBE.out.mono ?_)); rintro e w2 ⟨rfl, hb2⟩; have HB2 := Lib.hid (Bt (Ba (B0 w1) _) hb2); clear hb2)
      go_ret2
      rw [HZ2.out]
      exact ⟨_, rfl, Sl.nil_, Bt HB1.out HB2.out⟩
    · have hne : cs ≠ [] := fun e => hn0 (by rw [← HN.out, e]; rfl)
      have d0 : ((n : Int) == 0) = false := by simp; omega
      have HZ2 : Hid (Cha.folR a (k1, k2) cs = Cha.folF a true (k1, k2) [] cs) := Lib.hid (by rw [HZ.out]; unfold Cha.followF; rw [if_neg hne])
      clear hne HZ
      go_enter Tryd.func14, Tryd.ntmps14
      go_upto_region 1 with fail
      rw [HW1.out, HBX.out, HE1.out]
      go_upto_region 7 with (go_at_call 38; (with_reducible refine (HBE.out.mono ?_)); rintro e w2 ⟨rfl, hb2⟩; have HB2 := Lib.hid (Bt (Ba (B0 w1) _) hb2); clear hb2)
      clear c0 c1 c2 c3 c4 d0
      obtain ⟨⟨c0, c1, c2⟩, c3, c4⟩ := HK.out w2 HB2.out
      obtain ⟨bt, hbt⟩ : ∃ bt, w2.heap.size = bt := ⟨_, rfl⟩
      obtain ⟨w3, hw3⟩ : ∃ w3 : World, w2.alloc (.cells #[.int .i64 k1, .int .i64 k2] 36) = w3 := ⟨_, rfl⟩
      have K3 : Blk w3 bt 36 #[.int .i64 k1, .int .i64 k2] := by rw [← hw3, ← hbt]; exact Blk.new _ _ _
      have HB3 : Hid (Below w2.heap.size w2 w3) := Lib.hid (by rw [← hw3]; exact Ba (B0 w2) _)
      have HS3 : Hid (w3.heap.size = bt + 1) := Lib.hid (by rw [← hw3, ← hbt]; simp)
      go_upto_region 8 with fail
      try rw [hw3]
      try rw [hbt]
      have HBT := Lib.hid hbt
      clear c0 c1 c2 c3 c4 hw3 hbt
      go_wp2_with fail
      go_loopg [9, 28] n (fun gg s9 s28 wr => ∃ (k : Nat) (at_ : Cou.Ct) (out : List Cou.Ct), k ≤ n ∧ n - k ≤ gg ∧ s28 = .int .i64 k ∧ Aside (out.length = k) ∧ Aside (Cou.InA a at_) ∧ Aside (OwnL w3.heap.size 36 2 CtC wr s9 out) ∧ Aside (Cha.folF a (decide (k = 0)) at_ out (cs.drop k) = Cha.folF a true (k1, k2) [] cs) ∧ Aside (Blk wr bt 36 #[.int .i64 at_.1, .int .i64 at_.2]) ∧ Aside (Below w2.heap.size w2 wr) ∧ Aside (bt < wr.heap.size))
      case atStart => exact ⟨0, (k1, k2), [], by omega, by omega, rfl, rfl, HIN.out, OwnL.nil, (show Aside _ from by show _ = _; rw [List.drop_zero]; rfl), K3, HB3.out, K3.lt⟩
      case round =>
        obtain ⟨k, at_, out, hk, hg, rfl, HOL, HIA, HO, HE, HKB, HB, HLB⟩ := hrel
        replace HOL := Lib.hid HOL
        replace HIA := Lib.hid HIA
        replace HO := Lib.hid HO
        replace HE := Lib.hid HE
        replace HKB := Lib.hid HKB
        replace HB := Lib.hid HB
        clear K3 HLB
        obtain ⟨⟨c0, c1, c2⟩, -, -⟩ := HK.out wr (Bt HB2.out HB.out)
        by_cases hlt : k < n
        · have hkl : (k : Int) < n := by omega
          have hkl2 : k < cs.length := by rw [HN.out]; exact hlt
          obtain ⟨ad, rfl, hfb, hfl⟩ := HAT.out k hkl2
          have hfb2 : (ad.add k).block < w.heap.size := by rw [block_of_add]; exact HF.out _ hfb
          have q0 := ((Bt HB1.out (Bt HB2.out HB.out)).cell (p := ad.add k) hfb2).trans hfl
          have he := HE.out
          rw [List.drop_eq_getElem_cons hkl2, Cha.folF] at he
          have HE2 := Lib.hid he
          clear he HE hfl hfb hfb2
          generalize cs[k] = i at *
          have HBAD : Hid (∀ er, er ≠ 0 → Cha.badF a (decide (k = 0)) at_ out i = er → Cha.folR a (k1, k2) cs = (er, [])) := Lib.hid fun er h0 h => by
            rw [HZ2.out, ← HE2.out, h, if_neg h0]
          by_cases h1 : i < 0
          · have d1 : decide (i < 0) = true := decide_eq_true h1
            have HZ3 := Lib.hid (HBAD.out 11 (by decide) (by unfold Cha.badF; rw [if_pos (.inl h1)]))
            clear h1 HBAD HE2 HDR HST2 HCN
            go_wp2_with fail
            go_ret2
            rw [HZ3.out]
            exact ⟨_, rfl, Sl.nil_, Bt HB1.out (Bt HB2.out HB.out)⟩
          have d1 : decide (i < 0) = false := decide_eq_false h1
          by_cases h2 : (cl : Int) ≤ i
          · have d2 : decide ((cl : Int) ≤ i) = true := decide_eq_true h2
            have HZ3 := Lib.hid (HBAD.out 11 (by decide) (by unfold Cha.badF; rw [HCL.out, if_pos (.inr h2)]))
            clear h1 h2 HBAD HE2 HDR HST2 HCN
            go_wp2_with fail
            go_ret2
            rw [HZ3.out]
            exact ⟨_, rfl, Sl.nil_, Bt HB1.out (Bt HB2.out HB.out)⟩
          have d2 : decide ((cl : Int) ≤ i) = false := decide_eq_false h2
          obtain ⟨j, rfl⟩ : ∃ j : Nat, i = j := ⟨i.toNat, by omega⟩
          have hj : j < cl := by omega
          have hjI : (j : Int) < cl := by omega
          have hj2 : j < a.cps.length := by rw [HCL.out]; exact hj
          have HB0 : Hid (Cha.badF a (decide (k = 0)) at_ out j = if a.drawn.testBit j = false then 19 else if decide (k = 0) = false ∧ Cou.thruF a j = false then 7 else match Cou.stepF a j at_ with | none => 24 | some t => if t ∈ out then 9 else 0) := Lib.hid (by
            unfold Cha.badF
            rw [HCL.out, if_neg (by omega), Int.toNat_natCast]
            rfl)
          have HTO : Hid (∀ t, Cou.stepF a j at_ = some t → Cha.toF a at_ j = t) := Lib.hid fun t h => by unfold Cha.toF; rw [Int.toNat_natCast, h]; rfl
          have hth : Cou.thruF a j = a.cps[j].thru := by unfold Cou.thruF; rw [List.getElem?_eq_getElem hj2]
          have HTH := Lib.hid hth
          obtain ⟨ad2, rfl, hfb, hfl⟩ := HAC.out j hj2
          have hfb2 : (ad2.add (j * 5)).block < w.heap.size := by rw [block_of_add]; exact HF.out _ hfb
          have HFL := Lib.hid (fun W (hb : Below w1.heap.size w1 W) => (hfl.below (Bt HB1.out hb) hfb2).f4 rfl)
          clear h1 h2 hth hfl hfb hfb2
          generalize a.cps[j] = y at *
          obtain ⟨nm, fr, to_, sh, th⟩ := y
          dsimp only at HTH HFL
          have HD := Lib.hid (fun W => HDR.out j (by omega) W)
          clear hj2
          cases hd : a.drawn.testBit j with
          | false =>
            rw [hd] at HD
            have HZ3 := Lib.hid (HBAD.out 19 (by decide) (by rw [HB0.out, if_pos hd]))
            clear hd HBAD HB0 HE2 HST2 HCN HDR
            go_wp2_with (go_at_call 39; (with_reducible refine ((HD.out _).mono ?_)); rintro e w4 ⟨rfl, hb4⟩; have HB4 := Lib.hid (Bt HB.out hb4); clear hb4)
            go_ret2
            rw [HZ3.out]
            exact ⟨_, rfl, Sl.nil_, Bt HB1.out (Bt HB2.out HB4.out)⟩
          | true =>
            rw [hd] at HD
            have hb0 := HB0.out
            rw [if_neg (by rw [hd]; decide)] at hb0
            have HB0 := Lib.hid hb0
            clear hd hb0 HDR
            obtain ⟨a1, a2⟩ := at_
            have hsm := HIA.out.key HOK.out
            dsimp only at hsm
            have HSM : Hid (-1000 ≤ a2 ∧ a2 ≤ 1000) := Lib.hid (by omega)
            clear hsm
            have hkd : decide ((0 : Int) < k) = !decide (k = 0) := by
              by_cases h : k = 0
              · subst h; rfl
              · rw [decide_eq_false h]; exact decide_eq_true (by omega)
            have hkd2 : decide (0 < k) = !decide (k = 0) := by
              by_cases h : k = 0
              · subst h; rfl
              · rw [decide_eq_false h]; exact decide_eq_true (by omega)
            by_cases h3 : decide (k = 0) = false ∧ Cou.thruF a j = false
            · have HZ3 := Lib.hid (HBAD.out 7 (by decide) (by rw [HB0.out, if_pos h3]))
              obtain ⟨h3a, h3b⟩ := h3
              rw [HTH.out] at h3b
              subst h3b
              rw [h3a, Bool.not_false] at hkd hkd2
              clear HBAD HB0 HE2 HST2 HCN h3a
              go_wp2_with (go_at_call 39; (with_reducible refine ((HD.out _).mono ?_)); rintro e w4 ⟨rfl, hb4⟩; have HB4 := Lib.hid (Bt HB.out hb4); obtain ⟨⟨c0', c1', c2'⟩, -, -⟩ := HK.out w4 (Bt HB2.out HB4.out); have q4 := HFL.out w4 (Bt HB2.out HB4.out); clear hb4 c0 c1 c2)
              go_ret2
              rw [HZ3.out]
              exact ⟨_, rfl, Sl.nil_, Bt HB1.out (Bt HB2.out HB4.out)⟩
            · have hb0 := HB0.out
              rw [if_neg h3] at hb0
              have HB0 := Lib.hid hb0
              have hcs : decide (k = 0) = true ∨ (decide (k = 0) = false ∧ th = true) := by
                rw [HTH.out] at h3
                cases hq : decide (k = 0) with
                | true => exact .inl rfl
                | false =>
                  rw [hq] at h3
                  cases th with
                  | true => exact .inr ⟨rfl, rfl⟩
                  | false => exact absurd ⟨rfl, rfl⟩ h3
              clear h3 hb0
              cases hs : Cou.stepF a j (a1, a2) with
              | none =>
                have HZ3 := Lib.hid (HBAD.out 24 (by decide) (by rw [HB0.out, hs]))
                have HS := Lib.hid hs
                clear HBAD HB0 HE2 HCN hs
                rcases hcs with hq | ⟨hq, rfl⟩
                all_goals
                  rw [hq] at hkd hkd2
                  simp only [Bool.not_true, Bool.not_false] at hkd hkd2
                  clear hq
                  go_upto_region 17 with (go_at_call 39; (with_reducible refine ((HD.out _).mono ?_)); rintro e w4 ⟨rfl, hb4⟩; have HB4 := Lib.hid (Bt HB.out hb4); obtain ⟨⟨c0', c1', c2'⟩, -, -⟩ := HK.out w4 (Bt HB2.out HB4.out); have q4 := HFL.out w4 (Bt HB2.out HB4.out); have HKB4 := Lib.hid (HKB.out.below hb4 HKB.out.lt); clear hb4 c0 c1 c2)
                  have z0 := HKB4.out.cell 0
                  have z1 := HKB4.out.cell 1
                  simp only [List.getElem?_toArray, List.getElem?_cons_zero, List.getElem?_cons_succ] at z0 z1
                  go_wp2_with (go_at_call 40; (with_reducible refine ((HST2.out w4 (Bt HB1.out (Bt HB2.out HB4.out)) j hj (a1, a2) HSM.out).mono ?_)); rintro e w5 ⟨⟨⟨t1, t2⟩, b, rfl, hbs, -⟩, hb5⟩; dsimp only; (obtain rfl : b = false := by rw [hbs, HS.out]; rfl); clear hbs; have HB5 := Lib.hid (Ba (Bt HB4.out hb5) (.cells #[.int .i64 t1, .int .i64 t2] 36)); clear hb5)
                  go_ret2
                  rw [HZ3.out]
                  exact ⟨_, rfl, Sl.nil_, Bt HB1.out (Bt HB2.out HB5.out)⟩
              | some t =>
                obtain ⟨t1, t2⟩ := t
                have HS := Lib.hid hs
                have HTO2 := Lib.hid (HTO.out _ hs)
                have HIT := Lib.hid (Cou.stepF_in HOK.out hs)
                have hb0 := HB0.out
                rw [hs] at hb0
                simp only at hb0
                have HB0 := Lib.hid hb0
                have HCN2 := Lib.hid (fun W (hW : OwnL w3.heap.size 36 2 CtC W u9 out) => HCN.out u9 out W (hW.sl (by have := HOL.out; simp only [Aside] at this; omega) fun b _ h _ => h) (t1, t2))
                clear hb0 hs HTO HCN
                by_cases hm : (t1, t2) ∈ out
                · have HZ3 := Lib.hid (HBAD.out 9 (by decide) (by rw [HB0.out, if_pos hm]))
                  have hcn := HCN2.out
                  rw [decide_eq_true hm] at hcn
                  have HCN3 := Lib.hid hcn
                  clear HBAD HB0 HE2 HCN2 hcn hm
                  rcases hcs with hq | ⟨hq, rfl⟩
                  all_goals
                    rw [hq] at hkd hkd2
                    simp only [Bool.not_true, Bool.not_false] at hkd hkd2
                    clear hq
                    go_upto_region 17 with (go_at_call 39; (with_reducible refine ((HD.out _).mono ?_)); rintro e w4 ⟨rfl, hb4⟩; have HB4 := Lib.hid (Bt HB.out hb4); obtain ⟨⟨c0', c1', c2'⟩, -, -⟩ := HK.out w4 (Bt HB2.out HB4.out); have q4 := HFL.out w4 (Bt HB2.out HB4.out); have HKB4 := Lib.hid (HKB.out.below hb4 HKB.out.lt); have HO4 := Lib.hid (own_bel HO.out hb4); clear hb4 c0 c1 c2)
                    have z0 := HKB4.out.cell 0
                    have z1 := HKB4.out.cell 1
                    simp only [List.getElem?_toArray, List.getElem?_cons_zero, List.getElem?_cons_succ] at z0 z1
                    go_upto_region 20 with (go_at_call 40; (with_reducible refine ((HST2.out w4 (Bt HB1.out (Bt HB2.out HB4.out)) j hj (a1, a2) HSM.out).mono ?_)); rintro e w5 ⟨⟨⟨t1', t2'⟩, b, rfl, hbs, hus⟩, hb5⟩; dsimp only; (obtain rfl : b = true := by rw [hbs, HS.out]; rfl); (obtain ⟨rfl, rfl⟩ : t1' = t1 ∧ t2' = t2 := by simpa using hus _ HS.out); clear hbs hus; have HB5 := Lib.hid (Ba (Bt HB4.out hb5) (.cells #[.int .i64 t1', .int .i64 t2'] 36)); have HO5 := Lib.hid (own_bel HO4.out (Ba hb5 (.cells #[.int .i64 t1', .int .i64 t2'] 36))); clear hb5)
                    obtain ⟨w6, hw6⟩ : ∃ w6 : World, w5.alloc (.cells #[.int .i64 t1', .int .i64 t2'] 36) = w6 := ⟨_, rfl⟩
                    have y0 : w6.cell? ⟨w5.heap.size, 0, none⟩ = some (.int .i64 t1') := by rw [← hw6]; simp [go_sem]
                    have y1 : w6.cell? ⟨w5.heap.size, 1, none⟩ = some (.int .i64 t2') := by rw [← hw6]; simp [go_sem]
                    rw [hw6] at HB5 HO5 ⊢
                    clear hw6 z0 z1 c0' c1' c2' q4
                    go_wp2_with (go_at_call 41; (with_reducible refine ((HCN3.out _ HO5.out).mono ?_)); rintro e w7 ⟨rfl, hb7⟩; have HB7 := Lib.hid (Bt HB5.out hb7); clear hb7)
                    go_ret2
                    rw [HZ3.out]
                    exact ⟨_, rfl, Sl.nil_, Bt HB1.out (Bt HB2.out HB7.out)⟩
                · have hb0 := HB0.out
                  rw [if_neg hm] at hb0
                  have he := HE2.out
                  rw [hb0, if_pos rfl, HTO2.out] at he
                  have HE3 := Lib.hid he
                  have hcn := HCN2.out
                  rw [decide_eq_false hm] at hcn
                  have HCN3 := Lib.hid hcn
                  clear HBAD HB0 HE2 HCN2 hcn hm hb0 he
                  rcases hcs with hq | ⟨hq, rfl⟩
                  all_goals
                    rw [hq] at hkd hkd2
                    simp only [Bool.not_true, Bool.not_false] at hkd hkd2
                    clear hq
                    go_upto_region 17 with (go_at_call 39; (with_reducible refine ((HD.out _).mono ?_)); rintro e w4 ⟨rfl, hb4⟩; have HB4 := Lib.hid (Bt HB.out hb4); obtain ⟨⟨c0', c1', c2'⟩, -, -⟩ := HK.out w4 (Bt HB2.out HB4.out); have q4 := HFL.out w4 (Bt HB2.out HB4.out); have HKB4 := Lib.hid (HKB.out.below hb4 HKB.out.lt); have HO4 := Lib.hid (own_bel HO.out hb4); clear hb4 c0 c1 c2)
                    have z0 := HKB4.out.cell 0
                    have z1 := HKB4.out.cell 1
                    simp only [List.getElem?_toArray, List.getElem?_cons_zero, List.getElem?_cons_succ] at z0 z1
                    go_upto_region 20 with (go_at_call 40; (with_reducible refine ((HST2.out w4 (Bt HB1.out (Bt HB2.out HB4.out)) j hj (a1, a2) HSM.out).mono ?_)); rintro e w5 ⟨⟨⟨t1', t2'⟩, b, rfl, hbs, hus⟩, hb5⟩; dsimp only; (obtain rfl : b = true := by rw [hbs, HS.out]; rfl); (obtain ⟨rfl, rfl⟩ : t1' = t1 ∧ t2' = t2 := by simpa using hus _ HS.out); clear hbs hus; have HB5 := Lib.hid (Ba (Bt HB4.out hb5) (.cells #[.int .i64 t1', .int .i64 t2'] 36)); have HO5 := Lib.hid (own_bel HO4.out (Ba hb5 (.cells #[.int .i64 t1', .int .i64 t2'] 36))); have HSZ := Lib.hid hb5.size; have HKB5 := Lib.hid (HKB4.out.below (Ba hb5 (.cells #[.int .i64 t1', .int .i64 t2'] 36)) HKB4.out.lt); clear hb5)
                    obtain ⟨bz, hbz⟩ : ∃ bz, w5.heap.size = bz := ⟨_, rfl⟩
                    obtain ⟨w6, hw6⟩ : ∃ w6 : World, w5.alloc (.cells #[.int .i64 t1', .int .i64 t2'] 36) = w6 := ⟨_, rfl⟩
                    have KZ : Blk w6 bz 36 #[.int .i64 t1', .int .i64 t2'] := by rw [← hw6, ← hbz]; exact Blk.new _ _ _
                    have HNT : Hid (u9.ownBlock ≠ some bt) := Lib.hid fun h => by
                      have h1 := (HO4.out.lt bt h).1
                      have := HS3.out
                      omega
                    have HROW : Hid (∀ b, u9.ownBlock = some b → b < bz) := Lib.hid fun b h => by
                      have h1 := (HO4.out.lt b h).2
                      have := HSZ.out
                      omega
                    have HNZ : Hid (u9.ownBlock ≠ some bz) := Lib.hid fun h => by
                      have h1 := (HO4.out.lt bz h).2
                      have := HSZ.out
                      omega
                    have HKZ := Lib.hid KZ
                    obtain ⟨n0, hn0'⟩ : ∃ n0, out.length = n0 := ⟨_, rfl⟩
                    have HOLN := Lib.hid hn0'
                    have hn0k : n0 = k := by rw [← hn0']; exact HOL.out
                    rw [hw6] at HB5 HO5 HKB5 ⊢
                    rw [hbz]
                    clear hw6 hbz KZ hn0' z0 z1 c0' c1' c2' q4
                    have z0 := HKZ.out.cell 0
                    have z1 := HKZ.out.cell 1
                    simp only [List.getElem?_toArray, List.getElem?_cons_zero, List.getElem?_cons_succ] at z0 z1
                    go_upto_region 22 with (go_at_call 41; (with_reducible refine ((HCN3.out _ HO5.out).mono ?_)); rintro e w7 ⟨rfl, hb7⟩; have HB7 := Lib.hid (Bt HB5.out hb7); have HO7 := Lib.hid (own_bel HO5.out hb7); have HKZ7 := Lib.hid (HKZ.out.below hb7 HKZ.out.lt); have HKB7 := Lib.hid (HKB5.out.below hb7 HKB5.out.lt); clear hb7 z0 z1)
                    refine region_blocks (by kernel_rfl) ?_
                    have hBB : ∀ (L : Nat → Bool) (i : Nat) (W W' : World), Below W.heap.size W W' → (Below w2.heap.size w2 W ∧ Blk W bz 36 #[.int .i64 t1', .int .i64 t2'] ∧ Blk W bt 36 #[.int .i64 a1, .int .i64 a2] ∧ (L 3 = false → OwnL w3.heap.size 36 2 CtC W u9 out)) → (Below w2.heap.size w2 W' ∧ Blk W' bz 36 #[.int .i64 t1', .int .i64 t2'] ∧ Blk W' bt 36 #[.int .i64 a1, .int .i64 a2] ∧ ((fun j => L j || j == i) 3 = false → OwnL w3.heap.size 36 2 CtC W' u9 out)) :=
                      fun L i W W' hb ⟨r1, r2, r3, r4⟩ => ⟨Bt r1 hb, r2.below hb r2.lt, r3.below hb r3.lt, fun h => own_bel (r4 (by simp only [Bool.or_eq_false_iff] at h; exact h.1)) hb⟩
                    have HBASE := Lib.hid (show Below w2.heap.size w2 w7.drew ∧ Blk w7.drew bz 36 #[.int .i64 t1', .int .i64 t2'] ∧ Blk w7.drew bt 36 #[.int .i64 a1, .int .i64 a2] ∧ ((false : Bool) = false → OwnL w3.heap.size 36 2 CtC w7.drew u9 out) from ⟨HB7.out.drew, HKZ7.out, HKB7.out, fun _ => HO7.out⟩)
                    refine from_lawW 6 EG (fun L W => Below w2.heap.size w2 W ∧ Blk W bz 36 #[.int .i64 t1', .int .i64 t2'] ∧ Blk W bt 36 #[.int .i64 a1, .int .i64 a2] ∧ (L 3 = false → OwnL w3.heap.size 36 2 CtC W u9 out)) (FG w3.heap.size n0 bz u9 out t1' t2') VG (by kernel_rfl) rfl (FG_V _ _ _ _ _ _ _) (by kernel_rfl) (by kernel_rfl) HBASE.out ⟨?_, ?_, ?_, ?_, ?_, ?_, trivial⟩ ?_
                    · refine OpFactW.value rfl (FG_below _ _ _ _ _ _ _) hBB fun L a wx hl hf D hb => ?_
                      have h0 : sl a 9 = u9 := hf 9 (by kernel_rfl)
                      refine ⟨u9, wx, ?_, B0 _, fun s _ h => h 69 rfl⟩
                      unfold sl at h0
                      simp [go_sem, h0]
                    · refine OpFactW.value rfl (FG_below _ _ _ _ _ _ _) hBB fun L a wx hl hf D hb => ?_
                      have h0 : sl a 13 = .pointer (some ⟨bz, 0, none⟩) := hf 13 (by kernel_rfl)
                      have e0 := hb.2.1.cell 0
                      have e1 := hb.2.1.cell 1
                      simp only [List.getElem?_toArray, List.getElem?_cons_zero, List.getElem?_cons_succ] at e0 e1
                      have es := And.intro e0 e1
                      refine ⟨.agg #[.int .i64 t1', .int .i64 t2'], wx, ?_, B0 _, fun s _ h => h 70 rfl⟩
                      unfold sl at h0
                      simp at h0
                      simp [go_sem, h0, es]
                    · refine OpFactW.value rfl (FG_below _ _ _ _ _ _ _) hBB fun L a wx hl hf D hb => ?_
                      have h1 : sl a 70 = .agg #[.int .i64 t1', .int .i64 t2'] := D 1 (by kernel_rfl)
                      refine ⟨.slice (some ⟨wx.heap.size, 0, none⟩) 1 1, wx.alloc (.cells #[.int .i64 t1', .int .i64 t2'] 36), ?_, Ba (B0 _) _, fun s _ h => ⟨_, h 71 rfl, by simp, hb.2.1.lt, Flds.new wx _ _⟩⟩
                      unfold sl at h1
                      simp at h1
                      simp [go_sem, h1]
                    · refine OpFactW.write rfl fun L a wx hl hf D hb => ?_
                      have h1 : sl a 69 = u9 := D 0 (by kernel_rfl)
                      obtain ⟨g, h2, _, _, hfl⟩ : ∃ g, sl a 71 = .slice (some ⟨g, 0, none⟩) 1 1 ∧ g < wx.heap.size ∧ bz < g ∧ Flds wx ⟨g, 0, none⟩ [.int .i64 t1', .int .i64 t2'] := D 2 (by kernel_rfl)
                      obtain ⟨hbb, hz, ht, hO⟩ := hb
                      obtain ⟨cs', p1, p2, p3⟩ := hO hl
                      have hbs : w3.heap.size ≤ wx.heap.size := by have := HS3.out; have := ht.lt; omega
                      obtain ⟨ht0, i0, z0, hi0, hz0, hsz0, hby0, hzs0⟩ := elemCt
                      obtain ⟨v', w', hrun, q2, q3, _, q5⟩ := run_append_own_at (P := Tryd.prog) wx w3.heap.size 38 38 36 i0 z0 2 16 ht0 hi0 hz0 hsz0 hby0 hzs0 (by omega) u9 out.length _ p3 ⟨g, 0, none⟩ 1 1 [.int .i64 t1', .int .i64 t2'] rfl hfl (by simp [Value.oneCell']) (by unfold maxLen; have := HOL.out; simp only [Aside] at this; omega) (by have := HOL.out; simp only [Aside] at this; omega) hbs
                      obtain ⟨g', cap', rfl⟩ := own_lit q2
                      have hlen : out.length = n0 := HOLN.out
                      refine ⟨.slice (some ⟨g', 0, none⟩) (n0 + 1) cap', w', ?_, ⟨Bg hbb p3 (by have := HS3.out; have := HBT.out; omega) q3, hz.grown q3 (fun e => HNZ.out e.symm), ht.grown q3 (fun e => HNT.out e.symm), fun h => absurd h (by simp)⟩, fun j hj hE hF => ?_, fun s _ h => ⟨g', cap', h 72 rfl, ?_⟩⟩
                      · unfold sl at h1 h2
                        simp at h1 h2
                        unfold execOp
                        rw [hlen] at hrun
                        simp [resolve, invoke, builtin, Act.eval, h1, h2, hrun]
                      · match j with
                        | 0 => exact hF
                        | 1 => exact hF
                        | 2 =>
                          obtain ⟨g2, r1, r2, r3, r4⟩ := hF
                          refine ⟨g2, r1, Nat.lt_of_lt_of_le r2 q3.size, r3, fun j u hu => (World.cell?_of_block ?_).trans (r4 j u hu)⟩
                          rw [block_of_add]
                          exact q3.block g2 r2 fun e => by have := HROW.out g2 e.symm; omega
                        | 3 => exact absurd rfl hj
                        | 4 => exact hF
                        | 5 => exact hF
                        | _ + 6 => trivial
                      · rw [← hlen]
                        exact OwnL.snoc p1 p2 rfl rfl (fun _ _ h => h) q2
                    · refine OpFactW.value rfl (FG_below _ _ _ _ _ _ _) hBB fun L a wx hl hf D hb => ?_
                      have h0 : sl a 13 = .pointer (some ⟨bz, 0, none⟩) := hf 13 (by kernel_rfl)
                      have e0 := hb.2.1.cell 0
                      have e1 := hb.2.1.cell 1
                      simp only [List.getElem?_toArray, List.getElem?_cons_zero, List.getElem?_cons_succ] at e0 e1
                      have es := And.intro e0 e1
                      refine ⟨.agg #[.int .i64 t1', .int .i64 t2'], wx, ?_, B0 _, fun s _ h => h 73 rfl⟩
                      unfold sl at h0
                      simp at h0
                      simp [go_sem, h0, es]
                    · refine OpFactW.value rfl (FG_below _ _ _ _ _ _ _) hBB fun L a wx hl hf D hb => ?_
                      have h1 : sl a 72 = sl a 72 := rfl
                      obtain ⟨g, c, h2, _⟩ : ∃ g c, sl a 72 = .slice (some ⟨g, 0, none⟩) (n0 + 1) c ∧ OwnL w3.heap.size 36 2 CtC wx (.slice (some ⟨g, 0, none⟩) (n0 + 1) c) (out ++ [(t1', t2')]) := D 3 (by kernel_rfl)
                      refine ⟨.slice (some ⟨g, 0, none⟩) (n0 + 1) c, wx, ?_, B0 _, fun s h1 h => (h 9 rfl).trans (h2.symm.trans (h1 72 (by simp)).symm)⟩
                      unfold sl at h2
                      simp at h2
                      simp [go_sem, h2]
                    · intro L y w8 hb8 hF8
                      obtain ⟨g8, c8, h72, hO8⟩ : ∃ g c, y 72 = .slice (some ⟨g, 0, none⟩) (n0 + 1) c ∧ OwnL w3.heap.size 36 2 CtC w8 (.slice (some ⟨g, 0, none⟩) (n0 + 1) c) (out ++ [(t1', t2')]) := hF8 3 (by decide) rfl
                      have h73 : y 73 = .agg #[.int .i64 t1', .int .i64 t2'] := hF8 4 (by decide) rfl
                      have h9 : y 9 = y 72 := hF8 5 (by decide) rfl
                      rw [h72] at h9
                      obtain ⟨r1, _, r3, _⟩ := hb8
                      have HR1 := Lib.hid r1
                      have HR3 := Lib.hid r3
                      have HO8 := Lib.hid hO8
                      have f0 := r3.frozen 0
                      have f1 := r3.frozen 1
                      have z0 := r3.cell 0
                      have z1 := r3.cell 1
                      simp only [List.getElem?_toArray, List.getElem?_cons_zero, List.getElem?_cons_succ] at z0 z1
                      clear hF8 r1 r3 hO8
                      rw [aft6 (d0 := 69) (d1 := 70) (d2 := 71) (d3 := 72) (d4 := 73) (d5 := 9) (by kernel_rfl) rfl]
                      rw [h9, h72, h73]
                      simp only [List.set_cons_succ, List.set_cons_zero]
                      refine from_list 7 (by kernel_rfl) (by simp only [List.take_succ_cons, List.take_zero, List.drop_succ_cons, List.drop_zero]; exact rfl) ?_
                      (intro Q' hQ' hX; clear hX)
                      go_wp2_with fail
                      refine from_end rfl ?_
                      subst hn0k
                      go_wp2_with fail
                      go_roundg (n - (n0 + 1))
                      case measure => omega
                      case rel =>
                        refine ⟨n0 + 1, (t1', t2'), out ++ [(t1', t2')], by omega, by omega, by go_num, (show Aside _ from by show _ = _; rw [List.length_append, HOLN.out]; rfl), HIT.out, ?_, ?_, ?_, ?_, ?_⟩
                        · exact own_far (own_far HO8.out (by have := HS3.out; show bt < _; omega)) (by have := HS3.out; show bt < _; omega)
                        · exact (show Aside _ from by show _ = _; rw [decide_eq_false (by omega)]; exact HE3.out)
                        · have hK := (HR3.out.set_ 0 (.int .i64 t1')).set_ 1 (.int .i64 t2')
                          exact (show Aside _ from by show Blk _ _ _ _; simpa using hK)
                        · exact Bs (Bs HR1.out _ (by rw [HBT.out]; exact Nat.le_refl _)) _ (by rw [HBT.out]; exact Nat.le_refl _)
                        · have := HR3.out.lt
                          exact (show Aside _ from by show _ < _; simpa [World.setCell] using this)
        · obtain rfl : k = n := by omega
          have HZ3 : Hid (Cha.folR a (k1, k2) cs = (0, out)) := Lib.hid (by
            rw [HZ2.out, ← HE.out, List.drop_eq_nil_of_le (by rw [HN.out]; exact Nat.le_refl _), Cha.folF])
          go_wp2_with fail
          go_ret2
          rw [HZ3.out]
          refine ⟨_, rfl, HO.out.sl (by have := HOL.out; simp only [Aside] at this; omega) fun b hb _ _ => ?_, Bt HB1.out (Bt HB2.out HB.out)⟩
          have h1 := HB1.out.size
          have h2 := HB2.out.size
          have h3 := HB3.out.size
          show w.heap.size ≤ b
          omega
  · have HZ : Hid (Cha.folR a (k1, k2) cs = (Cha.beginF a [(k1, k2)], [])) := Lib.hid (by unfold Cha.folR; rw [if_neg hbe])
    have d1 : (Cha.beginF a [(k1, k2)] != 0) = true := by simpa using hbe
    have HBE := Lib.hid hbg
    clear hbe hbg HST HBG HCN HDR
    generalize Cha.beginF a [(k1, k2)] = er at *
    go_enter Tryd.func14, Tryd.ntmps14
    go_upto_region 1 with fail
    rw [HW1.out, HBX.out, HE1.out]
    go_wp2_with (go_at_call 38; (with_reducible refine (HBE.out.mono ?_)); rintro e w2 ⟨rfl, hb2⟩; have HB2 := Lib.hid (Bt (Ba (B0 w1) _) hb2); clear hb2)
    go_ret2
    rw [HZ.out]
    exact ⟨_, rfl, Sl.nil_, Bt HB1.out HB2.out⟩
end Go.Proofs.YtahlfndlkfoikaaDoor
