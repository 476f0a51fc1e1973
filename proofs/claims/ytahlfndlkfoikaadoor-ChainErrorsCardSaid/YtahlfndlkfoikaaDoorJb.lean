/- The statement of errors, walked. -/
import Derived.Test.YtahlfndlkfoikaaDoorIe
import Derived.Test.YtahlfndlkfoikaaDoorHa
import Derived.Test.YtahlfndlkfoikaaDoorEk
import Derived.Test.YtahlfndlkfoikaaDoorFc
import Derived.Test.YtahlfndlkfoikaaDoorKi
namespace Go.Proofs.YtahlfndlkfoikaaDoor
open Go Go.RowKit Go.Shelf
namespace Cha
theorem folR_nil (a : Cou.Ac) (key : Cou.Ct) : (folR a key []).1 = if beginF a [key] = 0 then 13 else beginF a [key] := by
  unfold folR
  split
  · unfold followF; rw [if_pos rfl]
  · rfl
theorem begin_key (a : Cou.Ac) (key c : Cou.Ct) : beginF a [key, c] = if beginF a [key] = 0 then Cou.wrongF a c else beginF a [key] := by
  unfold beginF
  by_cases h : Cou.rightF a = 0
  · rw [if_pos h, if_pos h]
    unfold wrongsF wrongsF wrongsF
    by_cases h1 : Cou.wrongF a key = 0
    · rw [if_pos h1, if_pos h1, if_pos rfl]
      split
      · rename_i h2; exact h2.symm
      · rfl
    · rw [if_neg h1, if_neg h1, if_neg h1]
  · rw [if_neg h, if_neg h, if_neg h]
theorem text_nil (a : Cou.Ac) (key : Cou.Ct) : textR a key [] = (if beginF a [key] = 0 then 13 else beginF a [key], ⟨#[]⟩) := by
  have h := folR_nil a key
  unfold textR
  rw [if_neg, h]
  rw [h]
  split
  · decide
  · assumption
theorem all_len (a : Cou.Ac) (key : Cou.Ct) : (allR a key).2.length ≤ 2000 := by
  unfold allR
  split
  · cases hal : allF a key with
    | none => simp
    | some L =>
      unfold allF at hal
      split at hal
      · cases hal
      · split at hal
        · rename_i h
          injection hal with hal
          rw [← hal]
          simpa using h
        · cases hal
  · simp
theorem mem4 {d : Nat} (h : d < 2 ^ 4) : (Hit.members d).length ≤ 16 := by
  have : ∀ d < 16, (Hit.members d).length ≤ 16 := by decide +kernel
  exact this d h
end Cha
set_option maxRecDepth 100000 in
set_option maxHeartbeats 8000000 in
theorem law_errors (a : Cou.Ac) (vd vc : Value) (hdr : a.drawn < 2 ^ 64) (key ct : Cou.Ct) (w : World) (hA : AcAt (fun b => b < w.heap.size) w vd vc a) (hW : WOk w) :
    Calls Tryd.prog 7 #[.agg #[vd, vc, .int .u64 a.drawn], .agg #[.int .i64 key.1, .int .i64 key.2], .agg #[.int .i64 ct.1, .int .i64 ct.2]] w fun e w' => e = .returned (.bool true) ∧ Below w.heap.size w w' := by
  obtain ⟨Ad, cd, hvd, -, -⟩ := id hA.dv.open
  obtain ⟨Ac, cc, hvc, -, -⟩ := id hA.cp.open
  subst hvd hvc
  obtain ⟨k1, k2⟩ := key
  obtain ⟨t1, t2⟩ := ct
  obtain ⟨w1, hw1⟩ : ∃ w1 : World, ((w.alloc (.cells #[.slice Ad a.divs.length cd, .slice Ac a.cps.length cc, .int .u64 a.drawn] 33)).alloc (.cells #[.int .i64 k1, .int .i64 k2] 36)).alloc (.cells #[.int .i64 t1, .int .i64 t2] 36) = w1 := ⟨_, rfl⟩
  obtain ⟨bx, hbx⟩ : ∃ bx, w.heap.size = bx := ⟨_, rfl⟩
  obtain ⟨b1, hb1⟩ : ∃ b1, bx + 1 = b1 := ⟨_, rfl⟩
  obtain ⟨b2, hb2⟩ : ∃ b2, b1 + 1 = b2 := ⟨_, rfl⟩
  have KX : Blk w1 bx 33 #[.slice Ad a.divs.length cd, .slice Ac a.cps.length cc, .int .u64 a.drawn] := by
    rw [← hw1, ← hbx]; exact ((Blk.new _ _ _).alloc _).alloc _
  have KK : Blk w1 b1 36 #[.int .i64 k1, .int .i64 k2] := by
    have := (Blk.new (w.alloc (.cells #[.slice Ad a.divs.length cd, .slice Ac a.cps.length cc, .int .u64 a.drawn] 33)) 36 #[.int .i64 k1, .int .i64 k2]).alloc (.cells #[.int .i64 t1, .int .i64 t2] 36)
    rw [hw1] at this
    rw [← hb1, ← hbx]; simpa using this
  have KC : Blk w1 b2 36 #[.int .i64 t1, .int .i64 t2] := by
    have := Blk.new ((w.alloc (.cells #[.slice Ad a.divs.length cd, .slice Ac a.cps.length cc, .int .u64 a.drawn] 33)).alloc (.cells #[.int .i64 k1, .int .i64 k2] 36)) 36 #[.int .i64 t1, .int .i64 t2]
    rw [hw1] at this
    rw [← hb2, ← hb1, ← hbx]; simpa using this
  have B1 : Below w.heap.size w w1 := by rw [← hw1]; exact Ba (Ba (Ba (B0 w) _) _) _
  have HK := Lib.hid (fun W (hb : Below w1.heap.size w1 W) => (show (W.cell? ⟨bx, 0, none⟩ = some (.slice Ad a.divs.length cd) ∧ W.cell? ⟨bx, 1, none⟩ = some (.slice Ac a.cps.length cc) ∧ W.cell? ⟨bx, 2, none⟩ = some (.int .u64 a.drawn)) ∧ (W.cell? ⟨b1, 0, none⟩ = some (.int .i64 k1) ∧ W.cell? ⟨b1, 1, none⟩ = some (.int .i64 k2)) ∧ W.cell? ⟨b2, 0, none⟩ = some (.int .i64 t1) ∧ W.cell? ⟨b2, 1, none⟩ = some (.int .i64 t2) from
    ⟨⟨(Bc hb KX.lt).trans (KX.cell 0), (Bc hb KX.lt).trans (KX.cell 1), (Bc hb KX.lt).trans (KX.cell 2)⟩, ⟨(Bc hb KK.lt).trans (KK.cell 0), (Bc hb KK.lt).trans (KK.cell 1)⟩, (Bc hb KC.lt).trans (KC.cell 0), (Bc hb KC.lt).trans (KC.cell 1)⟩))
  have hAC := fun W (hb : Below w1.heap.size w1 W) => (show AcAt (fun b => b < W.heap.size) W _ _ a from ((hA.on B1).on hb).all)
  have hWW := fun W (hb : Below w1.heap.size w1 W) => hW.below (Bt B1 hb)
  have HKN := Lib.hid (fun W hb => (hWW W hb).known)
  have hRT := fun W hb => right_any a _ _ hdr W _ (hAC W hb)
  have hWK := fun W hb => lwrong_any a _ _ (k1, k2) a.drawn W _ (hAC W hb)
  have hWC := fun W hb => lwrong_any a _ _ (t1, t2) a.drawn W _ (hAC W hb)
  have hFO := fun W hb => Follow_any a _ _ hdr (k1, k2) (.slice none 0 0) [] W _ (hAC W hb) Sl.nil_ (by simp)
  have hAL := fun W hb => (All_any a _ _ hdr (k1, k2) W _ (hAC W hb)).mono (R' := fun e w' => ∃ A c, e = .returned (.tuple #[.slice A (Cha.allR a (k1, k2)).2.length c, .int .i64 (Cha.allR a (k1, k2)).1]) ∧ Below W.heap.size W w') fun e w' ⟨v, q1, q2, q3⟩ => by
    have hl : (Cha.allR a (k1, k2)).2.length ≤ 140737488355328 := Nat.le_trans (Cha.all_len a (k1, k2)) (by decide)
    obtain ⟨A, c, rfl, -⟩ := q2.sl (F := fun _ => True) hl fun _ _ _ _ => trivial
    exact ⟨A, c, q1, q3⟩
  have hTO := fun W hb => (To_any a _ _ hdr (k1, k2) (t1, t2) W _ (hAC W hb)).mono (R' := fun e w' => ∃ A c, e = .returned (.tuple #[.slice A (Cha.toR a (k1, k2) (t1, t2)).2.length c, .int .i64 (Cha.toR a (k1, k2) (t1, t2)).1]) ∧ Below W.heap.size W w') fun e w' ⟨v, q1, q2, q3⟩ => by
    obtain ⟨A, c, rfl, -⟩ := q2
    exact ⟨A, c, q1, q3⟩
  have hLE := fun W hb => (Least_any a _ _ hdr (k1, k2) (t1, t2) W _ (hAC W hb)).mono (R' := fun e w' => ∃ A n c x1 x2, e = .returned (.tuple #[.agg #[.slice A n c, .int .i64 x1, .int .i64 x2], .bool (Cha.leastR a (k1, k2) (t1, t2)).2.isSome, .int .i64 (Cha.leastR a (k1, k2) (t1, t2)).1]) ∧ Below W.heap.size W w') fun e w' ⟨v, q1, q2, q3⟩ => by
    obtain ⟨A, c, rfl, -⟩ := q2
    exact ⟨A, _, c, _, _, q1, q3⟩
  have hCU := fun W hb => (Cut_any a _ _ hdr (k1, k2) (t1, t2) W _ (hAC W hb) (hWW W hb).tab (hWW W hb).g).mono (R' := fun e w' => ∃ A c, e = .returned (.tuple #[.slice A (Cha.cutR a (k1, k2) (t1, t2)).2.length c, .int .i64 (Cha.cutR a (k1, k2) (t1, t2)).1]) ∧ Below W.heap.size W w') fun e w' ⟨v, q1, q2, q3⟩ => by
    obtain ⟨A, c, rfl, -⟩ := q2
    exact ⟨A, c, by rw [q1]; simp only [intN, List.length_map], q3⟩
  have hTX := fun W hb => Text_any a _ _ hdr (k1, k2) (.slice none 0 0) [] W _ (hAC W hb) Sl.nil_ (by simp) (hWW W hb).pow
  have hfo := Cha.folR_nil a (k1, k2)
  have htx := Cha.text_nil a (k1, k2)
  have hbk := Cha.begin_key a (k1, k2) (t1, t2)
  have hal : Cha.allR a (k1, k2) = if Cha.beginF a [(k1, k2)] = 0 then (match Cha.allF a (k1, k2) with | none => (4, []) | some L => (0, L)) else (Cha.beginF a [(k1, k2)], []) := rfl
  have hto : Cha.toR a (k1, k2) (t1, t2) = if Cha.beginF a [(k1, k2), (t1, t2)] = 0 then (match Cha.allF a (k1, k2) with | none => (4, []) | some L => (0, L.filter fun x => decide (x.2 = (t1, t2)))) else (Cha.beginF a [(k1, k2), (t1, t2)], []) := rfl
  have hle : Cha.leastR a (k1, k2) (t1, t2) = if Cha.beginF a [(k1, k2), (t1, t2)] = 0 then (0, Cha.leastF a (k1, k2) (t1, t2)) else (Cha.beginF a [(k1, k2), (t1, t2)], none) := rfl
  have hcu : Cha.cutR a (k1, k2) (t1, t2) = if Cha.beginF a [(k1, k2), (t1, t2)] = 0 then (if Cha.reachB a (k1, k2) (t1, t2) 0 = true then (if 16 < (Hit.members a.drawn).length then (4, []) else (0, (Cha.cutL (Cha.reachB a (k1, k2) (t1, t2)) (Hit.members a.drawn)).getD [])) else (18, [])) else (Cha.beginF a [(k1, k2), (t1, t2)], []) := rfl
  rw [htx] at hTX
  rw [hfo] at hFO
  have hb0 : Cha.beginF a [(k1, k2)] = if Cou.rightF a = 0 then Cou.wrongF a (k1, k2) else Cou.rightF a := by
    unfold Cha.beginF
    split
    · unfold Cha.wrongsF Cha.wrongsF
      split
      · rename_i h; exact h.symm
      · rfl
    · rfl
  have HB1 := Lib.hid B1
  have HW1 := Lib.hid hw1
  have HBX := Lib.hid hbx
  have HE1 := Lib.hid hb1
  have HE2 := Lib.hid hb2
  obtain ⟨⟨x0, x1, x2⟩, ⟨x3, x4⟩, x5, x6⟩ := HK.out w1 (B0 w1)
  dsimp only at hFO hTX
  clear hA hW B1 hw1 hbx hb1 hb2 KX KK KC hfo htx hAC hWW
  dsimp only
  have HRT := Lib.hid hRT
  have HWK := Lib.hid hWK
  have HWC := Lib.hid hWC
  clear hRT hWK hWC
  by_cases h3 : 3 < a.divs.length
  · have d3 : decide ((3 : Int) < a.divs.length) = true := decide_eq_true (by omega)
    clear hFO hAL hTO hLE hCU hTX hal hto hle hcu hb0 hbk h3
    generalize a.divs.length = dl at *
    generalize a.cps.length = cl at *
    generalize a.drawn = dr at *
    go_enter Tryd.func7, Tryd.ntmps7
    go_upto_region 1 with fail
    rw [HW1.out, HBX.out, HE1.out, HE2.out]
    go_wp2_with (first
      | (go_at_call 11; (with_reducible refine ((HKN.out _ HB2.out).mono ?_)); rintro e w3 ⟨rfl, hb3⟩; have HB3 := Lib.hid (Bt HB2.out hb3); clear hb3)
      | (go_at_call 11; (with_reducible refine ((HKN.out _ (B0 w1)).mono ?_)); rintro e w2 ⟨rfl, hb2⟩; have HB2 := Lib.hid hb2; clear x0 x1 x2 x3 x4 x5 x6; obtain ⟨⟨x0, x1, x2⟩, ⟨x3, x4⟩, x5, x6⟩ := HK.out w2 hb2; clear hb2))
    go_ret
    exact ⟨rfl, Bt HB1.out HB3.out⟩
  have d3 : decide ((3 : Int) < a.divs.length) = false := decide_eq_false (by omega)
  by_cases h4 : 4 < a.cps.length
  · have d4 : decide ((4 : Int) < a.cps.length) = true := decide_eq_true (by omega)
    clear hFO hAL hTO hLE hCU hTX hal hto hle hcu hb0 hbk h3 h4
    generalize a.divs.length = dl at *
    generalize a.cps.length = cl at *
    generalize a.drawn = dr at *
    go_enter Tryd.func7, Tryd.ntmps7
    go_upto_region 1 with fail
    rw [HW1.out, HBX.out, HE1.out, HE2.out]
    go_wp2_with (first
      | (go_at_call 11; (with_reducible refine ((HKN.out _ HB2.out).mono ?_)); rintro e w3 ⟨rfl, hb3⟩; have HB3 := Lib.hid (Bt HB2.out hb3); clear hb3)
      | (go_at_call 11; (with_reducible refine ((HKN.out _ (B0 w1)).mono ?_)); rintro e w2 ⟨rfl, hb2⟩; have HB2 := Lib.hid hb2; clear x0 x1 x2 x3 x4 x5 x6; obtain ⟨⟨x0, x1, x2⟩, ⟨x3, x4⟩, x5, x6⟩ := HK.out w2 hb2; clear hb2))
    go_ret
    exact ⟨rfl, Bt HB1.out HB3.out⟩
  have d4 : decide ((4 : Int) < a.cps.length) = false := decide_eq_false (by omega)
  have h16 : Cou.rightF a = 0 → ¬ 16 < (Hit.members a.drawn).length := fun h => by
    have h1 := (Cou.right_ok h).drawn
    have h2 := Cha.mem4 (d := a.drawn) (Nat.lt_of_lt_of_le h1 (Nat.pow_le_pow_right (by decide) (by omega)))
    omega
  by_cases hr : Cou.rightF a = 0
  · rw [if_pos hr] at hb0
    by_cases hk : Cou.wrongF a (k1, k2) = 0
    · rw [hk] at hb0
      rw [hb0, if_pos rfl] at hFO hTX hal hbk
      rw [hr] at HRT
      rw [hk] at HWK
      have h16 := h16 hr
      by_cases hc : Cou.wrongF a (t1, t2) = 0
      · rw [hc] at hbk HWC
        rw [hbk, if_pos rfl] at hto hle hcu
        rw [if_neg h16] at hcu
        have hF : ∃ (F1 : Int) (l1 m1 : Nat), (F1 = 0 ∨ F1 = 4) ∧ (Cha.allR a (k1, k2)).1 = F1 ∧ (Cha.toR a (k1, k2) (t1, t2)).1 = F1 ∧ (Cha.allR a (k1, k2)).2.length = l1 ∧ (Cha.toR a (k1, k2) (t1, t2)).2.length = m1 := by
          cases hq : Cha.allF a (k1, k2) with
          | none => rw [hq] at hal hto; exact ⟨4, _, _, .inr rfl, by rw [hal], by rw [hto], rfl, rfl⟩
          | some L => rw [hq] at hal hto; exact ⟨0, _, _, .inl rfl, by rw [hal], by rw [hto], rfl, rfl⟩
        obtain ⟨F1, l1, m1, hF1, e1, e2, e3, e4⟩ := hF
        have hI : ∃ (I1 : Int) (n1 : Nat), (I1 = 0 ∨ I1 = 18) ∧ (Cha.cutR a (k1, k2) (t1, t2)).1 = I1 ∧ (Cha.cutR a (k1, k2) (t1, t2)).2.length = n1 := by
          cases hq : Cha.reachB a (k1, k2) (t1, t2) 0 with
          | true => rw [hq] at hcu; exact ⟨0, _, .inl rfl, by rw [hcu]; rfl, rfl⟩
          | false => rw [hq] at hcu; exact ⟨18, _, .inr rfl, by rw [hcu]; rfl, rfl⟩
        obtain ⟨I1, n1, hI1, e5, e6⟩ := hI
        rw [e1, e3] at hAL
        rw [e2, e4] at hTO
        rw [e5, e6] at hCU
        obtain ⟨fd, hfd⟩ : ∃ fd, (Cha.leastR a (k1, k2) (t1, t2)).2.isSome = fd := ⟨_, rfl⟩
        rw [hfd] at hLE
        rw [hle] at hLE
        dsimp only at hLE
        clear e1 e2 e3 e4 e5 e6 hfd hr hk hc
        rcases hF1 with rfl | rfl
        · rcases hI1 with rfl | rfl
          · skip
            skip
            have HFO := Lib.hid hFO
            have HAL := Lib.hid hAL
            have HTO := Lib.hid hTO
            have HLE := Lib.hid hLE
            have HCU := Lib.hid hCU
            have HTX := Lib.hid hTX
            clear hFO hAL hTO hLE hCU hTX hal hto hle hcu hb0 hbk h16 h3 h4
            generalize a.divs.length = dl at *
            generalize a.cps.length = cl at *
            generalize a.drawn = dr at *
            go_enter Tryd.func7, Tryd.ntmps7
            go_upto_region 1 with fail
            rw [HW1.out, HBX.out, HE1.out, HE2.out]
            go_wp2_with (first
              | (go_at_call 14; (with_reducible refine ((HFO.out _ HP5.out).mono ?_)); rintro e wa ⟨v0, rfl, -, hba⟩; have HBA := Lib.hid (Bt HP5.out hba); clear x0 x1 x2 x3 x4 x5 x6; obtain ⟨⟨x0, x1, x2⟩, ⟨x3, x4⟩, x5, x6⟩ := HK.out wa HBA.out; clear hba)
              | (go_at_call 29; (with_reducible refine ((HAL.out _ HBA.out).mono ?_)); rintro e wb ⟨A1, c1, rfl, hbb⟩; have HBB := Lib.hid (Bt HBA.out hbb); clear x0 x1 x2 x3 x4 x5 x6; obtain ⟨⟨x0, x1, x2⟩, ⟨x3, x4⟩, x5, x6⟩ := HK.out wb HBB.out; clear hbb)
              | (go_at_call 30; (with_reducible refine ((HTO.out _ HBB.out).mono ?_)); rintro e wc ⟨A2, c2, rfl, hbc⟩; have HBC := Lib.hid (Bt HBB.out hbc); clear x0 x1 x2 x3 x4 x5 x6; obtain ⟨⟨x0, x1, x2⟩, ⟨x3, x4⟩, x5, x6⟩ := HK.out wc HBC.out; clear hbc)
              | (go_at_call 31; (with_reducible refine ((HLE.out _ HBC.out).mono ?_)); rintro e wd ⟨A3, n3, c3, y1, y2, rfl, hbd⟩; have HBD := Lib.hid (Bt HBC.out hbd); clear x0 x1 x2 x3 x4 x5 x6; obtain ⟨⟨x0, x1, x2⟩, ⟨x3, x4⟩, x5, x6⟩ := HK.out (wd.alloc (.cells #[.slice A3 n3 c3, .int .i64 y1, .int .i64 y2] 56)) (Ba HBD.out _); clear hbd)
              | (go_at_call 18; (with_reducible refine ((HCU.out _ (Ba HBD.out _)).mono ?_)); rintro e we ⟨A4, c4, rfl, hbe⟩; have HBE := Lib.hid (Bt (Ba HBD.out _) hbe); clear x0 x1 x2 x3 x4 x5 x6; obtain ⟨⟨x0, x1, x2⟩, ⟨x3, x4⟩, x5, x6⟩ := HK.out we HBE.out; clear hbe)
              | (go_at_call 15; (with_reducible refine ((HTX.out _ HBE.out).mono ?_)); rintro e wf ⟨rfl, hbf⟩; have HBF := Lib.hid (Bt HBE.out hbf); clear x0 x1 x2 x3 x4 x5 x6; obtain ⟨⟨x0, x1, x2⟩, ⟨x3, x4⟩, x5, x6⟩ := HK.out wf HBF.out; clear hbf)
              | (go_at_call 28; (with_reducible refine ((HWK.out _ HP3.out).mono ?_)); rintro e w4 ⟨rfl, hb4⟩; have HP4 := Lib.hid (Bt HP3.out hb4); clear x0 x1 x2 x3 x4 x5 x6; obtain ⟨⟨x0, x1, x2⟩, ⟨x3, x4⟩, x5, x6⟩ := HK.out w4 HP4.out; clear hb4)
              | (go_at_call 28; (with_reducible refine ((HWC.out _ HP4.out).mono ?_)); rintro e w5 ⟨rfl, hb5⟩; have HP5 := Lib.hid (Bt HP4.out hb5); clear x0 x1 x2 x3 x4 x5 x6; obtain ⟨⟨x0, x1, x2⟩, ⟨x3, x4⟩, x5, x6⟩ := HK.out w5 HP5.out; clear hb5)
              | (go_at_call 27; (with_reducible refine ((HRT.out _ HP2.out).mono ?_)); rintro e w3 ⟨rfl, hb3⟩; have HP3 := Lib.hid (Bt HP2.out hb3); clear x0 x1 x2 x3 x4 x5 x6; obtain ⟨⟨x0, x1, x2⟩, ⟨x3, x4⟩, x5, x6⟩ := HK.out w3 HP3.out; clear hb3)
              | (go_at_call 11; (with_reducible refine ((HKN.out _ (B0 w1)).mono ?_)); rintro e w2 ⟨rfl, hb2⟩; have HP2 := Lib.hid hb2; clear x0 x1 x2 x3 x4 x5 x6; obtain ⟨⟨x0, x1, x2⟩, ⟨x3, x4⟩, x5, x6⟩ := HK.out w2 hb2; clear hb2))
            go_ret
            exact ⟨by simp, Bt HB1.out HBF.out⟩
          · skip
            skip
            have HFO := Lib.hid hFO
            have HAL := Lib.hid hAL
            have HTO := Lib.hid hTO
            have HLE := Lib.hid hLE
            have HCU := Lib.hid hCU
            have HTX := Lib.hid hTX
            clear hFO hAL hTO hLE hCU hTX hal hto hle hcu hb0 hbk h16 h3 h4
            generalize a.divs.length = dl at *
            generalize a.cps.length = cl at *
            generalize a.drawn = dr at *
            go_enter Tryd.func7, Tryd.ntmps7
            go_upto_region 1 with fail
            rw [HW1.out, HBX.out, HE1.out, HE2.out]
            go_wp2_with (first
              | (go_at_call 14; (with_reducible refine ((HFO.out _ HP5.out).mono ?_)); rintro e wa ⟨v0, rfl, -, hba⟩; have HBA := Lib.hid (Bt HP5.out hba); clear x0 x1 x2 x3 x4 x5 x6; obtain ⟨⟨x0, x1, x2⟩, ⟨x3, x4⟩, x5, x6⟩ := HK.out wa HBA.out; clear hba)
              | (go_at_call 29; (with_reducible refine ((HAL.out _ HBA.out).mono ?_)); rintro e wb ⟨A1, c1, rfl, hbb⟩; have HBB := Lib.hid (Bt HBA.out hbb); clear x0 x1 x2 x3 x4 x5 x6; obtain ⟨⟨x0, x1, x2⟩, ⟨x3, x4⟩, x5, x6⟩ := HK.out wb HBB.out; clear hbb)
              | (go_at_call 30; (with_reducible refine ((HTO.out _ HBB.out).mono ?_)); rintro e wc ⟨A2, c2, rfl, hbc⟩; have HBC := Lib.hid (Bt HBB.out hbc); clear x0 x1 x2 x3 x4 x5 x6; obtain ⟨⟨x0, x1, x2⟩, ⟨x3, x4⟩, x5, x6⟩ := HK.out wc HBC.out; clear hbc)
              | (go_at_call 31; (with_reducible refine ((HLE.out _ HBC.out).mono ?_)); rintro e wd ⟨A3, n3, c3, y1, y2, rfl, hbd⟩; have HBD := Lib.hid (Bt HBC.out hbd); clear x0 x1 x2 x3 x4 x5 x6; obtain ⟨⟨x0, x1, x2⟩, ⟨x3, x4⟩, x5, x6⟩ := HK.out (wd.alloc (.cells #[.slice A3 n3 c3, .int .i64 y1, .int .i64 y2] 56)) (Ba HBD.out _); clear hbd)
              | (go_at_call 18; (with_reducible refine ((HCU.out _ (Ba HBD.out _)).mono ?_)); rintro e we ⟨A4, c4, rfl, hbe⟩; have HBE := Lib.hid (Bt (Ba HBD.out _) hbe); clear x0 x1 x2 x3 x4 x5 x6; obtain ⟨⟨x0, x1, x2⟩, ⟨x3, x4⟩, x5, x6⟩ := HK.out we HBE.out; clear hbe)
              | (go_at_call 15; (with_reducible refine ((HTX.out _ HBE.out).mono ?_)); rintro e wf ⟨rfl, hbf⟩; have HBF := Lib.hid (Bt HBE.out hbf); clear x0 x1 x2 x3 x4 x5 x6; obtain ⟨⟨x0, x1, x2⟩, ⟨x3, x4⟩, x5, x6⟩ := HK.out wf HBF.out; clear hbf)
              | (go_at_call 28; (with_reducible refine ((HWK.out _ HP3.out).mono ?_)); rintro e w4 ⟨rfl, hb4⟩; have HP4 := Lib.hid (Bt HP3.out hb4); clear x0 x1 x2 x3 x4 x5 x6; obtain ⟨⟨x0, x1, x2⟩, ⟨x3, x4⟩, x5, x6⟩ := HK.out w4 HP4.out; clear hb4)
              | (go_at_call 28; (with_reducible refine ((HWC.out _ HP4.out).mono ?_)); rintro e w5 ⟨rfl, hb5⟩; have HP5 := Lib.hid (Bt HP4.out hb5); clear x0 x1 x2 x3 x4 x5 x6; obtain ⟨⟨x0, x1, x2⟩, ⟨x3, x4⟩, x5, x6⟩ := HK.out w5 HP5.out; clear hb5)
              | (go_at_call 27; (with_reducible refine ((HRT.out _ HP2.out).mono ?_)); rintro e w3 ⟨rfl, hb3⟩; have HP3 := Lib.hid (Bt HP2.out hb3); clear x0 x1 x2 x3 x4 x5 x6; obtain ⟨⟨x0, x1, x2⟩, ⟨x3, x4⟩, x5, x6⟩ := HK.out w3 HP3.out; clear hb3)
              | (go_at_call 11; (with_reducible refine ((HKN.out _ (B0 w1)).mono ?_)); rintro e w2 ⟨rfl, hb2⟩; have HP2 := Lib.hid hb2; clear x0 x1 x2 x3 x4 x5 x6; obtain ⟨⟨x0, x1, x2⟩, ⟨x3, x4⟩, x5, x6⟩ := HK.out w2 hb2; clear hb2))
            go_ret
            exact ⟨by simp, Bt HB1.out HBF.out⟩
        · rcases hI1 with rfl | rfl
          · skip
            skip
            have HFO := Lib.hid hFO
            have HAL := Lib.hid hAL
            have HTO := Lib.hid hTO
            have HLE := Lib.hid hLE
            have HCU := Lib.hid hCU
            have HTX := Lib.hid hTX
            clear hFO hAL hTO hLE hCU hTX hal hto hle hcu hb0 hbk h16 h3 h4
            generalize a.divs.length = dl at *
            generalize a.cps.length = cl at *
            generalize a.drawn = dr at *
            go_enter Tryd.func7, Tryd.ntmps7
            go_upto_region 1 with fail
            rw [HW1.out, HBX.out, HE1.out, HE2.out]
            go_wp2_with (first
              | (go_at_call 14; (with_reducible refine ((HFO.out _ HP5.out).mono ?_)); rintro e wa ⟨v0, rfl, -, hba⟩; have HBA := Lib.hid (Bt HP5.out hba); clear x0 x1 x2 x3 x4 x5 x6; obtain ⟨⟨x0, x1, x2⟩, ⟨x3, x4⟩, x5, x6⟩ := HK.out wa HBA.out; clear hba)
              | (go_at_call 29; (with_reducible refine ((HAL.out _ HBA.out).mono ?_)); rintro e wb ⟨A1, c1, rfl, hbb⟩; have HBB := Lib.hid (Bt HBA.out hbb); clear x0 x1 x2 x3 x4 x5 x6; obtain ⟨⟨x0, x1, x2⟩, ⟨x3, x4⟩, x5, x6⟩ := HK.out wb HBB.out; clear hbb)
              | (go_at_call 30; (with_reducible refine ((HTO.out _ HBB.out).mono ?_)); rintro e wc ⟨A2, c2, rfl, hbc⟩; have HBC := Lib.hid (Bt HBB.out hbc); clear x0 x1 x2 x3 x4 x5 x6; obtain ⟨⟨x0, x1, x2⟩, ⟨x3, x4⟩, x5, x6⟩ := HK.out wc HBC.out; clear hbc)
              | (go_at_call 31; (with_reducible refine ((HLE.out _ HBC.out).mono ?_)); rintro e wd ⟨A3, n3, c3, y1, y2, rfl, hbd⟩; have HBD := Lib.hid (Bt HBC.out hbd); clear x0 x1 x2 x3 x4 x5 x6; obtain ⟨⟨x0, x1, x2⟩, ⟨x3, x4⟩, x5, x6⟩ := HK.out (wd.alloc (.cells #[.slice A3 n3 c3, .int .i64 y1, .int .i64 y2] 56)) (Ba HBD.out _); clear hbd)
              | (go_at_call 18; (with_reducible refine ((HCU.out _ (Ba HBD.out _)).mono ?_)); rintro e we ⟨A4, c4, rfl, hbe⟩; have HBE := Lib.hid (Bt (Ba HBD.out _) hbe); clear x0 x1 x2 x3 x4 x5 x6; obtain ⟨⟨x0, x1, x2⟩, ⟨x3, x4⟩, x5, x6⟩ := HK.out we HBE.out; clear hbe)
              | (go_at_call 15; (with_reducible refine ((HTX.out _ HBE.out).mono ?_)); rintro e wf ⟨rfl, hbf⟩; have HBF := Lib.hid (Bt HBE.out hbf); clear x0 x1 x2 x3 x4 x5 x6; obtain ⟨⟨x0, x1, x2⟩, ⟨x3, x4⟩, x5, x6⟩ := HK.out wf HBF.out; clear hbf)
              | (go_at_call 28; (with_reducible refine ((HWK.out _ HP3.out).mono ?_)); rintro e w4 ⟨rfl, hb4⟩; have HP4 := Lib.hid (Bt HP3.out hb4); clear x0 x1 x2 x3 x4 x5 x6; obtain ⟨⟨x0, x1, x2⟩, ⟨x3, x4⟩, x5, x6⟩ := HK.out w4 HP4.out; clear hb4)
              | (go_at_call 28; (with_reducible refine ((HWC.out _ HP4.out).mono ?_)); rintro e w5 ⟨rfl, hb5⟩; have HP5 := Lib.hid (Bt HP4.out hb5); clear x0 x1 x2 x3 x4 x5 x6; obtain ⟨⟨x0, x1, x2⟩, ⟨x3, x4⟩, x5, x6⟩ := HK.out w5 HP5.out; clear hb5)
              | (go_at_call 27; (with_reducible refine ((HRT.out _ HP2.out).mono ?_)); rintro e w3 ⟨rfl, hb3⟩; have HP3 := Lib.hid (Bt HP2.out hb3); clear x0 x1 x2 x3 x4 x5 x6; obtain ⟨⟨x0, x1, x2⟩, ⟨x3, x4⟩, x5, x6⟩ := HK.out w3 HP3.out; clear hb3)
              | (go_at_call 11; (with_reducible refine ((HKN.out _ (B0 w1)).mono ?_)); rintro e w2 ⟨rfl, hb2⟩; have HP2 := Lib.hid hb2; clear x0 x1 x2 x3 x4 x5 x6; obtain ⟨⟨x0, x1, x2⟩, ⟨x3, x4⟩, x5, x6⟩ := HK.out w2 hb2; clear hb2))
            go_ret
            exact ⟨by simp, Bt HB1.out HBF.out⟩
          · skip
            skip
            have HFO := Lib.hid hFO
            have HAL := Lib.hid hAL
            have HTO := Lib.hid hTO
            have HLE := Lib.hid hLE
            have HCU := Lib.hid hCU
            have HTX := Lib.hid hTX
            clear hFO hAL hTO hLE hCU hTX hal hto hle hcu hb0 hbk h16 h3 h4
            generalize a.divs.length = dl at *
            generalize a.cps.length = cl at *
            generalize a.drawn = dr at *
            go_enter Tryd.func7, Tryd.ntmps7
            go_upto_region 1 with fail
            rw [HW1.out, HBX.out, HE1.out, HE2.out]
            go_wp2_with (first
              | (go_at_call 14; (with_reducible refine ((HFO.out _ HP5.out).mono ?_)); rintro e wa ⟨v0, rfl, -, hba⟩; have HBA := Lib.hid (Bt HP5.out hba); clear x0 x1 x2 x3 x4 x5 x6; obtain ⟨⟨x0, x1, x2⟩, ⟨x3, x4⟩, x5, x6⟩ := HK.out wa HBA.out; clear hba)
              | (go_at_call 29; (with_reducible refine ((HAL.out _ HBA.out).mono ?_)); rintro e wb ⟨A1, c1, rfl, hbb⟩; have HBB := Lib.hid (Bt HBA.out hbb); clear x0 x1 x2 x3 x4 x5 x6; obtain ⟨⟨x0, x1, x2⟩, ⟨x3, x4⟩, x5, x6⟩ := HK.out wb HBB.out; clear hbb)
              | (go_at_call 30; (with_reducible refine ((HTO.out _ HBB.out).mono ?_)); rintro e wc ⟨A2, c2, rfl, hbc⟩; have HBC := Lib.hid (Bt HBB.out hbc); clear x0 x1 x2 x3 x4 x5 x6; obtain ⟨⟨x0, x1, x2⟩, ⟨x3, x4⟩, x5, x6⟩ := HK.out wc HBC.out; clear hbc)
              | (go_at_call 31; (with_reducible refine ((HLE.out _ HBC.out).mono ?_)); rintro e wd ⟨A3, n3, c3, y1, y2, rfl, hbd⟩; have HBD := Lib.hid (Bt HBC.out hbd); clear x0 x1 x2 x3 x4 x5 x6; obtain ⟨⟨x0, x1, x2⟩, ⟨x3, x4⟩, x5, x6⟩ := HK.out (wd.alloc (.cells #[.slice A3 n3 c3, .int .i64 y1, .int .i64 y2] 56)) (Ba HBD.out _); clear hbd)
              | (go_at_call 18; (with_reducible refine ((HCU.out _ (Ba HBD.out _)).mono ?_)); rintro e we ⟨A4, c4, rfl, hbe⟩; have HBE := Lib.hid (Bt (Ba HBD.out _) hbe); clear x0 x1 x2 x3 x4 x5 x6; obtain ⟨⟨x0, x1, x2⟩, ⟨x3, x4⟩, x5, x6⟩ := HK.out we HBE.out; clear hbe)
              | (go_at_call 15; (with_reducible refine ((HTX.out _ HBE.out).mono ?_)); rintro e wf ⟨rfl, hbf⟩; have HBF := Lib.hid (Bt HBE.out hbf); clear x0 x1 x2 x3 x4 x5 x6; obtain ⟨⟨x0, x1, x2⟩, ⟨x3, x4⟩, x5, x6⟩ := HK.out wf HBF.out; clear hbf)
              | (go_at_call 28; (with_reducible refine ((HWK.out _ HP3.out).mono ?_)); rintro e w4 ⟨rfl, hb4⟩; have HP4 := Lib.hid (Bt HP3.out hb4); clear x0 x1 x2 x3 x4 x5 x6; obtain ⟨⟨x0, x1, x2⟩, ⟨x3, x4⟩, x5, x6⟩ := HK.out w4 HP4.out; clear hb4)
              | (go_at_call 28; (with_reducible refine ((HWC.out _ HP4.out).mono ?_)); rintro e w5 ⟨rfl, hb5⟩; have HP5 := Lib.hid (Bt HP4.out hb5); clear x0 x1 x2 x3 x4 x5 x6; obtain ⟨⟨x0, x1, x2⟩, ⟨x3, x4⟩, x5, x6⟩ := HK.out w5 HP5.out; clear hb5)
              | (go_at_call 27; (with_reducible refine ((HRT.out _ HP2.out).mono ?_)); rintro e w3 ⟨rfl, hb3⟩; have HP3 := Lib.hid (Bt HP2.out hb3); clear x0 x1 x2 x3 x4 x5 x6; obtain ⟨⟨x0, x1, x2⟩, ⟨x3, x4⟩, x5, x6⟩ := HK.out w3 HP3.out; clear hb3)
              | (go_at_call 11; (with_reducible refine ((HKN.out _ (B0 w1)).mono ?_)); rintro e w2 ⟨rfl, hb2⟩; have HP2 := Lib.hid hb2; clear x0 x1 x2 x3 x4 x5 x6; obtain ⟨⟨x0, x1, x2⟩, ⟨x3, x4⟩, x5, x6⟩ := HK.out w2 hb2; clear hb2))
            go_ret
            exact ⟨by simp, Bt HB1.out HBF.out⟩
      · obtain ⟨o, ho⟩ : ∃ o, Cou.wrongF a (t1, t2) = o := ⟨_, rfl⟩
        rw [ho] at hbk hc HWC
        rw [hbk, if_neg hc] at hto hle hcu
        have hF : ∃ (F1 : Int) (l1 : Nat), (F1 = 0 ∨ F1 = 4) ∧ (Cha.allR a (k1, k2)).1 = F1 ∧ (Cha.allR a (k1, k2)).2.length = l1 := by
          cases hq : Cha.allF a (k1, k2) with
          | none => rw [hq] at hal; exact ⟨4, _, .inr rfl, by rw [hal], rfl⟩
          | some L => rw [hq] at hal; exact ⟨0, _, .inl rfl, by rw [hal], rfl⟩
        obtain ⟨F1, l1, hF1, e1, e3⟩ := hF
        rw [e1, e3] at hAL
        rw [hto] at hTO
        rw [hle] at hLE
        rw [hcu] at hCU
        dsimp only [Option.isSome, List.length_nil] at hTO hLE hCU
        have d5 : (o == 0) = false := by simpa using hc
        have d6 : (o != 0) = true := by simpa using hc
        clear e1 e3 hr hk hc ho
        rcases hF1 with rfl | rfl
        · skip
          skip
          have HFO := Lib.hid hFO
          have HAL := Lib.hid hAL
          have HTO := Lib.hid hTO
          have HLE := Lib.hid hLE
          have HCU := Lib.hid hCU
          have HTX := Lib.hid hTX
          clear hFO hAL hTO hLE hCU hTX hal hto hle hcu hb0 hbk h16 h3 h4
          generalize a.divs.length = dl at *
          generalize a.cps.length = cl at *
          generalize a.drawn = dr at *
          go_enter Tryd.func7, Tryd.ntmps7
          go_upto_region 1 with fail
          rw [HW1.out, HBX.out, HE1.out, HE2.out]
          go_wp2_with (first
            | (go_at_call 14; (with_reducible refine ((HFO.out _ HP5.out).mono ?_)); rintro e wa ⟨v0, rfl, -, hba⟩; have HBA := Lib.hid (Bt HP5.out hba); clear x0 x1 x2 x3 x4 x5 x6; obtain ⟨⟨x0, x1, x2⟩, ⟨x3, x4⟩, x5, x6⟩ := HK.out wa HBA.out; clear hba)
            | (go_at_call 29; (with_reducible refine ((HAL.out _ HBA.out).mono ?_)); rintro e wb ⟨A1, c1, rfl, hbb⟩; have HBB := Lib.hid (Bt HBA.out hbb); clear x0 x1 x2 x3 x4 x5 x6; obtain ⟨⟨x0, x1, x2⟩, ⟨x3, x4⟩, x5, x6⟩ := HK.out wb HBB.out; clear hbb)
            | (go_at_call 30; (with_reducible refine ((HTO.out _ HBB.out).mono ?_)); rintro e wc ⟨A2, c2, rfl, hbc⟩; have HBC := Lib.hid (Bt HBB.out hbc); clear x0 x1 x2 x3 x4 x5 x6; obtain ⟨⟨x0, x1, x2⟩, ⟨x3, x4⟩, x5, x6⟩ := HK.out wc HBC.out; clear hbc)
            | (go_at_call 31; (with_reducible refine ((HLE.out _ HBC.out).mono ?_)); rintro e wd ⟨A3, n3, c3, y1, y2, rfl, hbd⟩; have HBD := Lib.hid (Bt HBC.out hbd); clear x0 x1 x2 x3 x4 x5 x6; obtain ⟨⟨x0, x1, x2⟩, ⟨x3, x4⟩, x5, x6⟩ := HK.out (wd.alloc (.cells #[.slice A3 n3 c3, .int .i64 y1, .int .i64 y2] 56)) (Ba HBD.out _); clear hbd)
            | (go_at_call 18; (with_reducible refine ((HCU.out _ (Ba HBD.out _)).mono ?_)); rintro e we ⟨A4, c4, rfl, hbe⟩; have HBE := Lib.hid (Bt (Ba HBD.out _) hbe); clear x0 x1 x2 x3 x4 x5 x6; obtain ⟨⟨x0, x1, x2⟩, ⟨x3, x4⟩, x5, x6⟩ := HK.out we HBE.out; clear hbe)
            | (go_at_call 15; (with_reducible refine ((HTX.out _ HBE.out).mono ?_)); rintro e wf ⟨rfl, hbf⟩; have HBF := Lib.hid (Bt HBE.out hbf); clear x0 x1 x2 x3 x4 x5 x6; obtain ⟨⟨x0, x1, x2⟩, ⟨x3, x4⟩, x5, x6⟩ := HK.out wf HBF.out; clear hbf)
            | (go_at_call 28; (with_reducible refine ((HWK.out _ HP3.out).mono ?_)); rintro e w4 ⟨rfl, hb4⟩; have HP4 := Lib.hid (Bt HP3.out hb4); clear x0 x1 x2 x3 x4 x5 x6; obtain ⟨⟨x0, x1, x2⟩, ⟨x3, x4⟩, x5, x6⟩ := HK.out w4 HP4.out; clear hb4)
            | (go_at_call 28; (with_reducible refine ((HWC.out _ HP4.out).mono ?_)); rintro e w5 ⟨rfl, hb5⟩; have HP5 := Lib.hid (Bt HP4.out hb5); clear x0 x1 x2 x3 x4 x5 x6; obtain ⟨⟨x0, x1, x2⟩, ⟨x3, x4⟩, x5, x6⟩ := HK.out w5 HP5.out; clear hb5)
            | (go_at_call 27; (with_reducible refine ((HRT.out _ HP2.out).mono ?_)); rintro e w3 ⟨rfl, hb3⟩; have HP3 := Lib.hid (Bt HP2.out hb3); clear x0 x1 x2 x3 x4 x5 x6; obtain ⟨⟨x0, x1, x2⟩, ⟨x3, x4⟩, x5, x6⟩ := HK.out w3 HP3.out; clear hb3)
            | (go_at_call 11; (with_reducible refine ((HKN.out _ (B0 w1)).mono ?_)); rintro e w2 ⟨rfl, hb2⟩; have HP2 := Lib.hid hb2; clear x0 x1 x2 x3 x4 x5 x6; obtain ⟨⟨x0, x1, x2⟩, ⟨x3, x4⟩, x5, x6⟩ := HK.out w2 hb2; clear hb2))
          go_ret
          exact ⟨by simp, Bt HB1.out HBF.out⟩
        · skip
          skip
          have HFO := Lib.hid hFO
          have HAL := Lib.hid hAL
          have HTO := Lib.hid hTO
          have HLE := Lib.hid hLE
          have HCU := Lib.hid hCU
          have HTX := Lib.hid hTX
          clear hFO hAL hTO hLE hCU hTX hal hto hle hcu hb0 hbk h16 h3 h4
          generalize a.divs.length = dl at *
          generalize a.cps.length = cl at *
          generalize a.drawn = dr at *
          go_enter Tryd.func7, Tryd.ntmps7
          go_upto_region 1 with fail
          rw [HW1.out, HBX.out, HE1.out, HE2.out]
          go_wp2_with (first
            | (go_at_call 14; (with_reducible refine ((HFO.out _ HP5.out).mono ?_)); rintro e wa ⟨v0, rfl, -, hba⟩; have HBA := Lib.hid (Bt HP5.out hba); clear x0 x1 x2 x3 x4 x5 x6; obtain ⟨⟨x0, x1, x2⟩, ⟨x3, x4⟩, x5, x6⟩ := HK.out wa HBA.out; clear hba)
            | (go_at_call 29; (with_reducible refine ((HAL.out _ HBA.out).mono ?_)); rintro e wb ⟨A1, c1, rfl, hbb⟩; have HBB := Lib.hid (Bt HBA.out hbb); clear x0 x1 x2 x3 x4 x5 x6; obtain ⟨⟨x0, x1, x2⟩, ⟨x3, x4⟩, x5, x6⟩ := HK.out wb HBB.out; clear hbb)
            | (go_at_call 30; (with_reducible refine ((HTO.out _ HBB.out).mono ?_)); rintro e wc ⟨A2, c2, rfl, hbc⟩; have HBC := Lib.hid (Bt HBB.out hbc); clear x0 x1 x2 x3 x4 x5 x6; obtain ⟨⟨x0, x1, x2⟩, ⟨x3, x4⟩, x5, x6⟩ := HK.out wc HBC.out; clear hbc)
            | (go_at_call 31; (with_reducible refine ((HLE.out _ HBC.out).mono ?_)); rintro e wd ⟨A3, n3, c3, y1, y2, rfl, hbd⟩; have HBD := Lib.hid (Bt HBC.out hbd); clear x0 x1 x2 x3 x4 x5 x6; obtain ⟨⟨x0, x1, x2⟩, ⟨x3, x4⟩, x5, x6⟩ := HK.out (wd.alloc (.cells #[.slice A3 n3 c3, .int .i64 y1, .int .i64 y2] 56)) (Ba HBD.out _); clear hbd)
            | (go_at_call 18; (with_reducible refine ((HCU.out _ (Ba HBD.out _)).mono ?_)); rintro e we ⟨A4, c4, rfl, hbe⟩; have HBE := Lib.hid (Bt (Ba HBD.out _) hbe); clear x0 x1 x2 x3 x4 x5 x6; obtain ⟨⟨x0, x1, x2⟩, ⟨x3, x4⟩, x5, x6⟩ := HK.out we HBE.out; clear hbe)
            | (go_at_call 15; (with_reducible refine ((HTX.out _ HBE.out).mono ?_)); rintro e wf ⟨rfl, hbf⟩; have HBF := Lib.hid (Bt HBE.out hbf); clear x0 x1 x2 x3 x4 x5 x6; obtain ⟨⟨x0, x1, x2⟩, ⟨x3, x4⟩, x5, x6⟩ := HK.out wf HBF.out; clear hbf)
            | (go_at_call 28; (with_reducible refine ((HWK.out _ HP3.out).mono ?_)); rintro e w4 ⟨rfl, hb4⟩; have HP4 := Lib.hid (Bt HP3.out hb4); clear x0 x1 x2 x3 x4 x5 x6; obtain ⟨⟨x0, x1, x2⟩, ⟨x3, x4⟩, x5, x6⟩ := HK.out w4 HP4.out; clear hb4)
            | (go_at_call 28; (with_reducible refine ((HWC.out _ HP4.out).mono ?_)); rintro e w5 ⟨rfl, hb5⟩; have HP5 := Lib.hid (Bt HP4.out hb5); clear x0 x1 x2 x3 x4 x5 x6; obtain ⟨⟨x0, x1, x2⟩, ⟨x3, x4⟩, x5, x6⟩ := HK.out w5 HP5.out; clear hb5)
            | (go_at_call 27; (with_reducible refine ((HRT.out _ HP2.out).mono ?_)); rintro e w3 ⟨rfl, hb3⟩; have HP3 := Lib.hid (Bt HP2.out hb3); clear x0 x1 x2 x3 x4 x5 x6; obtain ⟨⟨x0, x1, x2⟩, ⟨x3, x4⟩, x5, x6⟩ := HK.out w3 HP3.out; clear hb3)
            | (go_at_call 11; (with_reducible refine ((HKN.out _ (B0 w1)).mono ?_)); rintro e w2 ⟨rfl, hb2⟩; have HP2 := Lib.hid hb2; clear x0 x1 x2 x3 x4 x5 x6; obtain ⟨⟨x0, x1, x2⟩, ⟨x3, x4⟩, x5, x6⟩ := HK.out w2 hb2; clear hb2))
          go_ret
          exact ⟨by simp, Bt HB1.out HBF.out⟩
    · obtain ⟨o, ho⟩ : ∃ o, Cou.wrongF a (k1, k2) = o := ⟨_, rfl⟩
      rw [ho] at hb0 hk HWK
      have hbo := hb0
      have hr0 := hr
      rw [hr] at HRT
      clear hr ho
      have hr := hk
      clear hk hr0
      have hbc : Cha.beginF a [(k1, k2), (t1, t2)] = o := by rw [hbk, hbo, if_neg hr]
      rw [hbo, if_neg hr] at hFO hTX hal
      rw [hbc, if_neg hr] at hto hle hcu
      rw [hal] at hAL
      rw [hto] at hTO
      rw [hle] at hLE
      rw [hcu] at hCU
      dsimp only [Option.isSome, List.length_nil] at hAL hTO hLE hCU
      have d5 : (o == 0) = false := by simpa using hr
      have d6 : (o != 0) = true := by simpa using hr
      clear hr hbo hbc
      have HFO := Lib.hid hFO
      have HAL := Lib.hid hAL
      have HTO := Lib.hid hTO
      have HLE := Lib.hid hLE
      have HCU := Lib.hid hCU
      have HTX := Lib.hid hTX
      clear hFO hAL hTO hLE hCU hTX hal hto hle hcu hb0 hbk h16 h3 h4
      generalize a.divs.length = dl at *
      generalize a.cps.length = cl at *
      generalize a.drawn = dr at *
      go_enter Tryd.func7, Tryd.ntmps7
      go_upto_region 1 with fail
      rw [HW1.out, HBX.out, HE1.out, HE2.out]
      go_wp2_with (first
        | (go_at_call 14; (with_reducible refine ((HFO.out _ HP4.out).mono ?_)); rintro e wa ⟨v0, rfl, -, hba⟩; have HBA := Lib.hid (Bt HP4.out hba); clear x0 x1 x2 x3 x4 x5 x6; obtain ⟨⟨x0, x1, x2⟩, ⟨x3, x4⟩, x5, x6⟩ := HK.out wa HBA.out; clear hba)
        | (go_at_call 29; (with_reducible refine ((HAL.out _ HBA.out).mono ?_)); rintro e wb ⟨A1, c1, rfl, hbb⟩; have HBB := Lib.hid (Bt HBA.out hbb); clear x0 x1 x2 x3 x4 x5 x6; obtain ⟨⟨x0, x1, x2⟩, ⟨x3, x4⟩, x5, x6⟩ := HK.out wb HBB.out; clear hbb)
        | (go_at_call 30; (with_reducible refine ((HTO.out _ HBB.out).mono ?_)); rintro e wc ⟨A2, c2, rfl, hbc⟩; have HBC := Lib.hid (Bt HBB.out hbc); clear x0 x1 x2 x3 x4 x5 x6; obtain ⟨⟨x0, x1, x2⟩, ⟨x3, x4⟩, x5, x6⟩ := HK.out wc HBC.out; clear hbc)
        | (go_at_call 31; (with_reducible refine ((HLE.out _ HBC.out).mono ?_)); rintro e wd ⟨A3, n3, c3, y1, y2, rfl, hbd⟩; have HBD := Lib.hid (Bt HBC.out hbd); clear x0 x1 x2 x3 x4 x5 x6; obtain ⟨⟨x0, x1, x2⟩, ⟨x3, x4⟩, x5, x6⟩ := HK.out (wd.alloc (.cells #[.slice A3 n3 c3, .int .i64 y1, .int .i64 y2] 56)) (Ba HBD.out _); clear hbd)
        | (go_at_call 18; (with_reducible refine ((HCU.out _ (Ba HBD.out _)).mono ?_)); rintro e we ⟨A4, c4, rfl, hbe⟩; have HBE := Lib.hid (Bt (Ba HBD.out _) hbe); clear x0 x1 x2 x3 x4 x5 x6; obtain ⟨⟨x0, x1, x2⟩, ⟨x3, x4⟩, x5, x6⟩ := HK.out we HBE.out; clear hbe)
        | (go_at_call 15; (with_reducible refine ((HTX.out _ HBE.out).mono ?_)); rintro e wf ⟨rfl, hbf⟩; have HBF := Lib.hid (Bt HBE.out hbf); clear x0 x1 x2 x3 x4 x5 x6; obtain ⟨⟨x0, x1, x2⟩, ⟨x3, x4⟩, x5, x6⟩ := HK.out wf HBF.out; clear hbf)
        | (go_at_call 28; (with_reducible refine ((HWK.out _ HP3.out).mono ?_)); rintro e w4 ⟨rfl, hb4⟩; have HP4 := Lib.hid (Bt HP3.out hb4); clear x0 x1 x2 x3 x4 x5 x6; obtain ⟨⟨x0, x1, x2⟩, ⟨x3, x4⟩, x5, x6⟩ := HK.out w4 HP4.out; clear hb4)
        | (go_at_call 27; (with_reducible refine ((HRT.out _ HP2.out).mono ?_)); rintro e w3 ⟨rfl, hb3⟩; have HP3 := Lib.hid (Bt HP2.out hb3); clear x0 x1 x2 x3 x4 x5 x6; obtain ⟨⟨x0, x1, x2⟩, ⟨x3, x4⟩, x5, x6⟩ := HK.out w3 HP3.out; clear hb3)
        | (go_at_call 11; (with_reducible refine ((HKN.out _ (B0 w1)).mono ?_)); rintro e w2 ⟨rfl, hb2⟩; have HP2 := Lib.hid hb2; clear x0 x1 x2 x3 x4 x5 x6; obtain ⟨⟨x0, x1, x2⟩, ⟨x3, x4⟩, x5, x6⟩ := HK.out w2 hb2; clear hb2))
      go_ret
      exact ⟨by simp, Bt HB1.out HBF.out⟩
  · obtain ⟨o, ho⟩ : ∃ o, Cou.rightF a = o := ⟨_, rfl⟩
    rw [if_neg hr] at hb0
    rw [ho] at hb0 hr HRT
    have hbo := hb0
    clear ho
    have hbc : Cha.beginF a [(k1, k2), (t1, t2)] = o := by rw [hbk, hbo, if_neg hr]
    rw [hbo, if_neg hr] at hFO hTX hal
    rw [hbc, if_neg hr] at hto hle hcu
    rw [hal] at hAL
    rw [hto] at hTO
    rw [hle] at hLE
    rw [hcu] at hCU
    dsimp only [Option.isSome, List.length_nil] at hAL hTO hLE hCU
    have d5 : (o == 0) = false := by simpa using hr
    have d6 : (o != 0) = true := by simpa using hr
    clear hr hbo hbc
    have HFO := Lib.hid hFO
    have HAL := Lib.hid hAL
    have HTO := Lib.hid hTO
    have HLE := Lib.hid hLE
    have HCU := Lib.hid hCU
    have HTX := Lib.hid hTX
    clear hFO hAL hTO hLE hCU hTX hal hto hle hcu hb0 hbk h16 h3 h4
    generalize a.divs.length = dl at *
    generalize a.cps.length = cl at *
    generalize a.drawn = dr at *
    go_enter Tryd.func7, Tryd.ntmps7
    go_upto_region 1 with fail
    rw [HW1.out, HBX.out, HE1.out, HE2.out]
    go_wp2_with (first
      | (go_at_call 14; (with_reducible refine ((HFO.out _ HP3.out).mono ?_)); rintro e wa ⟨v0, rfl, -, hba⟩; have HBA := Lib.hid (Bt HP3.out hba); clear x0 x1 x2 x3 x4 x5 x6; obtain ⟨⟨x0, x1, x2⟩, ⟨x3, x4⟩, x5, x6⟩ := HK.out wa HBA.out; clear hba)
      | (go_at_call 29; (with_reducible refine ((HAL.out _ HBA.out).mono ?_)); rintro e wb ⟨A1, c1, rfl, hbb⟩; have HBB := Lib.hid (Bt HBA.out hbb); clear x0 x1 x2 x3 x4 x5 x6; obtain ⟨⟨x0, x1, x2⟩, ⟨x3, x4⟩, x5, x6⟩ := HK.out wb HBB.out; clear hbb)
      | (go_at_call 30; (with_reducible refine ((HTO.out _ HBB.out).mono ?_)); rintro e wc ⟨A2, c2, rfl, hbc⟩; have HBC := Lib.hid (Bt HBB.out hbc); clear x0 x1 x2 x3 x4 x5 x6; obtain ⟨⟨x0, x1, x2⟩, ⟨x3, x4⟩, x5, x6⟩ := HK.out wc HBC.out; clear hbc)
      | (go_at_call 31; (with_reducible refine ((HLE.out _ HBC.out).mono ?_)); rintro e wd ⟨A3, n3, c3, y1, y2, rfl, hbd⟩; have HBD := Lib.hid (Bt HBC.out hbd); clear x0 x1 x2 x3 x4 x5 x6; obtain ⟨⟨x0, x1, x2⟩, ⟨x3, x4⟩, x5, x6⟩ := HK.out (wd.alloc (.cells #[.slice A3 n3 c3, .int .i64 y1, .int .i64 y2] 56)) (Ba HBD.out _); clear hbd)
      | (go_at_call 18; (with_reducible refine ((HCU.out _ (Ba HBD.out _)).mono ?_)); rintro e we ⟨A4, c4, rfl, hbe⟩; have HBE := Lib.hid (Bt (Ba HBD.out _) hbe); clear x0 x1 x2 x3 x4 x5 x6; obtain ⟨⟨x0, x1, x2⟩, ⟨x3, x4⟩, x5, x6⟩ := HK.out we HBE.out; clear hbe)
      | (go_at_call 15; (with_reducible refine ((HTX.out _ HBE.out).mono ?_)); rintro e wf ⟨rfl, hbf⟩; have HBF := Lib.hid (Bt HBE.out hbf); clear x0 x1 x2 x3 x4 x5 x6; obtain ⟨⟨x0, x1, x2⟩, ⟨x3, x4⟩, x5, x6⟩ := HK.out wf HBF.out; clear hbf)
      | (go_at_call 27; (with_reducible refine ((HRT.out _ HP2.out).mono ?_)); rintro e w3 ⟨rfl, hb3⟩; have HP3 := Lib.hid (Bt HP2.out hb3); clear x0 x1 x2 x3 x4 x5 x6; obtain ⟨⟨x0, x1, x2⟩, ⟨x3, x4⟩, x5, x6⟩ := HK.out w3 HP3.out; clear hb3)
      | (go_at_call 11; (with_reducible refine ((HKN.out _ (B0 w1)).mono ?_)); rintro e w2 ⟨rfl, hb2⟩; have HP2 := Lib.hid hb2; clear x0 x1 x2 x3 x4 x5 x6; obtain ⟨⟨x0, x1, x2⟩, ⟨x3, x4⟩, x5, x6⟩ := HK.out w2 hb2; clear hb2))
    go_ret
    exact ⟨by simp, Bt HB1.out HBF.out⟩
end Go.Proofs.YtahlfndlkfoikaaDoor
