/- Walks over the statements of hitting: HittingChecks. -/
import Derived.Test.YtiochodepgldpaaDoorCe
import Derived.Test.YtiochodepgldpaaDoorCr
import Derived.Test.YtiochodepgldpaaDoorHK
namespace Go.Proofs.YtiochodepgldpaaDoor
open Go Go.RowKit
theorem bothF_err {n : Int} {ls : List (List Int)} (l : List Int) (h : Hit.checkF n ls ≠ 0) : bothF n ls l = Hit.checkF n ls := if_pos h
set_option maxRecDepth 100000 in
set_option maxHeartbeats 4000000 in
theorem law_checks (n : Int) (vs : Value) (ls : List (List Int)) (w : World) (F : Nat → Prop) (hF : ∀ b, F b → b < w.heap.size) (hr : SlII F w vs ls) (hT : Tab32 w) :
    Calls Tryd.prog 8 #[.agg #[.int .i64 n, vs]] w fun e w' => e = .returned (.bool true) ∧ Below w.heap.size w w' := by
  have hK : ∀ W, Below w.heap.size w W → Calls Tryd.prog 11 #[] W fun e w' => e = .returned (.bool true) ∧ Below W.heap.size W w' := fun W hW => known_any W (hT.below hW)
  have kp : ∀ W, Below w.heap.size w W → (∀ b, F b → b < W.heap.size) ∧ SlII F W vs ls := fun W hW => ⟨fun b hb => Nat.lt_of_lt_of_le (hF b hb) hW.size, hr.keep (Agree.below hW hF)⟩
  have hFe := fun W hW => few_any n vs ls W F (kp W hW).1 (kp W hW).2
  have hCr := fun W hW => checkR_any n vs ls W F (kp W hW).1 (kp W hW).2
  have hCh := fun W hW => check_any n vs ls W F (kp W hW).1 (kp W hW).2
  have hH := fun W (hW : Below w.heap.size w W) (he : Hit.checkF n ls ≠ 0) => hits_err n vs (.slice none 0 0) ls [] W F F (kp W hW).1 (kp W hW).1 (kp W hW).2 Sl.nil_ (by rw [bothF_err [] he]; exact he)
  have hR := fun W (hW : Below w.heap.size w W) (he : Hit.checkF n ls ≠ 0) => reduce_err n vs (.slice none 0 0) ls [] W F F (kp W hW).1 (kp W hW).1 (kp W hW).2 Sl.nil_ (by rw [bothF_err [] he]; exact he)
  have hL := fun W (hW : Below w.heap.size w W) (he : Hit.checkF n ls ≠ 0) => least_err n vs ls W F (kp W hW).1 (kp W hW).2 he
  have hA := fun W (hW : Below w.heap.size w W) (he : Hit.checkF n ls ≠ 0) => all_err n vs 1 ls W F (kp W hW).1 (kp W hW).2 he
  have hCo := fun W (hW : Below w.heap.size w W) (he : Hit.checkF n ls ≠ 0) => count_err n vs ls W F (kp W hW).1 (kp W hW).2 he
  have hP := fun W (hW : Below w.heap.size w W) (he : Hit.checkF n ls ≠ 0) => prove_err n vs 0 ls W F (kp W hW).1 (kp W hW).2 he
  have hD := fun W (hW : Below w.heap.size w W) (he : Hit.checkF n ls ≠ 0) => disjoint_err n vs ls W F (kp W hW).1 (kp W hW).2 he
  have hV := fun W (hW : Below w.heap.size w W) (he : Hit.checkF n ls ≠ 0) => verify_err n vs 0 none 0 0 ls W F (kp W hW).1 (kp W hW).2 he
  have hB := fun (he : Hit.checkF n ls ≠ 0) => bothF_err (n := n) [] he
  obtain ⟨As, cs, rfl, _⟩ := hr.open
  have HK := Lib.hid hK
  have HFe := Lib.hid hFe
  have HCr := Lib.hid hCr
  have HCh := Lib.hid hCh
  have HH := Lib.hid hH
  have HR := Lib.hid hR
  have HL := Lib.hid hL
  have HA := Lib.hid hA
  have HCo := Lib.hid hCo
  have HP := Lib.hid hP
  have HD := Lib.hid hD
  have HV := Lib.hid hV
  have HBo := Lib.hid hB
  clear hK kp hFe hCr hCh hH hR hL hA hCo hP hD hV hB hr hT
  go_enter Tryd.func8, Tryd.ntmps8
  go_upto_region 1 with fail
  have hc0 : (w.alloc (.cells #[.int .i64 n, .slice As ls.length cs] 28)).cell? ⟨w.heap.size, 0, none⟩ = some (.int .i64 n) := by simp [go_sem]
  have hc1 : (w.alloc (.cells #[.int .i64 n, .slice As ls.length cs] 28)).cell? ⟨w.heap.size, 1, none⟩ = some (.slice As ls.length cs) := by simp [go_sem]
  have hs1 : w.heap.size < (w.alloc (.cells #[.int .i64 n, .slice As ls.length cs] 28)).heap.size := by simp
  have hb0 := Ba (B0 w) (.cells #[.int .i64 n, .slice As ls.length cs] 28)
  generalize (w.alloc (.cells #[.int .i64 n, .slice As ls.length cs] 28)) = w0 at *
  have k0 : ∀ W, Below w0.heap.size w0 W → W.cell? ⟨w.heap.size, 0, none⟩ = some (.int .i64 n) ∧ W.cell? ⟨w.heap.size, 1, none⟩ = some (.slice As ls.length cs) := fun W hW => ⟨(Bc hW hs1).trans hc0, (Bc hW hs1).trans hc1⟩
  have K0 := Lib.hid k0
  have HB0 := Lib.hid hb0
  have hbw : ∀ W, Below w0.heap.size w0 W → Below w.heap.size w W := fun W hW => HB0.out.trans (hW.mono HB0.out.size)
  have HW := Lib.hid hbw
  clear k0 hb0 hbw
  cases hfw : fewF ls with
  | false =>
    rw [hfw] at HFe
    clear hfw
    go_wp2_with (first
      | (go_at_call 11; (with_reducible refine ((HK.out _ (HW.out _ (B0 w0))).mono ?_)); rintro e w1 ⟨rfl, hb1⟩; have HB1 := Lib.hid hb1; have k10 := (K0.out _ hb1).1; have k11 := (K0.out _ hb1).2; clear hb1 hc0 hc1)
      | (go_at_call 27; (with_reducible refine ((HFe.out _ (HW.out _ HB1.out)).mono ?_)); rintro e w2 ⟨rfl, hb2⟩; have HB2 := Lib.hid (Bt HB1.out hb2); clear hb2)
      | (go_at_call 11; (with_reducible refine ((HK.out _ (HW.out _ HB2.out)).mono ?_)); rintro e w3 ⟨rfl, hb3⟩; have HB3 := Lib.hid (Bt HB2.out hb3); clear hb3))
    go_ret
    exact ⟨rfl, HW.out _ HB3.out⟩
  | true =>
    rw [hfw] at HFe
    clear hfw
    go_upto_region 4 with (first
      | (go_at_call 11; (with_reducible refine ((HK.out _ (HW.out _ (B0 w0))).mono ?_)); rintro e w1 ⟨rfl, hb1⟩; have HB1 := Lib.hid hb1; have k10 := (K0.out _ hb1).1; have k11 := (K0.out _ hb1).2; clear hb1 hc0 hc1)
      | (go_at_call 27; (with_reducible refine ((HFe.out _ (HW.out _ HB1.out)).mono ?_)); rintro e w2 ⟨rfl, hb2⟩; have HB2 := Lib.hid (Bt HB1.out hb2); have k20 := (K0.out _ HB2.out).1; have k21 := (K0.out _ HB2.out).2; clear hb2 k10 k11)
      | (go_at_call 28; (with_reducible refine ((HCr.out _ (HW.out _ HB2.out)).mono ?_)); rintro e w3 ⟨rfl, hb3⟩; have HB3 := Lib.hid (Bt HB2.out hb3); have k30 := (K0.out _ HB3.out).1; have k31 := (K0.out _ HB3.out).2; clear hb3 k20 k21))
    by_cases he : Hit.checkF n ls = 0
    · rw [he] at HCh
      rw [he]
      clear he
      go_wp2_with (go_at_call 29; (with_reducible refine ((HCh.out _ (HW.out _ HB3.out)).mono ?_)); rintro e w4 ⟨rfl, hb4⟩; have HB4 := Lib.hid (Bt HB3.out hb4); clear hb4)
      go_ret
      exact ⟨rfl, HW.out _ HB4.out⟩
    · have hbo := HBo.out he
      have H2H := Lib.hid fun W hW => HH.out W hW he
      have H2R := Lib.hid fun W hW => HR.out W hW he
      have H2L := Lib.hid fun W hW => HL.out W hW he
      have H2A := Lib.hid fun W hW => HA.out W hW he
      have H2C := Lib.hid fun W hW => HCo.out W hW he
      have H2P := Lib.hid fun W hW => HP.out W hW he
      have H2D := Lib.hid fun W hW => HD.out W hW he
      have H2V := Lib.hid fun W hW => HV.out W hW he
      rw [hbo] at H2H H2R
      have he0 : (Hit.checkF n ls == 0) = false := by simpa using he
      clear hbo HBo HH HR HL HA HCo HP HD HV
      generalize Hit.checkF n ls = er at *
      clear he
      go_upto_region 14 with (first
        | (go_at_call 29; (with_reducible refine ((HCh.out _ (HW.out _ HB3.out)).mono ?_)); rintro e w4 ⟨rfl, hb4⟩; have HB4 := Lib.hid (Bt HB3.out hb4); have k40 := (K0.out _ HB4.out).1; have k41 := (K0.out _ HB4.out).2; clear hb4 k30 k31)
        | (go_at_call 30; (with_reducible refine ((H2H.out _ (HW.out _ HB4.out)).mono ?_)); rintro e w5 ⟨rfl, hb5⟩; have HB5 := Lib.hid (Bt HB4.out hb5); have k50 := (K0.out _ HB5.out).1; have k51 := (K0.out _ HB5.out).2; clear hb5 k40 k41)
        | (go_at_call 31; (with_reducible refine ((H2R.out _ (HW.out _ HB5.out)).mono ?_)); rintro e w6 ⟨rfl, hb6⟩; have HB6 := Lib.hid (Bt HB5.out hb6); have k60 := (K0.out _ HB6.out).1; have k61 := (K0.out _ HB6.out).2; clear hb6 k50 k51)
        | (go_at_call 14; (with_reducible refine ((H2L.out _ (HW.out _ HB6.out)).mono ?_)); rintro e w7 ⟨rfl, hb7⟩; have HB7 := Lib.hid (Bt HB6.out hb7); have k70 := (K0.out _ HB7.out).1; have k71 := (K0.out _ HB7.out).2; clear hb7 k60 k61)
        | (go_at_call 25; (with_reducible refine ((H2A.out _ (HW.out _ HB7.out)).mono ?_)); rintro e w8 ⟨rfl, hb8⟩; have HB8 := Lib.hid (Bt HB7.out hb8); have k80 := (K0.out _ HB8.out).1; have k81 := (K0.out _ HB8.out).2; clear hb8 k70 k71)
        | (go_at_call 24; (with_reducible refine ((H2C.out _ (HW.out _ HB8.out)).mono ?_)); rintro e w9 ⟨rfl, hb9⟩; have HB9 := Lib.hid (Bt HB8.out hb9); have k90 := (K0.out _ HB9.out).1; have k91 := (K0.out _ HB9.out).2; clear hb9 k80 k81)
        | (go_at_call 18; (with_reducible refine ((H2P.out _ (HW.out _ HB9.out)).mono ?_)); rintro e wA ⟨rfl, hbA⟩; have HBA := Lib.hid (Bt HB9.out hbA); have kA0 := (K0.out _ HBA.out).1; have kA1 := (K0.out _ HBA.out).2; clear hbA k90 k91))
      go_wp2_with (first
        | (go_at_call 13; (with_reducible refine ((H2D.out _ (HW.out _ HBA.out)).mono ?_)); rintro e wC ⟨rfl, hbC⟩; have HBC := Lib.hid (Bt HBA.out hbC); have kC0 := (K0.out _ HBC.out).1; have kC1 := (K0.out _ HBC.out).2; clear hbC kA0 kA1)
        | (go_at_call 23; (with_reducible refine ((H2V.out _ (HW.out _ HBC.out)).mono ?_)); rintro e wD ⟨rfl, hbD⟩; have HBD := Lib.hid (Bt HBC.out hbD); clear hbD))
      go_ret
      exact ⟨rfl, HW.out _ HBD.out⟩
end Go.Proofs.YtiochodepgldpaaDoor
