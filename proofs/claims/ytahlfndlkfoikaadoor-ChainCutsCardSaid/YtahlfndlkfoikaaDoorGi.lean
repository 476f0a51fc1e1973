/- The statement of cuts, walked. -/
import Derived.Test.YtahlfndlkfoikaaDoorGj
import Derived.Test.YtahlfndlkfoikaaDoorGh
import Derived.Test.YtahlfndlkfoikaaDoorGa
import Derived.Test.YtahlfndlkfoikaaDoorEo
namespace Go.Proofs.YtahlfndlkfoikaaDoor
open Go Go.RowKit Go.Shelf
/-- What holds behind each operation of the region of two starts. -/
def FK27 (lim : Nat) (AC : Value) (k1 k2 t1 t2 u1 u2 : Int) (j : Nat) (s : Nat → Value) (w : World) : Prop :=
  match j with
  | 0 => s 27 = AC
  | 1 => s 28 = .int .u8 k1
  | 2 => s 29 = .agg #[.int .i64 t1, .int .i64 t2]
  | 3 => s 30 = AC
  | 4 => s 31 = .int .u8 k2
  | 5 => s 32 = .agg #[.int .i64 u1, .int .i64 u2]
  | 6 => ∃ b, s 8 = .pointer (some ⟨b, 0, none⟩) ∧ lim ≤ b ∧ ∃ x y, Blk w b 36 #[x, y]
  | 7 => ∃ b, s 9 = .pointer (some ⟨b, 0, none⟩) ∧ lim ≤ b ∧ ∃ x y, Blk w b 36 #[x, y]
  | 8 => ∃ b, s 8 = .pointer (some ⟨b, 0, none⟩) ∧ lim ≤ b ∧ Blk w b 36 #[.int .i64 t1, .int .i64 t2]
  | 9 => ∃ b, s 9 = .pointer (some ⟨b, 0, none⟩) ∧ lim ≤ b ∧ Blk w b 36 #[.int .i64 u1, .int .i64 u2]
  | _ => True
def VK27 (j : Nat) : List Nat := match j with
  | 0 => [27] | 1 => [28] | 2 => [29] | 3 => [30] | 4 => [31] | 5 => [32] | 6 => [8] | 7 => [9] | 8 => [8] | 9 => [9] | _ => []
def EK27 (j : Nat) : Bool := j == 8 || j == 9
theorem FK27_V (lim : Nat) (AC : Value) (k1 k2 t1 t2 u1 u2 : Int) (j : Nat) (s s' : Nat → Value) (w : World) (h : ∀ t, t ∈ VK27 j → s' t = s t) (hF : FK27 lim AC k1 k2 t1 t2 u1 u2 j s w) : FK27 lim AC k1 k2 t1 t2 u1 u2 j s' w := by
  match j with
  | 0 => unfold FK27 at hF ⊢; simp only at hF ⊢; rw [h 27 (by simp [VK27])]; exact hF
  | 1 => unfold FK27 at hF ⊢; simp only at hF ⊢; rw [h 28 (by simp [VK27])]; exact hF
  | 2 => unfold FK27 at hF ⊢; simp only at hF ⊢; rw [h 29 (by simp [VK27])]; exact hF
  | 3 => unfold FK27 at hF ⊢; simp only at hF ⊢; rw [h 30 (by simp [VK27])]; exact hF
  | 4 => unfold FK27 at hF ⊢; simp only at hF ⊢; rw [h 31 (by simp [VK27])]; exact hF
  | 5 => unfold FK27 at hF ⊢; simp only at hF ⊢; rw [h 32 (by simp [VK27])]; exact hF
  | 6 => unfold FK27 at hF ⊢; simp only at hF ⊢; rw [h 8 (by simp [VK27])]; exact hF
  | 7 => unfold FK27 at hF ⊢; simp only at hF ⊢; rw [h 9 (by simp [VK27])]; exact hF
  | 8 => unfold FK27 at hF ⊢; simp only at hF ⊢; rw [h 8 (by simp [VK27])]; exact hF
  | 9 => unfold FK27 at hF ⊢; simp only at hF ⊢; rw [h 9 (by simp [VK27])]; exact hF
  | _ + 10 => trivial
theorem FK27_below (lim : Nat) (AC : Value) (k1 k2 t1 t2 u1 u2 : Int) (j : Nat) (s : Nat → Value) (w w' : World) (hb : Below w.heap.size w w') (hF : FK27 lim AC k1 k2 t1 t2 u1 u2 j s w) : FK27 lim AC k1 k2 t1 t2 u1 u2 j s w' := by
  match j with
  | 0 => exact hF
  | 1 => exact hF
  | 2 => exact hF
  | 3 => exact hF
  | 4 => exact hF
  | 5 => exact hF
  | 6 => obtain ⟨b, q1, q2, x, y, q3⟩ := hF; exact ⟨b, q1, q2, x, y, q3.below hb q3.lt⟩
  | 7 => obtain ⟨b, q1, q2, x, y, q3⟩ := hF; exact ⟨b, q1, q2, x, y, q3.below hb q3.lt⟩
  | 8 => obtain ⟨b, q1, q2, q3⟩ := hF; exact ⟨b, q1, q2, q3.below hb q3.lt⟩
  | 9 => obtain ⟨b, q1, q2, q3⟩ := hF; exact ⟨b, q1, q2, q3.below hb q3.lt⟩
  | _ + 10 => trivial
set_option maxRecDepth 100000 in
set_option maxHeartbeats 8000000 in
theorem law_cuts (p : Cou.Pl) (hp : PlOk p) (vl : Value) (key : Nat) (hkey : key < 256) (other : Nat) (hother : other < 256) (w : World) (F : Nat → Prop) (hF : ∀ b, F b → b < w.heap.size) (hl : SlLk F w vl p.links) (hW : WOk w) :
    Calls Tryd.prog 4 #[.agg (plCells p vl), .int .u8 (key : Int), .int .u8 (other : Int)] w fun e w' => e = .returned (.bool true) ∧ Below w.heap.size w w' := by
  have HTT := Lib.hid hW
  have HK := Lib.hid (fun W (hb : Below w.heap.size w W) => (hW.below hb).known)
  have HM := Lib.hid (fun W (hb : Below w.heap.size w W) => make_any p hp vl W F (fun b h => Nat.lt_of_lt_of_le (hF b h) hb.size) (Sl.keep hl (Agree.below hb hF) fun _ _ h => h))
  obtain ⟨Al, al, hvl, _, hll, _⟩ := id hl
  have hok : Cou.Ok (Cou.makeF p) := Cou.right_ok (Cou.make_right hp.len)
  have hrt : Cou.rightF (Cou.makeF p) = 0 := Cou.make_right hp.len
  have hcl4 : (Cou.makeF p).cps.length ≤ 4 := makeF_cps
  have hdr := makeF_drawn hp
  have hsm := (makeF_divs (p := p)).1
  have hd3 := (makeF_divs (p := p)).2
  have hn1 := makeF_pos hp.len
  subst hvl
  unfold plCells at *
  obtain ⟨ll, hll9⟩ : ∃ ll, p.links.length = ll := ⟨_, rfl⟩
  rw [hll9] at hll HM ⊢
  generalize ((p.dv.getD 0 (0, 0)).1 : Int) = d0 at *
  generalize ((p.dv.getD 0 (0, 0)).2 : Int) = d1 at *
  generalize ((p.dv.getD 1 (0, 0)).1 : Int) = d2 at *
  generalize ((p.dv.getD 1 (0, 0)).2 : Int) = d3 at *
  generalize ((p.dv.getD 2 (0, 0)).1 : Int) = d4 at *
  generalize ((p.dv.getD 2 (0, 0)).2 : Int) = d5 at *
  generalize (p.more : Int) = mo at *
  generalize (p.drawn : Int) = dr at *
  generalize Cou.makeF p = a at *
  try dsimp only
  clear hl hll9 hp
  obtain ⟨w1, hw1⟩ : ∃ w1 : World, (w.alloc (.cells #[.int .u8 d0, .int .u8 d1, .int .u8 d2, .int .u8 d3, .int .u8 d4, .int .u8 d5, .int .u8 mo, .slice Al ll al, .int .u8 dr] 26)) = w1 := ⟨_, rfl⟩
  obtain ⟨pb, hpb⟩ : ∃ pb, w.heap.size = pb := ⟨_, rfl⟩
  have PB : Blk w1 pb 26 #[.int .u8 d0, .int .u8 d1, .int .u8 d2, .int .u8 d3, .int .u8 d4, .int .u8 d5, .int .u8 mo, .slice Al ll al, .int .u8 dr] := by
    rw [← hw1, ← hpb]; exact Blk.new w _ _
  have B1 : Below w.heap.size w w1 := by rw [← hw1]; exact Ba (B0 w) _
  have HPB := Lib.hid PB
  have HB1 := Lib.hid B1
  have HW1 := Lib.hid hw1
  have HPP := Lib.hid hpb
  clear PB  B1 hw1 hpb hW
  go_enter Tryd.func4, Tryd.ntmps4
  go_upto_region 1 with fail
  rw [HW1.out, HPP.out]
  by_cases h4 : 4 < ll
  · have d4' : decide ((4 : Int) < ll) = true := decide_eq_true (by omega)
    go_wp2_with (first
      | (go_at_call 11; (with_reducible refine ((HK.out _ HB2.out).mono ?_)); rintro e w3 ⟨rfl, hb3⟩; have HB3 := Lib.hid (Bt HB2.out hb3); clear hb3)
      | (go_at_call 11; (with_reducible refine ((HK.out _ HB1.out).mono ?_)); rintro e w2 ⟨rfl, hb2⟩; have HB2 := Lib.hid (Bt HB1.out hb2); have k7 := (HPB.out.below hb2 HPB.out.lt).cell 7; simp only [List.getElem?_toArray, List.getElem?_cons_zero, List.getElem?_cons_succ] at k7; clear hb2))
    go_ret
    exact ⟨rfl, HB3.out⟩
  · have d4' : decide ((4 : Int) < ll) = false := decide_eq_false (by omega)
    go_upto_region 3 with (go_at_call 11; (with_reducible refine ((HK.out _ HB1.out).mono ?_)); rintro e w2 ⟨rfl, hb2⟩; have HB2 := Lib.hid (Bt HB1.out hb2); have HP2 := Lib.hid (HPB.out.below hb2 HPB.out.lt);  have k7 := HP2.out.cell 7; simp only [List.getElem?_toArray, List.getElem?_cons_zero, List.getElem?_cons_succ] at k7; clear hb2)
    have k0 := HP2.out.cell 0
    have k1 := HP2.out.cell 1
    have k2 := HP2.out.cell 2
    have k3 := HP2.out.cell 3
    have k4 := HP2.out.cell 4
    have k5 := HP2.out.cell 5
    have k6 := HP2.out.cell 6
    have k8 := HP2.out.cell 8
    simp only [List.getElem?_toArray, List.getElem?_cons_zero, List.getElem?_cons_succ] at k0 k1 k2 k3 k4 k5 k6 k8
    go_upto_region 4 with (go_at_call 12; (with_reducible refine ((HM.out _ HB2.out).mono ?_)); rintro e w3 ⟨vd, vc, rfl, hA3, hb3⟩; obtain ⟨Ad, cd, rfl, _, _⟩ := id hA3.dv.open; obtain ⟨Ac, cc, rfl, _, _⟩ := id hA3.cp.open; have HA3 := Lib.hid hA3; have HB3 := Lib.hid (Bt HB2.out hb3);  clear hb3 hA3)
    obtain ⟨W4, hW4⟩ : ∃ W4 : World, w3.alloc (.cells #[.slice Ad a.divs.length cd, .slice Ac a.cps.length cc, .int .u64 a.drawn] 33) = W4 := ⟨_, rfl⟩
    obtain ⟨ab, hab⟩ : ∃ ab, w3.heap.size = ab := ⟨_, rfl⟩
    have AB : Blk W4 ab 33 #[.slice Ad a.divs.length cd, .slice Ac a.cps.length cc, .int .u64 a.drawn] := by rw [← hW4, ← hab]; exact Blk.new _ _ _
    have B4 : Below w3.heap.size w3 W4 := by rw [← hW4]; exact Ba (B0 w3) _
    have A4 := HA3.out.on B4
    rw [hW4, hab]
    have hB04 := Bt HB3.out B4
    have HKE := Lib.hid (fun W (hb : Below W4.heap.size W4 W) => (show W.cell? ⟨ab, 0, none⟩ = some (.slice Ad a.divs.length cd) ∧ W.cell? ⟨ab, 1, none⟩ = some (.slice Ac a.cps.length cc) ∧ W.cell? ⟨ab, 2, none⟩ = some (.int .u64 a.drawn) from ⟨(Bc hb AB.lt).trans (AB.cell 0), (Bc hb AB.lt).trans (AB.cell 1), (Bc hb AB.lt).trans (AB.cell 2)⟩))
    have HTW := Lib.hid (fun W (hb : Below W4.heap.size W4 W) => HTT.out.below (Bt hB04 hb))
    have HAW := Lib.hid (fun W (hb : Below W4.heap.size W4 W) => A4.on hb)
    have HB4 := Lib.hid hB04
    have HOK := Lib.hid hok
    have HRT := Lib.hid hrt
    have HSM := Lib.hid hsm
    have HAB := Lib.hid AB
    clear AB B4 A4  hW4 hab hB04 hok hrt hsm HA3 HB3  HP2  HPB  HK HM HTT k0 k1 k2 k3 k4 k5 k6 k7 k8
    obtain ⟨x0, x1, x2⟩ := HKE.out W4 (B0 W4)
    obtain ⟨c1, hc1⟩ : ∃ c, Cha.startF a key = c := ⟨_, rfl⟩
    obtain ⟨c2, hc2⟩ : ∃ c, Cha.startF a other = c := ⟨_, rfl⟩
    have hi1 : Cou.InA a c1 := by rw [← hc1]; exact Cha.start_in HOK.out hn1 key
    have hi2 : Cou.InA a c2 := by rw [← hc2]; exact Cha.start_in HOK.out hn1 other
    have hw1 := Cha.wrong_in hi1
    have hw2 := Cha.wrong_in hi2
    have hbe : Cha.beginF a [c1, c2] = 0 := by unfold Cha.beginF Cha.wrongsF Cha.wrongsF Cha.wrongsF; rw [if_pos HRT.out, if_pos hw1, if_pos hw2]
    have hst1 := fun W (hb : Below W4.heap.size W4 W) => start_any a HOK.out hn1 (.slice Ad a.divs.length cd) (.slice Ac a.cps.length cc) key hkey a.drawn W _ (HAW.out W hb)
    have hst2 := fun W (hb : Below W4.heap.size W4 W) => start_any a HOK.out hn1 (.slice Ad a.divs.length cd) (.slice Ac a.cps.length cc) other hother a.drawn W _ (HAW.out W hb)
    rw [hc1] at hst1
    rw [hc2] at hst2
    have HRX := Lib.hid (fun (wo : Nat) (hwo : wo < 2 ^ 64) W (hb : Below W4.heap.size W4 W) => reaches_any a HRT.out (.slice Ad a.divs.length cd) (.slice Ac a.cps.length cc) c1 c2 hw1 wo hwo W _ (HAW.out W hb) (HTW.out W hb).tab (HTW.out W hb).g)
    have hdn : a.drawn < 2 ^ a.cps.length := HOK.out.drawn
    have hn16 : (2 : Nat) ^ a.cps.length ≤ 16 := Nat.pow_le_pow_right (by decide) hcl4
    have hall : Cha.reachB a c1 c2 a.drawn = false := by
      have h := Cha.reach_all HOK.out hdr c1 c2
      rwa [Cha.comb_or a.drawn (by omega)] at h
    have hml : ¬ 16 < (Hit.members a.drawn).length := by
      rw [Cha.size_len a.drawn (by omega)]
      have : ∀ s < 16, Cha.sizeF 64 s ≤ 16 := by decide +kernel
      have := this a.drawn (by omega)
      omega
    have hcr : Cha.cutR a c1 c2 = if Cha.reachB a c1 c2 0 = true then (0, (Cha.cutL (Cha.reachB a c1 c2) (Hit.members a.drawn)).getD []) else (18, []) := by unfold Cha.cutR; rw [if_pos hbe, if_neg hml]
    have HCU := Lib.hid (fun W (hb : Below W4.heap.size W4 W) => Cut_any a (.slice Ad a.divs.length cd) (.slice Ac a.cps.length cc) hdr c1 c2 W _ (HAW.out W hb) (HTW.out W hb).tab (HTW.out W hb).g)
    obtain ⟨R, hR⟩ : ∃ R, Cha.reachB a c1 c2 = R := ⟨_, rfl⟩
    have hrx := HRX.out
    rw [hR] at hcr hall hrx
    replace HRX := Lib.hid hrx
    obtain ⟨t1, t2⟩ := c1
    obtain ⟨u1, u2⟩ := c2
    have HST1 := Lib.hid hst1
    have HST2 := Lib.hid hst2
    have HHL := Lib.hid hall
    have HDN := Lib.hid hdn
    clear hst1 hst2 hc1 hc2 hi1 hi2 hw1 hw2 hbe HAW HTW hml hall hrx hR HSM HRT HOK
    refine region_blocks (by kernel_rfl) ?_
    refine from_lawS 10 EK27 (fun _ s W => BG W4 s W) (FK27 W4.heap.size (.agg #[.slice Ad a.divs.length cd, .slice Ac a.cps.length cc, .int .u64 a.drawn]) (key : Nat) (other : Nat) t1 t2 u1 u2) VK27 (by kernel_rfl) rfl (FK27_V _ _ _ _ _ _ _ _) (by kernel_rfl) (by kernel_rfl) (BG.start (fun b h => by unfold sl at h; simp [undef] at h) (fun b h => by unfold sl at h; simp [undef] at h)) ⟨?_, ?_, ?_, ?_, ?_, ?_, ?_, ?_, ?_, ?_, trivial⟩ ?_
    · refine OpFactS.value rfl (FK27_below _ _ _ _ _ _ _ _) (fun L s s' w w' h hb hG => BG.keep (h 8 (by simp)) (h 9 (by simp)) hb hG) fun L a_ w2 hl hf D hb => ?_
      have h0 : sl a_ 7 = .pointer (some ⟨ab, 0, none⟩) := hf 7 (by kernel_rfl)
      have es := HKE.out w2 hb.1
      refine ⟨.agg #[.slice Ad a.divs.length cd, .slice Ac a.cps.length cc, .int .u64 a.drawn], w2, ?_, B0 _, fun s _ h => h 27 rfl⟩
      unfold sl at h0
      simp at h0
      simp [go_sem, h0, es]
    · refine OpFactS.value rfl (FK27_below _ _ _ _ _ _ _ _) (fun L s s' w w' h hb hG => BG.keep (h 8 (by simp)) (h 9 (by simp)) hb hG) fun L a_ w2 hl hf D hb => ?_
      have h0 : sl a_ 1 = .int .u8 (key : Nat) := hf 1 (by kernel_rfl)
      refine ⟨.int .u8 (key : Nat), w2, ?_, B0 _, fun s _ h => h 28 rfl⟩
      unfold sl at h0
      simp [go_sem, h0]
    · refine OpFactS.call rfl (FK27_below _ _ _ _ _ _ _ _) (fun L s s' w w' h hb hG => BG.keep (h 8 (by simp)) (h 9 (by simp)) hb hG) fun L a_ w2 hl hf D hb => ?_
      have h1 : sl a_ 27 = .agg #[.slice Ad a.divs.length cd, .slice Ac a.cps.length cc, .int .u64 a.drawn] := D 0 (by kernel_rfl)
      have h2 : sl a_ 28 = .int .u8 (key : Nat) := D 1 (by kernel_rfl)
      refine ⟨13, #[.agg #[.slice Ad a.divs.length cd, .slice Ac a.cps.length cc, .int .u64 a.drawn], .int .u8 (key : Nat)], ?_, (HST1.out w2 hb.1).mono ?_⟩
      · unfold sl at h1 h2
        simp at h1 h2
        simp [go_sem, h1, h2]
      · rintro e w' ⟨rfl, hb3⟩
        exact ⟨_, rfl, hb3, fun s _ h => h 29 rfl⟩
    · refine OpFactS.value rfl (FK27_below _ _ _ _ _ _ _ _) (fun L s s' w w' h hb hG => BG.keep (h 8 (by simp)) (h 9 (by simp)) hb hG) fun L a_ w2 hl hf D hb => ?_
      have h0 : sl a_ 7 = .pointer (some ⟨ab, 0, none⟩) := hf 7 (by kernel_rfl)
      have es := HKE.out w2 hb.1
      refine ⟨.agg #[.slice Ad a.divs.length cd, .slice Ac a.cps.length cc, .int .u64 a.drawn], w2, ?_, B0 _, fun s _ h => h 30 rfl⟩
      unfold sl at h0
      simp at h0
      simp [go_sem, h0, es]
    · refine OpFactS.value rfl (FK27_below _ _ _ _ _ _ _ _) (fun L s s' w w' h hb hG => BG.keep (h 8 (by simp)) (h 9 (by simp)) hb hG) fun L a_ w2 hl hf D hb => ?_
      have h0 : sl a_ 2 = .int .u8 (other : Nat) := hf 2 (by kernel_rfl)
      refine ⟨.int .u8 (other : Nat), w2, ?_, B0 _, fun s _ h => h 31 rfl⟩
      unfold sl at h0
      simp [go_sem, h0]
    · refine OpFactS.call rfl (FK27_below _ _ _ _ _ _ _ _) (fun L s s' w w' h hb hG => BG.keep (h 8 (by simp)) (h 9 (by simp)) hb hG) fun L a_ w2 hl hf D hb => ?_
      have h1 : sl a_ 30 = .agg #[.slice Ad a.divs.length cd, .slice Ac a.cps.length cc, .int .u64 a.drawn] := D 3 (by kernel_rfl)
      have h2 : sl a_ 31 = .int .u8 (other : Nat) := D 4 (by kernel_rfl)
      refine ⟨13, #[.agg #[.slice Ad a.divs.length cd, .slice Ac a.cps.length cc, .int .u64 a.drawn], .int .u8 (other : Nat)], ?_, (HST2.out w2 hb.1).mono ?_⟩
      · unfold sl at h1 h2
        simp at h1 h2
        simp [go_sem, h1, h2]
      · rintro e w' ⟨rfl, hb3⟩
        exact ⟨_, rfl, hb3, fun s _ h => h 32 rfl⟩
    · refine OpFactS.write rfl fun L a_ w2 hl hf D hb => ?_
      refine ⟨.pointer (some ⟨w2.heap.size, 0, none⟩), w2.alloc (.cells #[.int .i64 0, .int .i64 0] 36), ?_, fun s ho h => BG.new8 (h 8 rfl) (ho 9 (by simp)) _ hb, fun j _ _ hF => FK27_below _ _ _ _ _ _ _ _ j _ _ _ (Ba (B0 _) _) hF, fun s _ h => ⟨w2.heap.size, h 8 rfl, hb.1.size, _, _, Blk.new _ _ _⟩⟩
      first | kernel_rfl | simp [go_sem, zeroCt]
    · refine OpFactS.write rfl fun L a_ w2 hl hf D hb => ?_
      refine ⟨.pointer (some ⟨w2.heap.size, 0, none⟩), w2.alloc (.cells #[.int .i64 0, .int .i64 0] 36), ?_, fun s ho h => BG.new9 (h 9 rfl) (ho 8 (by simp)) _ hb, fun j _ _ hF => FK27_below _ _ _ _ _ _ _ _ j _ _ _ (Ba (B0 _) _) hF, fun s _ h => ⟨w2.heap.size, h 9 rfl, hb.1.size, _, _, Blk.new _ _ _⟩⟩
      first | kernel_rfl | simp [go_sem, zeroCt]
    · refine OpFactS.skip rfl fun L a_ w2 hl hf D hb => ?_
      obtain ⟨b, h8, hlb, x, y, hK⟩ : ∃ b, sl a_ 8 = .pointer (some ⟨b, 0, none⟩) ∧ W4.heap.size ≤ b ∧ ∃ x y, Blk w2 b 36 #[x, y] := D 6 (by kernel_rfl)
      have h1 : sl a_ 29 = .agg #[.int .i64 t1, .int .i64 t2] := D 2 (by kernel_rfl)
      have hK2 : Blk ((w2.setCell ⟨b, 0, none⟩ (.int .i64 t1)).setCell ⟨b, 1, none⟩ (.int .i64 t2)) b 36 #[.int .i64 t1, .int .i64 t2] := by simpa using (hK.set_ 0 (.int .i64 t1)).set_ 1 (.int .i64 t2)
      have e0 := hK.frozen 0
      have e1 := hK.frozen 1
      have e2 := hK.cell 0
      have e3 := hK.cell 1
      simp only [List.getElem?_toArray, List.getElem?_cons_zero, List.getElem?_cons_succ] at e2 e3
      refine ⟨(w2.setCell ⟨b, 0, none⟩ (.int .i64 t1)).setCell ⟨b, 1, none⟩ (.int .i64 t2), ?_, fun s ho => BG.set hlb (ho 8 (by simp)) (ho 9 (by simp)) _ _ hb, fun j hj hE hF => ?_, fun s ho => ⟨b, (ho 8 (by simp)).trans h8, hlb, hK2⟩⟩
      · unfold sl at h8 h1
        simp at h8 h1
        simp [go_sem, h8, h1, e0, e1, e2, e3]
      · match j with
        | 0 => exact hF
        | 1 => exact hF
        | 2 => exact hF
        | 3 => exact hF
        | 4 => exact hF
        | 5 => exact hF
        | 6 => exact ⟨b, h8, hlb, _, _, hK2⟩
        | 7 => obtain ⟨c, q1, q2, x', y', q3⟩ := hF; exact ⟨c, q1, q2, x', y', (q3.far (p := ⟨b, 0, none⟩) (fun e => hb.2.2.2 b c h8 q1 e.symm) _).far (p := ⟨b, 1, none⟩) (fun e => hb.2.2.2 b c h8 q1 e.symm) _⟩
        | 8 => exact absurd rfl hj
        | 9 => obtain ⟨c, q1, q2, q3⟩ := hF; exact ⟨c, q1, q2, (q3.far (p := ⟨b, 0, none⟩) (fun e => hb.2.2.2 b c h8 q1 e.symm) _).far (p := ⟨b, 1, none⟩) (fun e => hb.2.2.2 b c h8 q1 e.symm) _⟩
        | _ + 10 => trivial
    · refine OpFactS.skip rfl fun L a_ w2 hl hf D hb => ?_
      obtain ⟨b, h8, hlb, x, y, hK⟩ : ∃ b, sl a_ 9 = .pointer (some ⟨b, 0, none⟩) ∧ W4.heap.size ≤ b ∧ ∃ x y, Blk w2 b 36 #[x, y] := D 7 (by kernel_rfl)
      have h1 : sl a_ 32 = .agg #[.int .i64 u1, .int .i64 u2] := D 5 (by kernel_rfl)
      have hK2 : Blk ((w2.setCell ⟨b, 0, none⟩ (.int .i64 u1)).setCell ⟨b, 1, none⟩ (.int .i64 u2)) b 36 #[.int .i64 u1, .int .i64 u2] := by simpa using (hK.set_ 0 (.int .i64 u1)).set_ 1 (.int .i64 u2)
      have e0 := hK.frozen 0
      have e1 := hK.frozen 1
      have e2 := hK.cell 0
      have e3 := hK.cell 1
      simp only [List.getElem?_toArray, List.getElem?_cons_zero, List.getElem?_cons_succ] at e2 e3
      refine ⟨(w2.setCell ⟨b, 0, none⟩ (.int .i64 u1)).setCell ⟨b, 1, none⟩ (.int .i64 u2), ?_, fun s ho => BG.set hlb (ho 8 (by simp)) (ho 9 (by simp)) _ _ hb, fun j hj hE hF => ?_, fun s ho => ⟨b, (ho 9 (by simp)).trans h8, hlb, hK2⟩⟩
      · unfold sl at h8 h1
        simp at h8 h1
        simp [go_sem, h8, h1, e0, e1, e2, e3]
      · match j with
        | 0 => exact hF
        | 1 => exact hF
        | 2 => exact hF
        | 3 => exact hF
        | 4 => exact hF
        | 5 => exact hF
        | 6 => obtain ⟨c, q1, q2, x', y', q3⟩ := hF; exact ⟨c, q1, q2, x', y', (q3.far (p := ⟨b, 0, none⟩) (fun e => hb.2.2.2 c b q1 h8 e) _).far (p := ⟨b, 1, none⟩) (fun e => hb.2.2.2 c b q1 h8 e) _⟩
        | 7 => exact ⟨b, h8, hlb, _, _, hK2⟩
        | 8 => obtain ⟨c, q1, q2, q3⟩ := hF; exact ⟨c, q1, q2, (q3.far (p := ⟨b, 0, none⟩) (fun e => hb.2.2.2 c b q1 h8 e) _).far (p := ⟨b, 1, none⟩) (fun e => hb.2.2.2 c b q1 h8 e) _⟩
        | 9 => exact absurd rfl hj
        | _ + 10 => trivial
    intro L y W6 hb6 hF6
    obtain ⟨tb, h8, hlt, TB⟩ : ∃ b, y 8 = .pointer (some ⟨b, 0, none⟩) ∧ W4.heap.size ≤ b ∧ Blk W6 b 36 #[.int .i64 t1, .int .i64 t2] := hF6 8 (by decide) rfl
    obtain ⟨ub, h9, hlu, UB⟩ : ∃ b, y 9 = .pointer (some ⟨b, 0, none⟩) ∧ W4.heap.size ≤ b ∧ Blk W6 b 36 #[.int .i64 u1, .int .i64 u2] := hF6 9 (by decide) rfl
    have HB6 : Hid (Below W4.heap.size W4 W6) := Lib.hid hb6.1
    have HTB := Lib.hid TB
    have HUB := Lib.hid UB
    clear hF6 hb6 TB UB hlt hlu
    rw [aft8 (d0 := 27) (d1 := 28) (d2 := 29) (d3 := 30) (d4 := 31) (d5 := 32) (d6 := 8) (d7 := 9) (by kernel_rfl) rfl]
    rw [h8, h9]
    simp only [List.set_cons_succ, List.set_cons_zero]
    refine from_end rfl ?_
    clear x0 x1 x2 HST1 HST2
    have HKT := Lib.hid (fun W (hb : Below W6.heap.size W6 W) => (show (W.cell? ⟨ab, 0, none⟩ = some (.slice Ad a.divs.length cd) ∧ W.cell? ⟨ab, 1, none⟩ = some (.slice Ac a.cps.length cc) ∧ W.cell? ⟨ab, 2, none⟩ = some (.int .u64 a.drawn)) ∧ (W.cell? ⟨tb, 0, none⟩ = some (.int .i64 t1) ∧ W.cell? ⟨tb, 1, none⟩ = some (.int .i64 t2)) ∧ W.cell? ⟨ub, 0, none⟩ = some (.int .i64 u1) ∧ W.cell? ⟨ub, 1, none⟩ = some (.int .i64 u2) from
      ⟨HKE.out W (Bt HB6.out hb), ⟨(Bc hb HTB.out.lt).trans (HTB.out.cell 0), (Bc hb HTB.out.lt).trans (HTB.out.cell 1)⟩, (Bc hb HUB.out.lt).trans (HUB.out.cell 0), (Bc hb HUB.out.lt).trans (HUB.out.cell 1)⟩))
    obtain ⟨⟨x0, x1, x2⟩, ⟨x3, x4⟩, x5, x6⟩ := HKT.out W6 (B0 W6)
    have hr0 : ∀ W, Below W4.heap.size W4 W → Calls Tryd.prog 19 #[.agg #[.slice Ad a.divs.length cd, .slice Ac a.cps.length cc, .int .u64 a.drawn], .agg #[.int .i64 t1, .int .i64 t2], .agg #[.int .i64 u1, .int .i64 u2], .int .u64 0] W fun e w' => e = .returned (.bool (R 0)) ∧ Below W.heap.size W w' := fun W hb => HRX.out 0 (by decide) W hb
    have hcu := HCU.out
    rw [hcr] at hcu
    clear HCU hcr
    cases h0 : R 0 with
    | false =>
      rw [h0] at hr0 hcu
      have HR0 := Lib.hid hr0
      have HCU : Hid (∀ W, Below W4.heap.size W4 W → Calls Tryd.prog 18 #[.agg #[.slice Ad a.divs.length cd, .slice Ac a.cps.length cc, .int .u64 a.drawn], .agg #[.int .i64 t1, .int .i64 t2], .agg #[.int .i64 u1, .int .i64 u2]] W fun e w' => ∃ A c, e = .returned (.tuple #[.slice A 0 c, .int .i64 18]) ∧ Below W.heap.size W w') := Lib.hid fun W hb => (hcu W hb).mono fun e w' ⟨v, q1, q2, q3⟩ => by
        obtain ⟨A, c, rfl, -, -, -⟩ := SlI.open q2
        exact ⟨A, c, q1, q3⟩
      clear hr0 hcu h0 HHL HDN HRX
      go_wp2_with (first
        | (go_at_call 18; (with_reducible refine ((HCU.out _ HB6.out).mono ?_)); rintro e w7 ⟨A7, c7, rfl, hb7⟩; have HB7 := Lib.hid (Bt HB6.out hb7); obtain ⟨⟨y0, y1, y2⟩, ⟨y3, y4⟩, y5, y6⟩ := HKT.out w7 hb7; clear hb7 x0 x1 x2 x3 x4 x5 x6)
        | (go_at_call 19; (with_reducible refine ((HR0.out _ HB7.out).mono ?_)); rintro e w8 ⟨rfl, hb8⟩; have HB8 := Lib.hid (Bt HB7.out hb8); clear hb8 y0 y1 y2 y3 y4 y5 y6))
      go_ret
      exact ⟨rfl, Bt HB4.out HB8.out⟩
    | true =>
      rw [h0] at hr0 hcu
      obtain ⟨hcb, hbn⟩ := Cha.cut_best R a.drawn a.cps.length hcl4 HDN.out HHL.out h0
      have hbi := fun m hm => (Cha.best_inv R a.drawn a.cps.length hcl4 HDN.out HHL.out m hm).1.1
      rw [hcb] at hcu
      have HR0 := Lib.hid hr0
      obtain ⟨cl, hcl⟩ : ∃ cl, a.cps.length = cl := ⟨_, rfl⟩
      have hsh : IntKind.u64.wrap ((2 : Int) ^ a.cps.length) = ((2 ^ a.cps.length : Nat) : Int) := by
        have := Hit.shl_u64 a.cps.length (by omega)
        rwa [Nat.min_eq_left (by omega), Int.one_mul] at this
      obtain ⟨NN, hNN⟩ : ∃ NN, (2 : Nat) ^ a.cps.length = NN := ⟨_, rfl⟩
      rw [hNN] at hcu hsh hbn hbi hn16
      obtain ⟨B, hB⟩ : ∃ B, Cha.bestF R a.drawn NN = B := ⟨_, rfl⟩
      rw [hB] at hcu hbn
      have hdn16 : a.drawn < 16 := by have := HDN.out; omega
      have hlen : (Hit.members B).length = Cha.sizeF 64 B := Cha.size_len B (by omega)
      have HCU : Hid (∀ W, Below W4.heap.size W4 W → Calls Tryd.prog 18 #[.agg #[.slice Ad a.divs.length cd, .slice Ac a.cps.length cc, .int .u64 a.drawn], .agg #[.int .i64 t1, .int .i64 t2], .agg #[.int .i64 u1, .int .i64 u2]] W fun e w' => ∃ A c, e = .returned (.tuple #[.slice A (Cha.sizeF 64 B) c, .int .i64 0]) ∧ (∀ k i, (Hit.members B)[k]? = some i → ∃ ad, A = some ad ∧ (ad.add k).block < w'.heap.size ∧ w'.cell? (ad.add k) = some (.int .i64 (i : Nat))) ∧ Below W.heap.size W w') := Lib.hid fun W hb => (hcu W hb).mono fun e w' ⟨v, q1, q2, q3⟩ => by
        obtain ⟨A, c, rfl, -, -, hat⟩ := SlI.open q2
        refine ⟨A, c, ?_, fun k i hk => ?_, q3⟩
        · rw [q1]
          simp only [Option.getD_some, if_true, intN, List.length_map, hlen]
        · obtain ⟨hlt, he⟩ := List.getElem?_eq_some_iff.1 hk
          obtain ⟨ad, h1, h2, h3⟩ := hat k (by simpa [intN] using hlt)
          refine ⟨ad, h1, by rw [block_of_add]; exact h2, ?_⟩
          rw [h3]
          simp [intN, he]
      have HBI := Lib.hid hbi
      have hB16 : B < 16 := by omega
      rw [hcl] at hsh HRX HCU HR0 HKT x1
      clear hr0 hcu h0 HHL HDN hcb hbi hNN
      have HCL := Lib.hid hcl
      clear hcl
      go_upto_region 8 with (first
        | (go_at_call 18; (with_reducible refine ((HCU.out _ HB6.out).mono ?_)); rintro e w7 ⟨A7, c7, rfl, hat7, hb7⟩; have HAT := Lib.hid hat7; have HB7 := Lib.hid hb7; obtain ⟨⟨y0, y1, y2⟩, ⟨y3, y4⟩, y5, y6⟩ := HKT.out w7 hb7; clear hat7 hb7 x0 x1 x2 x3 x4 x5 x6)
        | (go_at_call 19; (with_reducible refine ((HR0.out _ (Bt HB6.out HB7.out)).mono ?_)); rintro e w8 ⟨rfl, hb8⟩; have HB8 := Lib.hid (Bt HB7.out hb8); have HB78 := Lib.hid hb8; clear hb8 y0 y1 y2 y3 y4 y5 y6))
      obtain ⟨⟨x0, x1, x2⟩, -, -⟩ := HKT.out w8 HB8.out
      go_wp2_with fail
      have hc4 : cl ≤ 4 := by rw [← HCL.out]; exact hcl4
      clear x0 x1 x2
      have h3 : ((cl : Nat) : Int) % 18446744073709551616 = cl := by omega
      have h4 : min cl 64 = cl := by omega
      go_loopg [12, 13] NN (fun gg s12 s13 wr => ∃ s : Nat, s ≤ NN ∧ NN - s ≤ gg ∧ s12 = .int .u64 (Cha.bestF R a.drawn s : Nat) ∧ s13 = .int .u64 s ∧ Aside (Below w8.heap.size w8 wr))
      case atStart => exact ⟨0, by omega, by omega, rfl, rfl, B0 w8⟩
      case round =>
        obtain ⟨s, hs, hg, rfl, rfl, HB⟩ := hrel
        replace HB := Lib.hid HB
        obtain ⟨⟨x0, x1, x2⟩, ⟨x3, x4⟩, x5, x6⟩ := HKT.out wr (Bt HB8.out HB.out)
        by_cases hlt : s < NN
        · have hsI : decide ((s : Int) < NN) = true := decide_eq_true (by omega)
          have hss : Cha.bestF R a.drawn (s + 1) = Cha.stepB R a.drawn (Cha.bestF R a.drawn s) s := by unfold Cha.bestF; rw [List.range_succ, List.foldl_append]; rfl
          have hbs := HBI.out s hs
          have hand : bits .andNot .u64 (s : Int) (a.drawn : Int) = ((Hit.andn s a.drawn : Nat) : Int) := Hit.u64_andn s a.drawn (by omega) (by omega)
          have e1 : IntKind.u64.wrap ((s : Int) + 1) = ((s + 1 : Nat) : Int) := by rw [IntKind.wrap_u64]; omega
          have hrs := HRX.out s (by omega) wr (Bt HB6.out (Bt HB8.out HB.out))
          have HSS : Hid (∀ x, Cha.stepB R a.drawn (Cha.bestF R a.drawn s) s = x → Cha.bestF R a.drawn (s + 1) = x) := Lib.hid fun x h => hss.trans h
          clear hss
          generalize Cha.bestF R a.drawn s = b at *
          obtain ⟨z, hz⟩ : ∃ z, Hit.andn s a.drawn = z := ⟨_, rfl⟩
          rw [hz] at hand
          by_cases hz0 : z = 0
          · subst hz0
            cases hrv : R s with
            | true =>
              have HE := Lib.hid (HSS.out b (by unfold Cha.stepB; rw [if_pos (.inr hrv)]))
              rw [hrv] at hrs
              have HRS := Lib.hid hrs
              clear hrs hrv hz HSS
              go_wp2_with (go_at_call 19; (with_reducible refine (HRS.out.mono ?_)); rintro e w9 ⟨rfl, hb9⟩; have HB9 := Lib.hid (Bt HB.out hb9); clear hb9)
              go_roundg (NN - (s + 1))
              case measure => omega
              case rel => exact ⟨s + 1, by omega, by omega, by rw [HE.out], by go_num, HB9.out⟩
            | false =>
              have hnb : ¬ (Hit.andn s a.drawn ≠ 0 ∨ R s = true) := by rw [hz, hrv]; simp
              rw [hrv] at hrs
              have HRS := Lib.hid hrs
              have hzs := fun W => size_any s (by omega) W
              have hzb := fun W => size_any b (by omega) W
              have HF := Lib.hid (fun W => first_any s b (by omega) (by omega) W)
              have hl1 := Cha.size_le 64 s
              have hl2 := Cha.size_le 64 b
              by_cases hq : Cha.sizeF 64 s < Cha.sizeF 64 b
              · have hqI : decide (((Cha.sizeF 64 s : Nat) : Int) < (Cha.sizeF 64 b : Nat)) = true := decide_eq_true (by omega)
                have HE := Lib.hid (HSS.out s (by unfold Cha.stepB; rw [if_neg hnb, if_pos (by unfold Cha.ltB; simp [hq])]))
                clear hrs hrv hz HSS hnb
                generalize Cha.sizeF 64 s = q1 at *
                generalize Cha.sizeF 64 b = q2 at *
                have HZS := Lib.hid hzs
                have HZB := Lib.hid hzb
                clear hzs hzb
                go_wp2_with (first
                  | (go_at_call 19; (with_reducible refine (HRS.out.mono ?_)); rintro e w9 ⟨rfl, hb9⟩; have HB9 := Lib.hid (Bt HB.out hb9); clear hb9)
                  | (go_at_call 20; (with_reducible refine ((HZS.out _).mono ?_)); rintro e w' ⟨rfl, rfl⟩)
                  | (go_at_call 20; (with_reducible refine ((HZB.out _).mono ?_)); rintro e w' ⟨rfl, rfl⟩))
                go_roundg (NN - (s + 1))
                case measure => omega
                case rel => exact ⟨s + 1, by omega, by omega, by rw [HE.out], by go_num, HB9.out⟩
              · have hqI : decide (((Cha.sizeF 64 s : Nat) : Int) < (Cha.sizeF 64 b : Nat)) = false := decide_eq_false (by omega)
                by_cases hqe : Cha.sizeF 64 s = Cha.sizeF 64 b
                · have hqb : (((Cha.sizeF 64 s : Nat) : Int) == (Cha.sizeF 64 b : Nat)) = true := by simp [hqe]
                  cases hfv : Cha.firstF s b with
                  | true =>
                    have HE := Lib.hid (HSS.out s (by unfold Cha.stepB; rw [if_neg hnb, if_pos (by unfold Cha.ltB; simp [hqe, hfv])]))
                    have hff := HF.out
                    rw [hfv] at hff
                    have HFF := Lib.hid hff
                    clear hrs hrv hz HSS hnb hfv hff HF
                    generalize Cha.sizeF 64 s = q1 at *
                    generalize Cha.sizeF 64 b = q2 at *
                    have HZS := Lib.hid hzs
                    have HZB := Lib.hid hzb
                    clear hzs hzb
                    go_wp2_with (first
                      | (go_at_call 19; (with_reducible refine (HRS.out.mono ?_)); rintro e w9 ⟨rfl, hb9⟩; have HB9 := Lib.hid (Bt HB.out hb9); clear hb9)
                      | (go_at_call 20; (with_reducible refine ((HZS.out _).mono ?_)); rintro e w' ⟨rfl, rfl⟩)
                      | (go_at_call 20; (with_reducible refine ((HZB.out _).mono ?_)); rintro e w' ⟨rfl, rfl⟩)
                      | (go_at_call 21; (with_reducible refine ((HFF.out _).mono ?_)); rintro e w' ⟨rfl, rfl⟩))
                    go_roundg (NN - (s + 1))
                    case measure => omega
                    case rel => exact ⟨s + 1, by omega, by omega, by rw [HE.out], by go_num, HB9.out⟩
                  | false =>
                    have HE := Lib.hid (HSS.out b (by unfold Cha.stepB; rw [if_neg hnb, if_neg (by unfold Cha.ltB; simp [hqe, hfv])]))
                    have hff := HF.out
                    rw [hfv] at hff
                    have HFF := Lib.hid hff
                    clear hrs hrv hz HSS hnb hfv hff HF
                    generalize Cha.sizeF 64 s = q1 at *
                    generalize Cha.sizeF 64 b = q2 at *
                    have HZS := Lib.hid hzs
                    have HZB := Lib.hid hzb
                    clear hzs hzb
                    go_wp2_with (first
                      | (go_at_call 19; (with_reducible refine (HRS.out.mono ?_)); rintro e w9 ⟨rfl, hb9⟩; have HB9 := Lib.hid (Bt HB.out hb9); clear hb9)
                      | (go_at_call 20; (with_reducible refine ((HZS.out _).mono ?_)); rintro e w' ⟨rfl, rfl⟩)
                      | (go_at_call 20; (with_reducible refine ((HZB.out _).mono ?_)); rintro e w' ⟨rfl, rfl⟩)
                      | (go_at_call 21; (with_reducible refine ((HFF.out _).mono ?_)); rintro e w' ⟨rfl, rfl⟩))
                    go_roundg (NN - (s + 1))
                    case measure => omega
                    case rel => exact ⟨s + 1, by omega, by omega, by rw [HE.out], by go_num, HB9.out⟩
                · have hqb : (((Cha.sizeF 64 s : Nat) : Int) == (Cha.sizeF 64 b : Nat)) = false := by simp; omega
                  have HE := Lib.hid (HSS.out b (by unfold Cha.stepB; rw [if_neg hnb, if_neg (by unfold Cha.ltB; simp; omega)]))
                  have HFF := HF
                  clear hrs hrv hz HSS hnb HF
                  generalize Cha.sizeF 64 s = q1 at *
                  generalize Cha.sizeF 64 b = q2 at *
                  have HZS := Lib.hid hzs
                  have HZB := Lib.hid hzb
                  clear hzs hzb
                  go_wp2_with (first
                    | (go_at_call 19; (with_reducible refine (HRS.out.mono ?_)); rintro e w9 ⟨rfl, hb9⟩; have HB9 := Lib.hid (Bt HB.out hb9); clear hb9)
                    | (go_at_call 20; (with_reducible refine ((HZS.out _).mono ?_)); rintro e w' ⟨rfl, rfl⟩)
                    | (go_at_call 20; (with_reducible refine ((HZB.out _).mono ?_)); rintro e w' ⟨rfl, rfl⟩)
                    | (go_at_call 21; (with_reducible refine ((HFF.out _).mono ?_)); rintro e w' ⟨rfl, rfl⟩))
                  go_roundg (NN - (s + 1))
                  case measure => omega
                  case rel => exact ⟨s + 1, by omega, by omega, by rw [HE.out], by go_num, HB9.out⟩
          · have hzI : ((z : Int) != 0) = true := by simp; omega
            have HE := Lib.hid (HSS.out b (by unfold Cha.stepB; rw [if_pos (.inl (by rw [hz]; exact hz0))]))
            clear hrs hz HSS
            go_wp2_with fail
            go_roundg (NN - (s + 1))
            case measure => omega
            case rel => exact ⟨s + 1, by omega, by omega, by rw [HE.out], by go_num, HB.out⟩
        · have hsI : decide ((s : Int) < NN) = false := decide_eq_false (by omega)
          obtain rfl : s = NN := by omega
          rw [hB]
          have HZB := Lib.hid (fun W => size_any B (by omega) W)
          have hzz := Cha.size_le 64 B
          obtain ⟨q, hq⟩ : ∃ q, Cha.sizeF 64 B = q := ⟨_, rfl⟩
          rw [hq] at hlen hzz ⊢
          have hz9 := HZB.out
          rw [hq] at hz9
          replace HZB := Lib.hid hz9
          have hneI : (((q : Nat) : Int) != (q : Nat)) = false := by simp
          clear hz9 hq hB HBI HRX
          go_upto_region 17 with (go_at_call 20; (with_reducible refine ((HZB.out _).mono ?_)); rintro e w' ⟨rfl, rfl⟩)
          go_wp2_with fail
          clear x0 x1 x2 x3 x4 x5 x6
          go_loopg [14, 15] cl (fun gg s14 s15 wr2 => ∃ i : Nat, i ≤ cl ∧ cl - i ≤ gg ∧ s15 = .int .i64 i ∧ s14 = .int .i64 (((List.range i).filter fun j => B.testBit j).length : Nat) ∧ Aside (Below w8.heap.size w8 wr2))
          case atStart => exact ⟨0, by omega, by omega, rfl, rfl, HB.out⟩
          case round =>
            clear HB
            obtain ⟨i, hi, hg, rfl, rfl, HB⟩ := hrel
            replace HB := Lib.hid HB
            obtain ⟨⟨x0, x1, x2⟩, -, -⟩ := HKT.out wr (Bt HB8.out HB.out)
            by_cases hic : i < cl
            · have hiI : decide ((i : Int) < cl) = true := decide_eq_true (by omega)
              have g3 : ((i : Nat) : Int) % 18446744073709551616 = i := by omega
              have g4 : min i 64 = i := by omega
              have g5 := shr_of B i (by omega)
              have hle : B >>> i ≤ B := by rw [Nat.shiftRight_eq_div_pow]; exact Nat.div_le_self _ _
              have g6 : bits .and .u64 ((B >>> i : Nat) : Int) 1 = ((B >>> i &&& 1 : Nat) : Int) := Hit.u64_and (B >>> i) 1 (by omega) (by omega)
              have hbit := bit_of B i
              have hv1 : B >>> i &&& 1 ≤ 1 := Nat.and_le_right
              have hrg := Cha.rng_succ B i
              have hkl : ((List.range i).filter fun j => B.testBit j).length ≤ i := by
                have := List.length_filter_le (fun j => B.testBit j) (List.range i)
                rwa [List.length_range] at this
              have hmg := fun h => Cha.mem_get hB16 (i := i) (by omega) h
              generalize B >>> i &&& 1 = vb at *
              generalize B >>> i = vs at *
              generalize ((List.range i).filter fun j => B.testBit j).length = k at *
              cases htb : B.testBit i with
              | false =>
                have hv0 : ((vb : Int) == 0) = true := by
                  rw [htb] at hbit
                  have : ¬ vb = 1 := by intro e; subst e; simp at hbit
                  simp; omega
                rw [htb, if_neg (by decide)] at hrg
                have HRG := Lib.hid hrg
                clear hle hbit hv1 hmg htb hrg
                go_wp2_with fail
                go_roundg (cl - (i + 1))
                case measure => omega
                case rel => exact ⟨i + 1, by omega, by omega, by go_num, by rw [HRG.out, Nat.add_zero], HB.out⟩
              | true =>
                have hv0 : ((vb : Int) == 0) = false := by
                  rw [htb] at hbit
                  have : vb = 1 := by
                    by_cases e : vb = 1
                    · exact e
                    · have : vb = 0 := by omega
                      subst this; simp at hbit
                  subst this; rfl
                rw [htb, if_pos rfl] at hrg
                have hk := hmg htb
                have hkq : k < q := by rw [← hlen]; exact (List.getElem?_eq_some_iff.1 hk).1
                have hkI : (k : Int) < q := by omega
                obtain ⟨ad, rfl, hfb, hcell⟩ := HAT.out k i hk
                have hc2 := ((Bt HB78.out HB.out).cell (p := ad.add k) hfb).trans hcell
                have HRG := Lib.hid hrg
                clear hle hbit hv1 hmg htb hrg hk hcell hfb
                go_wp2_with fail
                go_roundg (cl - (i + 1))
                case measure => omega
                case rel => exact ⟨i + 1, by omega, by omega, by go_num, by rw [HRG.out]; go_num, HB.out⟩
            · have hiI : decide ((i : Int) < cl) = false := decide_eq_false (by omega)
              obtain rfl : i = cl := by omega
              clear HKE HCU
              go_wp2_with fail
              go_ret
              exact ⟨rfl, Bt HB4.out (Bt HB6.out (Bt HB8.out HB.out))⟩
end Go.Proofs.YtahlfndlkfoikaaDoor
