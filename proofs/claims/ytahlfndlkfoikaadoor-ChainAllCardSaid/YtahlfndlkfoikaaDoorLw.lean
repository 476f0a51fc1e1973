/- The statement of all chains, walked. -/
import Derived.Test.YtahlfndlkfoikaaDoorQ4
import Derived.Test.YtahlfndlkfoikaaDoorLv
import Derived.Test.YtahlfndlkfoikaaDoorLz
import Derived.Test.YtahlfndlkfoikaaDoorIe
namespace Go.Proofs.YtahlfndlkfoikaaDoor
open Go Go.RowKit Go.Shelf
/-- What holds behind each operation of the region of two starts. -/
def FK31 (lim : Nat) (AC : Value) (k1 k2 t1 t2 u1 u2 : Int) (j : Nat) (s : Nat → Value) (w : World) : Prop :=
  match j with
  | 0 => s 31 = AC
  | 1 => s 32 = .int .u8 k1
  | 2 => s 33 = .agg #[.int .i64 t1, .int .i64 t2]
  | 3 => s 34 = AC
  | 4 => s 35 = .int .u8 k2
  | 5 => s 36 = .agg #[.int .i64 u1, .int .i64 u2]
  | 6 => ∃ b, s 8 = .pointer (some ⟨b, 0, none⟩) ∧ lim ≤ b ∧ ∃ x y, Blk w b 36 #[x, y]
  | 7 => ∃ b, s 9 = .pointer (some ⟨b, 0, none⟩) ∧ lim ≤ b ∧ ∃ x y, Blk w b 36 #[x, y]
  | 8 => ∃ b, s 8 = .pointer (some ⟨b, 0, none⟩) ∧ lim ≤ b ∧ Blk w b 36 #[.int .i64 t1, .int .i64 t2]
  | 9 => ∃ b, s 9 = .pointer (some ⟨b, 0, none⟩) ∧ lim ≤ b ∧ Blk w b 36 #[.int .i64 u1, .int .i64 u2]
  | _ => True
def VK31 (j : Nat) : List Nat := match j with
  | 0 => [31] | 1 => [32] | 2 => [33] | 3 => [34] | 4 => [35] | 5 => [36] | 6 => [8] | 7 => [9] | 8 => [8] | 9 => [9] | _ => []
def EK31 (j : Nat) : Bool := j == 8 || j == 9
theorem FK31_V (lim : Nat) (AC : Value) (k1 k2 t1 t2 u1 u2 : Int) (j : Nat) (s s' : Nat → Value) (w : World) (h : ∀ t, t ∈ VK31 j → s' t = s t) (hF : FK31 lim AC k1 k2 t1 t2 u1 u2 j s w) : FK31 lim AC k1 k2 t1 t2 u1 u2 j s' w := by
  match j with
  | 0 => unfold FK31 at hF ⊢; simp only at hF ⊢; rw [h 31 (by simp [VK31])]; exact hF
  | 1 => unfold FK31 at hF ⊢; simp only at hF ⊢; rw [h 32 (by simp [VK31])]; exact hF
  | 2 => unfold FK31 at hF ⊢; simp only at hF ⊢; rw [h 33 (by simp [VK31])]; exact hF
  | 3 => unfold FK31 at hF ⊢; simp only at hF ⊢; rw [h 34 (by simp [VK31])]; exact hF
  | 4 => unfold FK31 at hF ⊢; simp only at hF ⊢; rw [h 35 (by simp [VK31])]; exact hF
  | 5 => unfold FK31 at hF ⊢; simp only at hF ⊢; rw [h 36 (by simp [VK31])]; exact hF
  | 6 => unfold FK31 at hF ⊢; simp only at hF ⊢; rw [h 8 (by simp [VK31])]; exact hF
  | 7 => unfold FK31 at hF ⊢; simp only at hF ⊢; rw [h 9 (by simp [VK31])]; exact hF
  | 8 => unfold FK31 at hF ⊢; simp only at hF ⊢; rw [h 8 (by simp [VK31])]; exact hF
  | 9 => unfold FK31 at hF ⊢; simp only at hF ⊢; rw [h 9 (by simp [VK31])]; exact hF
  | _ + 10 => trivial
theorem FK31_below (lim : Nat) (AC : Value) (k1 k2 t1 t2 u1 u2 : Int) (j : Nat) (s : Nat → Value) (w w' : World) (hb : Below w.heap.size w w') (hF : FK31 lim AC k1 k2 t1 t2 u1 u2 j s w) : FK31 lim AC k1 k2 t1 t2 u1 u2 j s w' := by
  match j with
  | 0 => exact hF
  | 1 => exact hF
  | 2 => exact hF
  | 3 => exact hF
  | 4 => exact hF
  | 5 => exact hF
  | 6 => obtain ⟨b, q1, q2, x, y, q3⟩ := hF; exact ⟨b, q1, q2, x, y, q3.below hb q3.lt⟩
  | 7 => obtain ⟨b, q1, q2, x, y, q3⟩ := hF; exact ⟨b, q1, q2, x, y, q3.below hb q3.lt⟩
  | 8 => obtain ⟨b, q1, q2, q3⟩ := hF; exact ⟨b, q1, q2, q3.below hb q3.lt⟩
  | 9 => obtain ⟨b, q1, q2, q3⟩ := hF; exact ⟨b, q1, q2, q3.below hb q3.lt⟩
  | _ + 10 => trivial
/-- What a value reads as. -/
def rdCh (w : World) (v : Value) (l : List Cha.Ch) : Prop := SlW w v l
/-- What holds behind each operation of a drawn region. -/
def FA20 (lb : Nat) (A11 : Option Addr) (n11 c11 : Nat) (ys : List Int) (y1 y2 : Int) (A18 : Option Addr) (n10 c18 : Nat) (j : Nat) (s : Nat → Value) (w : World) : Prop :=
  match j with
  | 0 => s 115 = .bool true
  | 1 => s 116 = .bool false
  | 2 => s 117 = .bool false
  | 3 => True
  | 4 => True
  | 5 => True
  | 6 => True
  | 7 => s 122 = .bool false
  | 8 => s 123 = .bool false
  | 9 => s 124 = .bool true
  | 10 => s 125 = .bool true
  | 11 => s 126 = .agg #[.slice A11 n11 c11, .int .i64 y1, .int .i64 y2]
  | 12 => rdCh w (s 127) [(ys, y1, y2)]
  | 13 => s 128 = .slice A18 n10 c18
  | 14 => s 129 = .slice A18 1 c18
  | 15 => s 130 = .bool true
  | 16 => s 131 = .bool true
  | 17 => s 132 = .bool true
  | 18 => s 6 = .bool true
  | _ => True
def VA20 (j : Nat) : List Nat := match j with
  | 0 => [115] | 1 => [116] | 2 => [117] | 3 => [118] | 4 => [119] | 5 => [120] | 6 => [121] | 7 => [122] | 8 => [123] | 9 => [124] | 10 => [125] | 11 => [126] | 12 => [127] | 13 => [128] | 14 => [129] | 15 => [130] | 16 => [131] | 17 => [132] | 18 => [6] | _ => []
def EA20 (j : Nat) : Bool := j == 18
theorem FA20_V (lb : Nat) (A11 : Option Addr) (n11 c11 : Nat) (ys : List Int) (y1 y2 : Int) (A18 : Option Addr) (n10 c18 : Nat) (j : Nat) (s s' : Nat → Value) (w : World) (h : ∀ t, t ∈ VA20 j → s' t = s t) (hF : FA20 lb A11 n11 c11 ys y1 y2 A18 n10 c18 j s w) : FA20 lb A11 n11 c11 ys y1 y2 A18 n10 c18 j s' w := by
  match j with
  | 0 => unfold FA20 at hF ⊢; simp only at hF ⊢; rw [h 115 (by simp [VA20])]; exact hF
  | 1 => unfold FA20 at hF ⊢; simp only at hF ⊢; rw [h 116 (by simp [VA20])]; exact hF
  | 2 => unfold FA20 at hF ⊢; simp only at hF ⊢; rw [h 117 (by simp [VA20])]; exact hF
  | 3 => exact hF
  | 4 => exact hF
  | 5 => exact hF
  | 6 => exact hF
  | 7 => unfold FA20 at hF ⊢; simp only at hF ⊢; rw [h 122 (by simp [VA20])]; exact hF
  | 8 => unfold FA20 at hF ⊢; simp only at hF ⊢; rw [h 123 (by simp [VA20])]; exact hF
  | 9 => unfold FA20 at hF ⊢; simp only at hF ⊢; rw [h 124 (by simp [VA20])]; exact hF
  | 10 => unfold FA20 at hF ⊢; simp only at hF ⊢; rw [h 125 (by simp [VA20])]; exact hF
  | 11 => unfold FA20 at hF ⊢; simp only at hF ⊢; rw [h 126 (by simp [VA20])]; exact hF
  | 12 => unfold FA20 at hF ⊢; simp only at hF ⊢; rw [h 127 (by simp [VA20])]; exact hF
  | 13 => unfold FA20 at hF ⊢; simp only at hF ⊢; rw [h 128 (by simp [VA20])]; exact hF
  | 14 => unfold FA20 at hF ⊢; simp only at hF ⊢; rw [h 129 (by simp [VA20])]; exact hF
  | 15 => unfold FA20 at hF ⊢; simp only at hF ⊢; rw [h 130 (by simp [VA20])]; exact hF
  | 16 => unfold FA20 at hF ⊢; simp only at hF ⊢; rw [h 131 (by simp [VA20])]; exact hF
  | 17 => unfold FA20 at hF ⊢; simp only at hF ⊢; rw [h 132 (by simp [VA20])]; exact hF
  | 18 => unfold FA20 at hF ⊢; simp only at hF ⊢; rw [h 6 (by simp [VA20])]; exact hF
  | _ + 19 => trivial
theorem FA20_below (lb : Nat) (A11 : Option Addr) (n11 c11 : Nat) (ys : List Int) (y1 y2 : Int) (A18 : Option Addr) (n10 c18 : Nat) (j : Nat) (s : Nat → Value) (w w' : World) (hb : Below w.heap.size w w') (hF : FA20 lb A11 n11 c11 ys y1 y2 A18 n10 c18 j s w) : FA20 lb A11 n11 c11 ys y1 y2 A18 n10 c18 j s w' := by
  match j with
  | 0 => exact hF
  | 1 => exact hF
  | 2 => exact hF
  | 3 => exact hF
  | 4 => exact hF
  | 5 => exact hF
  | 6 => exact hF
  | 7 => exact hF
  | 8 => exact hF
  | 9 => exact hF
  | 10 => exact hF
  | 11 => exact hF
  | 12 => exact SlW.bel hF hb
  | 13 => exact hF
  | 14 => exact hF
  | 15 => exact hF
  | 16 => exact hF
  | 17 => exact hF
  | 18 => exact hF
  | _ + 19 => trivial
set_option maxRecDepth 100000 in
set_option maxHeartbeats 8000000 in
theorem law_all (p : Cou.Pl) (hp : PlOk p) (vl : Value) (key : Nat) (hkey : key < 256) (other : Nat) (hother : other < 256) (w : World) (F : Nat → Prop) (hF : ∀ b, F b → b < w.heap.size) (hl : SlLk F w vl p.links) (hW : WOk w) :
    Calls Tryd.prog 8 #[.agg (plCells p vl), .int .u8 (key : Int), .int .u8 (other : Int)] w fun e w' => e = .returned (.bool true) ∧ Below w.heap.size w w' := by
  have HTT := Lib.hid hW
  have HK := Lib.hid (fun W (hb : Below w.heap.size w W) => (hW.below hb).known)
  have HM := Lib.hid (fun W (hb : Below w.heap.size w W) => make_any p hp vl W F (fun b h => Nat.lt_of_lt_of_le (hF b h) hb.size) (Sl.keep hl (Agree.below hb hF) fun _ _ h => h))
  obtain ⟨Al, al, hvl, _, hll, _⟩ := id hl
  have hok : Cou.Ok (Cou.makeF p) := Cou.right_ok (Cou.make_right hp.len)
  have hrt : Cou.rightF (Cou.makeF p) = 0 := Cou.make_right hp.len
  have hcl4 : (Cou.makeF p).cps.length ≤ 4 := makeF_cps
  have hdr := makeF_drawn hp
  have hsm := (makeF_divs (p := p)).1
  have hd3 := (makeF_divs (p := p)).2
  have hn1 := makeF_pos hp.len
  subst hvl
  unfold plCells at *
  obtain ⟨ll, hll9⟩ : ∃ ll, p.links.length = ll := ⟨_, rfl⟩
  rw [hll9] at hll HM ⊢
  generalize ((p.dv.getD 0 (0, 0)).1 : Int) = d0 at *
  generalize ((p.dv.getD 0 (0, 0)).2 : Int) = d1 at *
  generalize ((p.dv.getD 1 (0, 0)).1 : Int) = d2 at *
  generalize ((p.dv.getD 1 (0, 0)).2 : Int) = d3 at *
  generalize ((p.dv.getD 2 (0, 0)).1 : Int) = d4 at *
  generalize ((p.dv.getD 2 (0, 0)).2 : Int) = d5 at *
  generalize (p.more : Int) = mo at *
  generalize (p.drawn : Int) = dr at *
  generalize Cou.makeF p = a at *
  try dsimp only
  clear hl hll9 hp
  obtain ⟨w1, hw1⟩ : ∃ w1 : World, (w.alloc (.cells #[.int .u8 d0, .int .u8 d1, .int .u8 d2, .int .u8 d3, .int .u8 d4, .int .u8 d5, .int .u8 mo, .slice Al ll al, .int .u8 dr] 26)) = w1 := ⟨_, rfl⟩
  obtain ⟨pb, hpb⟩ : ∃ pb, w.heap.size = pb := ⟨_, rfl⟩
  have PB : Blk w1 pb 26 #[.int .u8 d0, .int .u8 d1, .int .u8 d2, .int .u8 d3, .int .u8 d4, .int .u8 d5, .int .u8 mo, .slice Al ll al, .int .u8 dr] := by
    rw [← hw1, ← hpb]; exact Blk.new w _ _
  have B1 : Below w.heap.size w w1 := by rw [← hw1]; exact Ba (B0 w) _
  have HPB := Lib.hid PB
  have HB1 := Lib.hid B1
  have HW1 := Lib.hid hw1
  have HPP := Lib.hid hpb
  clear PB  B1 hw1 hpb hW
  go_enter Tryd.func8, Tryd.ntmps8
  go_upto_region 1 with fail
  rw [HW1.out, HPP.out]
  by_cases h4 : 4 < ll
  · have d4' : decide ((4 : Int) < ll) = true := decide_eq_true (by omega)
    go_wp2_with (first
      | (go_at_call 11; (with_reducible refine ((HK.out _ HB2.out).mono ?_)); rintro e w3 ⟨rfl, hb3⟩; have HB3 := Lib.hid (Bt HB2.out hb3); clear hb3)
      | (go_at_call 11; (with_reducible refine ((HK.out _ HB1.out).mono ?_)); rintro e w2 ⟨rfl, hb2⟩; have HB2 := Lib.hid (Bt HB1.out hb2); have k7 := (HPB.out.below hb2 HPB.out.lt).cell 7; simp only [List.getElem?_toArray, List.getElem?_cons_zero, List.getElem?_cons_succ] at k7; clear hb2))
    go_ret
    exact ⟨rfl, HB3.out⟩
  · have d4' : decide ((4 : Int) < ll) = false := decide_eq_false (by omega)
    go_upto_region 3 with (go_at_call 11; (with_reducible refine ((HK.out _ HB1.out).mono ?_)); rintro e w2 ⟨rfl, hb2⟩; have HB2 := Lib.hid (Bt HB1.out hb2); have HP2 := Lib.hid (HPB.out.below hb2 HPB.out.lt);  have k7 := HP2.out.cell 7; simp only [List.getElem?_toArray, List.getElem?_cons_zero, List.getElem?_cons_succ] at k7; clear hb2)
    have k0 := HP2.out.cell 0
    have k1 := HP2.out.cell 1
    have k2 := HP2.out.cell 2
    have k3 := HP2.out.cell 3
    have k4 := HP2.out.cell 4
    have k5 := HP2.out.cell 5
    have k6 := HP2.out.cell 6
    have k8 := HP2.out.cell 8
    simp only [List.getElem?_toArray, List.getElem?_cons_zero, List.getElem?_cons_succ] at k0 k1 k2 k3 k4 k5 k6 k8
    go_upto_region 4 with (go_at_call 12; (with_reducible refine ((HM.out _ HB2.out).mono ?_)); rintro e w3 ⟨vd, vc, rfl, hA3, hb3⟩; obtain ⟨Ad, cd, rfl, _, _⟩ := id hA3.dv.open; obtain ⟨Ac, cc, rfl, _, _⟩ := id hA3.cp.open; have HA3 := Lib.hid hA3; have HB3 := Lib.hid (Bt HB2.out hb3);  clear hb3 hA3)
    obtain ⟨W4, hW4⟩ : ∃ W4 : World, w3.alloc (.cells #[.slice Ad a.divs.length cd, .slice Ac a.cps.length cc, .int .u64 a.drawn] 33) = W4 := ⟨_, rfl⟩
    obtain ⟨ab, hab⟩ : ∃ ab, w3.heap.size = ab := ⟨_, rfl⟩
    have AB : Blk W4 ab 33 #[.slice Ad a.divs.length cd, .slice Ac a.cps.length cc, .int .u64 a.drawn] := by rw [← hW4, ← hab]; exact Blk.new _ _ _
    have B4 : Below w3.heap.size w3 W4 := by rw [← hW4]; exact Ba (B0 w3) _
    have A4 := HA3.out.on B4
    rw [hW4, hab]
    have hB04 := Bt HB3.out B4
    have HKE := Lib.hid (fun W (hb : Below W4.heap.size W4 W) => (show W.cell? ⟨ab, 0, none⟩ = some (.slice Ad a.divs.length cd) ∧ W.cell? ⟨ab, 1, none⟩ = some (.slice Ac a.cps.length cc) ∧ W.cell? ⟨ab, 2, none⟩ = some (.int .u64 a.drawn) from ⟨(Bc hb AB.lt).trans (AB.cell 0), (Bc hb AB.lt).trans (AB.cell 1), (Bc hb AB.lt).trans (AB.cell 2)⟩))
    have HTW := Lib.hid (fun W (hb : Below W4.heap.size W4 W) => HTT.out.below (Bt hB04 hb))
    have HAW := Lib.hid (fun W (hb : Below W4.heap.size W4 W) => A4.on hb)
    have HB4 := Lib.hid hB04
    have HOK := Lib.hid hok
    have HRT := Lib.hid hrt
    have HSM := Lib.hid hsm
    have HAB := Lib.hid AB
    clear AB B4 A4  hW4 hab hB04 hok hrt hsm HA3 HB3  HP2  HPB  HK HM HTT k0 k1 k2 k3 k4 k5 k6 k7 k8
    obtain ⟨x0, x1, x2⟩ := HKE.out W4 (B0 W4)
    obtain ⟨c1, hc1⟩ : ∃ c, Cha.startF a key = c := ⟨_, rfl⟩
    obtain ⟨c2, hc2⟩ : ∃ c, Cha.startF a other = c := ⟨_, rfl⟩
    have hi1 : Cou.InA a c1 := by rw [← hc1]; exact Cha.start_in HOK.out hn1 key
    have hi2 : Cou.InA a c2 := by rw [← hc2]; exact Cha.start_in HOK.out hn1 other
    have hw1 := Cha.wrong_in hi1
    have hw2 := Cha.wrong_in hi2
    have hb1 : Cha.beginF a [c1] = 0 := by unfold Cha.beginF Cha.wrongsF Cha.wrongsF; rw [if_pos HRT.out, if_pos hw1]
    have hbe : Cha.beginF a [c1, c2] = 0 := by unfold Cha.beginF Cha.wrongsF Cha.wrongsF Cha.wrongsF; rw [if_pos HRT.out, if_pos hw1, if_pos hw2]
    have hst1 := fun W (hb : Below W4.heap.size W4 W) => start_any a HOK.out hn1 (.slice Ad a.divs.length cd) (.slice Ac a.cps.length cc) key hkey a.drawn W _ (HAW.out W hb)
    have hst2 := fun W (hb : Below W4.heap.size W4 W) => start_any a HOK.out hn1 (.slice Ad a.divs.length cd) (.slice Ac a.cps.length cc) other hother a.drawn W _ (HAW.out W hb)
    rw [hc1] at hst1
    rw [hc2] at hst2
    obtain ⟨E, hE⟩ : ∃ E, Cha.extG a c1 1025 [] [] = E := ⟨_, rfl⟩
    have hEX := fun W (hb : Below W4.heap.size W4 W) => (extend_any a HOK.out (.slice Ad a.divs.length cd) (.slice Ac a.cps.length cc) hdr c1 hi1 1025 [] (.slice none 0 0) [] (.slice none 0 0) W.heap.size W (fun b => b < W.heap.size) (HAW.out W hb).all (fun b _ e => by cases e) Sl.nil_ OwnL.nil (Nat.le_refl _) (by simp) (.inl rfl) (by simp)).mono (R' := fun e w' => ∃ v, e = .returned v ∧ OwnCh W.heap.size w' v E ∧ Below W.heap.size W w') fun e w' ⟨v, q1, q2, q3, _⟩ => ⟨v, q1, by rw [← hE]; exact q2, ⟨q3.os, q3.tape, q3.output, q3.size, fun i hi => q3.block i hi (by simp [Value.ownBlock])⟩⟩
    have hEl : E.length ≤ 401 := by rw [← hE]; exact Cha.extG_len a c1 1025 [] [] (by simp)
    have hal : E.length ≤ 400 → ∃ L, Cha.allF a c1 = some L ∧ L.Pairwise (fun x y => Cha.lessF x.1 y.1 = true) ∧ (E.map Prod.fst).Nodup ∧ ∀ y, y ∈ E ↔ y ∈ L := fun h => by
      rw [← hE] at h ⊢
      exact Cha.ext_all HOK.out c1 h
    have hAL := fun W (hb : Below W4.heap.size W4 W) => All_any a (.slice Ad a.divs.length cd) (.slice Ac a.cps.length cc) hdr c1 W _ (HAW.out W hb)
    have hTO := fun W (hb : Below W4.heap.size W4 W) => To_any a (.slice Ad a.divs.length cd) (.slice Ac a.cps.length cc) hdr c1 c2 W _ (HAW.out W hb)
    have hLE := fun W (hb : Below W4.heap.size W4 W) => Least_any a (.slice Ad a.divs.length cd) (.slice Ac a.cps.length cc) hdr c1 c2 W _ (HAW.out W hb)
    have har : ∀ L, Cha.allF a c1 = some L → Cha.allR a c1 = (0, L) := fun L h => by unfold Cha.allR; rw [if_pos hb1, h]
    have htr : ∀ L, Cha.allF a c1 = some L → Cha.toR a c1 c2 = (0, L.filter fun x => decide (x.2 = c2)) := fun L h => by unfold Cha.toR; rw [if_pos hbe, h]
    have hlr : Cha.leastR a c1 c2 = (0, Cha.leastF a c1 c2) := by unfold Cha.leastR; rw [if_pos hbe]
    rw [hlr] at hLE
    dsimp only at hLE
    obtain ⟨t1, t2⟩ := c1
    obtain ⟨u1, u2⟩ := c2
    have HST1 := Lib.hid hst1
    have HST2 := Lib.hid hst2
    have HEX := Lib.hid hEX
    have HAL := Lib.hid hAL
    have HTO := Lib.hid hTO
    have HLE := Lib.hid hLE
    have HAR := Lib.hid har
    have HTR := Lib.hid htr
    have HAA := Lib.hid hal
    clear hst1 hst2 hc1 hc2 hi1 hi2 hw1 hw2 hb1 hbe HTW HSM HRT hE hEX hal hAL hTO hLE har htr hlr HAW
    refine region_blocks (by kernel_rfl) ?_
    refine from_lawS 10 EK31 (fun _ s W => BG W4 s W) (FK31 W4.heap.size (.agg #[.slice Ad a.divs.length cd, .slice Ac a.cps.length cc, .int .u64 a.drawn]) (key : Nat) (other : Nat) t1 t2 u1 u2) VK31 (by kernel_rfl) rfl (FK31_V _ _ _ _ _ _ _ _) (by kernel_rfl) (by kernel_rfl) (BG.start (fun b h => by unfold sl at h; simp [undef] at h) (fun b h => by unfold sl at h; simp [undef] at h)) ⟨?_, ?_, ?_, ?_, ?_, ?_, ?_, ?_, ?_, ?_, trivial⟩ ?_
    · refine OpFactS.value rfl (FK31_below _ _ _ _ _ _ _ _) (fun L s s' w w' h hb hG => BG.keep (h 8 (by simp)) (h 9 (by simp)) hb hG) fun L a_ w2 hl hf D hb => ?_
      have h0 : sl a_ 7 = .pointer (some ⟨ab, 0, none⟩) := hf 7 (by kernel_rfl)
      have es := HKE.out w2 hb.1
      refine ⟨.agg #[.slice Ad a.divs.length cd, .slice Ac a.cps.length cc, .int .u64 a.drawn], w2, ?_, B0 _, fun s _ h => h 31 rfl⟩
      unfold sl at h0
      simp at h0
      simp [go_sem, h0, es]
    · refine OpFactS.value rfl (FK31_below _ _ _ _ _ _ _ _) (fun L s s' w w' h hb hG => BG.keep (h 8 (by simp)) (h 9 (by simp)) hb hG) fun L a_ w2 hl hf D hb => ?_
      have h0 : sl a_ 1 = .int .u8 (key : Nat) := hf 1 (by kernel_rfl)
      refine ⟨.int .u8 (key : Nat), w2, ?_, B0 _, fun s _ h => h 32 rfl⟩
      unfold sl at h0
      simp [go_sem, h0]
    · refine OpFactS.call rfl (FK31_below _ _ _ _ _ _ _ _) (fun L s s' w w' h hb hG => BG.keep (h 8 (by simp)) (h 9 (by simp)) hb hG) fun L a_ w2 hl hf D hb => ?_
      have h1 : sl a_ 31 = .agg #[.slice Ad a.divs.length cd, .slice Ac a.cps.length cc, .int .u64 a.drawn] := D 0 (by kernel_rfl)
      have h2 : sl a_ 32 = .int .u8 (key : Nat) := D 1 (by kernel_rfl)
      refine ⟨13, #[.agg #[.slice Ad a.divs.length cd, .slice Ac a.cps.length cc, .int .u64 a.drawn], .int .u8 (key : Nat)], ?_, (HST1.out w2 hb.1).mono ?_⟩
      · unfold sl at h1 h2
        simp at h1 h2
        simp [go_sem, h1, h2]
      · rintro e w' ⟨rfl, hb3⟩
        exact ⟨_, rfl, hb3, fun s _ h => h 33 rfl⟩
    · refine OpFactS.value rfl (FK31_below _ _ _ _ _ _ _ _) (fun L s s' w w' h hb hG => BG.keep (h 8 (by simp)) (h 9 (by simp)) hb hG) fun L a_ w2 hl hf D hb => ?_
      have h0 : sl a_ 7 = .pointer (some ⟨ab, 0, none⟩) := hf 7 (by kernel_rfl)
      have es := HKE.out w2 hb.1
      refine ⟨.agg #[.slice Ad a.divs.length cd, .slice Ac a.cps.length cc, .int .u64 a.drawn], w2, ?_, B0 _, fun s _ h => h 34 rfl⟩
      unfold sl at h0
      simp at h0
      simp [go_sem, h0, es]
    · refine OpFactS.value rfl (FK31_below _ _ _ _ _ _ _ _) (fun L s s' w w' h hb hG => BG.keep (h 8 (by simp)) (h 9 (by simp)) hb hG) fun L a_ w2 hl hf D hb => ?_
      have h0 : sl a_ 2 = .int .u8 (other : Nat) := hf 2 (by kernel_rfl)
      refine ⟨.int .u8 (other : Nat), w2, ?_, B0 _, fun s _ h => h 35 rfl⟩
      unfold sl at h0
      simp [go_sem, h0]
    · refine OpFactS.call rfl (FK31_below _ _ _ _ _ _ _ _) (fun L s s' w w' h hb hG => BG.keep (h 8 (by simp)) (h 9 (by simp)) hb hG) fun L a_ w2 hl hf D hb => ?_
      have h1 : sl a_ 34 = .agg #[.slice Ad a.divs.length cd, .slice Ac a.cps.length cc, .int .u64 a.drawn] := D 3 (by kernel_rfl)
      have h2 : sl a_ 35 = .int .u8 (other : Nat) := D 4 (by kernel_rfl)
      refine ⟨13, #[.agg #[.slice Ad a.divs.length cd, .slice Ac a.cps.length cc, .int .u64 a.drawn], .int .u8 (other : Nat)], ?_, (HST2.out w2 hb.1).mono ?_⟩
      · unfold sl at h1 h2
        simp at h1 h2
        simp [go_sem, h1, h2]
      · rintro e w' ⟨rfl, hb3⟩
        exact ⟨_, rfl, hb3, fun s _ h => h 36 rfl⟩
    · refine OpFactS.write rfl fun L a_ w2 hl hf D hb => ?_
      refine ⟨.pointer (some ⟨w2.heap.size, 0, none⟩), w2.alloc (.cells #[.int .i64 0, .int .i64 0] 36), ?_, fun s ho h => BG.new8 (h 8 rfl) (ho 9 (by simp)) _ hb, fun j _ _ hF => FK31_below _ _ _ _ _ _ _ _ j _ _ _ (Ba (B0 _) _) hF, fun s _ h => ⟨w2.heap.size, h 8 rfl, hb.1.size, _, _, Blk.new _ _ _⟩⟩
      first | kernel_rfl | simp [go_sem, zeroCt]
    · refine OpFactS.write rfl fun L a_ w2 hl hf D hb => ?_
      refine ⟨.pointer (some ⟨w2.heap.size, 0, none⟩), w2.alloc (.cells #[.int .i64 0, .int .i64 0] 36), ?_, fun s ho h => BG.new9 (h 9 rfl) (ho 8 (by simp)) _ hb, fun j _ _ hF => FK31_below _ _ _ _ _ _ _ _ j _ _ _ (Ba (B0 _) _) hF, fun s _ h => ⟨w2.heap.size, h 9 rfl, hb.1.size, _, _, Blk.new _ _ _⟩⟩
      first | kernel_rfl | simp [go_sem, zeroCt]
    · refine OpFactS.skip rfl fun L a_ w2 hl hf D hb => ?_
      obtain ⟨b, h8, hlb, x, y, hK⟩ : ∃ b, sl a_ 8 = .pointer (some ⟨b, 0, none⟩) ∧ W4.heap.size ≤ b ∧ ∃ x y, Blk w2 b 36 #[x, y] := D 6 (by kernel_rfl)
      have h1 : sl a_ 33 = .agg #[.int .i64 t1, .int .i64 t2] := D 2 (by kernel_rfl)
      have hK2 : Blk ((w2.setCell ⟨b, 0, none⟩ (.int .i64 t1)).setCell ⟨b, 1, none⟩ (.int .i64 t2)) b 36 #[.int .i64 t1, .int .i64 t2] := by simpa using (hK.set_ 0 (.int .i64 t1)).set_ 1 (.int .i64 t2)
      have e0 := hK.frozen 0
      have e1 := hK.frozen 1
      have e2 := hK.cell 0
      have e3 := hK.cell 1
      simp only [List.getElem?_toArray, List.getElem?_cons_zero, List.getElem?_cons_succ] at e2 e3
      refine ⟨(w2.setCell ⟨b, 0, none⟩ (.int .i64 t1)).setCell ⟨b, 1, none⟩ (.int .i64 t2), ?_, fun s ho => BG.set hlb (ho 8 (by simp)) (ho 9 (by simp)) _ _ hb, fun j hj hE hF => ?_, fun s ho => ⟨b, (ho 8 (by simp)).trans h8, hlb, hK2⟩⟩
      · unfold sl at h8 h1
        simp at h8 h1
        simp [go_sem, h8, h1, e0, e1, e2, e3]
      · match j with
        | 0 => exact hF
        | 1 => exact hF
        | 2 => exact hF
        | 3 => exact hF
        | 4 => exact hF
        | 5 => exact hF
        | 6 => exact ⟨b, h8, hlb, _, _, hK2⟩
        | 7 => obtain ⟨c, q1, q2, x', y', q3⟩ := hF; exact ⟨c, q1, q2, x', y', (q3.far (p := ⟨b, 0, none⟩) (fun e => hb.2.2.2 b c h8 q1 e.symm) _).far (p := ⟨b, 1, none⟩) (fun e => hb.2.2.2 b c h8 q1 e.symm) _⟩
        | 8 => exact absurd rfl hj
        | 9 => obtain ⟨c, q1, q2, q3⟩ := hF; exact ⟨c, q1, q2, (q3.far (p := ⟨b, 0, none⟩) (fun e => hb.2.2.2 b c h8 q1 e.symm) _).far (p := ⟨b, 1, none⟩) (fun e => hb.2.2.2 b c h8 q1 e.symm) _⟩
        | _ + 10 => trivial
    · refine OpFactS.skip rfl fun L a_ w2 hl hf D hb => ?_
      obtain ⟨b, h8, hlb, x, y, hK⟩ : ∃ b, sl a_ 9 = .pointer (some ⟨b, 0, none⟩) ∧ W4.heap.size ≤ b ∧ ∃ x y, Blk w2 b 36 #[x, y] := D 7 (by kernel_rfl)
      have h1 : sl a_ 36 = .agg #[.int .i64 u1, .int .i64 u2] := D 5 (by kernel_rfl)
      have hK2 : Blk ((w2.setCell ⟨b, 0, none⟩ (.int .i64 u1)).setCell ⟨b, 1, none⟩ (.int .i64 u2)) b 36 #[.int .i64 u1, .int .i64 u2] := by simpa using (hK.set_ 0 (.int .i64 u1)).set_ 1 (.int .i64 u2)
      have e0 := hK.frozen 0
      have e1 := hK.frozen 1
      have e2 := hK.cell 0
      have e3 := hK.cell 1
      simp only [List.getElem?_toArray, List.getElem?_cons_zero, List.getElem?_cons_succ] at e2 e3
      refine ⟨(w2.setCell ⟨b, 0, none⟩ (.int .i64 u1)).setCell ⟨b, 1, none⟩ (.int .i64 u2), ?_, fun s ho => BG.set hlb (ho 8 (by simp)) (ho 9 (by simp)) _ _ hb, fun j hj hE hF => ?_, fun s ho => ⟨b, (ho 9 (by simp)).trans h8, hlb, hK2⟩⟩
      · unfold sl at h8 h1
        simp at h8 h1
        simp [go_sem, h8, h1, e0, e1, e2, e3]
      · match j with
        | 0 => exact hF
        | 1 => exact hF
        | 2 => exact hF
        | 3 => exact hF
        | 4 => exact hF
        | 5 => exact hF
        | 6 => obtain ⟨c, q1, q2, x', y', q3⟩ := hF; exact ⟨c, q1, q2, x', y', (q3.far (p := ⟨b, 0, none⟩) (fun e => hb.2.2.2 c b q1 h8 e) _).far (p := ⟨b, 1, none⟩) (fun e => hb.2.2.2 c b q1 h8 e) _⟩
        | 7 => exact ⟨b, h8, hlb, _, _, hK2⟩
        | 8 => obtain ⟨c, q1, q2, q3⟩ := hF; exact ⟨c, q1, q2, (q3.far (p := ⟨b, 0, none⟩) (fun e => hb.2.2.2 c b q1 h8 e) _).far (p := ⟨b, 1, none⟩) (fun e => hb.2.2.2 c b q1 h8 e) _⟩
        | 9 => exact absurd rfl hj
        | _ + 10 => trivial
    intro L y W6 hb6 hF6
    obtain ⟨tb, h8, hlt, TB⟩ : ∃ b, y 8 = .pointer (some ⟨b, 0, none⟩) ∧ W4.heap.size ≤ b ∧ Blk W6 b 36 #[.int .i64 t1, .int .i64 t2] := hF6 8 (by decide) rfl
    obtain ⟨ub, h9, hlu, UB⟩ : ∃ b, y 9 = .pointer (some ⟨b, 0, none⟩) ∧ W4.heap.size ≤ b ∧ Blk W6 b 36 #[.int .i64 u1, .int .i64 u2] := hF6 9 (by decide) rfl
    have HB6 : Hid (Below W4.heap.size W4 W6) := Lib.hid hb6.1
    have HTB := Lib.hid TB
    have HUB := Lib.hid UB
    clear hF6 hb6 TB UB hlt hlu
    rw [aft8 (d0 := 31) (d1 := 32) (d2 := 33) (d3 := 34) (d4 := 35) (d5 := 36) (d6 := 8) (d7 := 9) (by kernel_rfl) rfl]
    rw [h8, h9]
    simp only [List.set_cons_succ, List.set_cons_zero]
    refine from_end rfl ?_
    clear x0 x1 x2 HST1 HST2
    have HKT := Lib.hid (fun W (hb : Below W6.heap.size W6 W) => (show (W.cell? ⟨ab, 0, none⟩ = some (.slice Ad a.divs.length cd) ∧ W.cell? ⟨ab, 1, none⟩ = some (.slice Ac a.cps.length cc) ∧ W.cell? ⟨ab, 2, none⟩ = some (.int .u64 a.drawn)) ∧ (W.cell? ⟨tb, 0, none⟩ = some (.int .i64 t1) ∧ W.cell? ⟨tb, 1, none⟩ = some (.int .i64 t2)) ∧ W.cell? ⟨ub, 0, none⟩ = some (.int .i64 u1) ∧ W.cell? ⟨ub, 1, none⟩ = some (.int .i64 u2) from
      ⟨HKE.out W (Bt HB6.out hb), ⟨(Bc hb HTB.out.lt).trans (HTB.out.cell 0), (Bc hb HTB.out.lt).trans (HTB.out.cell 1)⟩, (Bc hb HUB.out.lt).trans (HUB.out.cell 0), (Bc hb HUB.out.lt).trans (HUB.out.cell 1)⟩))
    obtain ⟨⟨x0, x1, x2⟩, ⟨x3, x4⟩, x5, x6⟩ := HKT.out W6 (B0 W6)
    obtain ⟨ne, hne⟩ : ∃ ne, E.length = ne := ⟨_, rfl⟩
    go_upto_region 6 with (go_at_call 32; (with_reducible refine ((HEX.out _ HB6.out).mono ?_)); rintro e w7 ⟨v7, rfl, ho7, hb7⟩; (have hvs : ∃ A7 c7, v7 = .slice A7 ne c7 := by obtain ⟨A7, c7, h, _⟩ := ho7.sl (F := fun _ => True) (by omega) fun _ _ _ _ => trivial; rw [hne] at h; exact ⟨A7, c7, h⟩); obtain ⟨A7, c7, rfl⟩ := hvs; have HO7 := Lib.hid ho7; have HB7 := Lib.hid hb7; clear x0 x1 x2 x3 x4 x5 x6; obtain ⟨⟨x0, x1, x2⟩, ⟨x3, x4⟩, x5, x6⟩ := HKT.out w7 hb7; clear hb7 ho7)
    by_cases h400 : 400 < ne
    · have d1 : decide ((400 : Int) < ne) = true := decide_eq_true (by omega)
      go_wp2_with fail
      go_ret
      exact ⟨rfl, Bt HB4.out (Bt HB6.out HB7.out)⟩
    · have d1 : decide ((400 : Int) < ne) = false := decide_eq_false (by omega)
      obtain ⟨L, hL1, hL2, hL3, hL4⟩ := HAA.out (by omega)
      have hso := sorted_ch (.slice A7 ne c7) E L (by omega) hL3 hL2 hL4 w7 HO7.out
      have hog : ∀ b, (Value.slice A7 ne c7).ownBlock = some b → W6.heap.size ≤ b := fun b h => (HO7.out.lt b h).1
      have hll : L.length ≤ 400 := by
        have h := Cha.nodup_le (L.map Prod.fst) (E.map Prod.fst) (by
          unfold List.Nodup
          rw [List.pairwise_map]
          exact hL2.imp fun hab e => by rw [e, Cha.lessF_irrefl] at hab; cases hab) fun x hx => by
            obtain ⟨y, hy, rfl⟩ := List.mem_map.1 hx
            exact List.mem_map.2 ⟨y, (hL4 y).2 hy, rfl⟩
        rw [List.length_map, List.length_map] at h
        omega
      have har := HAR.out L hL1
      have htr := HTR.out L hL1
      have hal := HAL.out
      have hto := HTO.out
      rw [har] at hal
      rw [htr] at hto
      dsimp only at hal hto
      have HSO := Lib.hid hso
      have HAL2 := Lib.hid hal
      have HTO2 := Lib.hid hto
      have HOG := Lib.hid hog
      have HL2 := Lib.hid hL2
      have HLH := Lib.hid (Cha.least_head HOK.out (t1, t2) (u1, u2) hL1 hL2 (Cha.all_ch hL1))
      clear hso hog har htr hal hto hL1 hL2 hL3 hL4 HAL HTO HAR HTR HAA h400 hne hEl
      go_upto_region 9 with (go_at_call 33; (with_reducible refine (HSO.out.mono ?_)); rintro e w8 ⟨rfl, hs8, hg8⟩; have HS8 := Lib.hid hs8; have HB8 := Lib.hid ((HB7.out).grown hg8 HB7.out.size HOG.out); clear hs8 hg8 x0 x1 x2 x3 x4 x5 x6)
      have hln : L.length = ne := by
        obtain ⟨A, c, e, -⟩ := HS8.out
        injection e with _ e _
        exact e.symm
      have HLN := Lib.hid hln
      clear hln
      obtain ⟨⟨x0, x1, x2⟩, ⟨x3, x4⟩, x5, x6⟩ := HKT.out w8 HB8.out
      go_upto_region 11 with (first
        | (go_at_call 29; (with_reducible refine ((HAL2.out _ (Bt HB6.out HB8.out)).mono ?_)); rintro e w9 ⟨v9, rfl, ho9, hb9⟩; (have hvs : ∃ A9 c9, v9 = .slice A9 ne c9 := by obtain ⟨A9, c9, h, _⟩ := ho9.sl (F := fun _ => True) (by omega) fun _ _ _ _ => trivial; rw [HLN.out] at h; exact ⟨A9, c9, h⟩); obtain ⟨A9, c9, rfl⟩ := hvs; have HS9 := Lib.hid (show SlCh (fun b => b < w9.heap.size) w9 (.slice A9 ne c9) L from ho9.sl (by omega) fun b _ h _ => h); have HW9 := Lib.hid (HS8.out.bel hb9); have HB9 := Lib.hid (Bt HB8.out hb9); clear x0 x1 x2 x3 x4 x5 x6; obtain ⟨⟨x0, x1, x2⟩, ⟨x3, x4⟩, x5, x6⟩ := HKT.out w9 HB9.out; clear hb9 ho9)
        | (go_at_call 30; (with_reducible refine ((HTO2.out _ (Bt HB6.out HB9.out)).mono ?_)); rintro e w10 ⟨v10, rfl, hs10, hb10⟩; (have hvs : ∃ A10 n10 c10, v10 = .slice A10 n10 c10 ∧ (L.filter fun x => decide (x.2 = (u1, u2))).length = n10 := by obtain ⟨A10, c10, h, _⟩ := id hs10; exact ⟨A10, _, c10, h, rfl⟩); obtain ⟨A10, n10, c10, rfl, hn10⟩ := hvs; have HN10 := Lib.hid hn10; clear hn10; have HS10 := Lib.hid (show SlCh (fun b => b < w10.heap.size) w10 _ _ from Sl.mono hs10 fun b h => h.2); have HS9b := Lib.hid (HS9.out.bel hb10); have HW10 := Lib.hid (HW9.out.bel hb10); have HB10 := Lib.hid (Bt HB9.out hb10); clear x0 x1 x2 x3 x4 x5 x6; obtain ⟨⟨x0, x1, x2⟩, ⟨x3, x4⟩, x5, x6⟩ := HKT.out w10 HB10.out; clear hb10 hs10))
      go_upto_region 12 with (go_at_call 31; (with_reducible refine ((HLE.out _ (Bt HB6.out HB10.out)).mono ?_)); rintro e w11 ⟨u11, rfl, hu11, hb11⟩; (have hvs : ∃ A11 n11 c11, u11 = .slice A11 n11 c11 := by obtain ⟨A11, c11, h, _⟩ := id hu11; exact ⟨A11, _, c11, h⟩); obtain ⟨A11, n11, c11, rfl⟩ := hvs; have HU11 := Lib.hid hu11; have HB11 := Lib.hid hb11; clear hb11 hu11)
      obtain ⟨fx, hfx⟩ : ∃ fx, Cha.leastF a (t1, t2) (u1, u2) = fx := ⟨_, rfl⟩
      have HFX := Lib.hid hfx
      rw [hfx] at HU11 ⊢
      clear hfx
      obtain ⟨y, hy⟩ : ∃ y, fx.getD ([], (0, 0)) = y := ⟨_, rfl⟩
      rw [hy] at HU11 ⊢
      have HY := Lib.hid hy
      clear hy
      obtain ⟨ys, y1, y2⟩ := y
      dsimp only at HU11
      obtain ⟨w12, hw12⟩ : ∃ w12 : World, w11.alloc (.cells #[.slice A11 n11 c11, .int .i64 y1, .int .i64 y2] 56) = w12 := ⟨_, rfl⟩
      obtain ⟨lb, hlb⟩ : ∃ lb, w11.heap.size = lb := ⟨_, rfl⟩
      have K12 : Blk w12 lb 56 #[.slice A11 n11 c11, .int .i64 y1, .int .i64 y2] := by rw [← hw12, ← hlb]; exact Blk.new _ _ _
      have B112 : Below w11.heap.size w11 w12 := by rw [← hw12]; exact Ba (B0 w11) _
      have HB12 : Hid (Below W6.heap.size W6 w12) := Lib.hid (Bt HB10.out (Bt HB11.out B112))
      have HS12 := Lib.hid (HS9b.out.bel (Bt HB11.out B112))
      have HW12 := Lib.hid (HW10.out.bel (Bt HB11.out B112))
      have HT12 := Lib.hid (HS10.out.bel (Bt HB11.out B112))
      have HY12 := Lib.hid (show SlI (fun b => b < w12.heap.size) w12 (.slice A11 n11 c11) ys from Sl.mono (SlI.keep HU11.out (Agree.below B112 fun b h => h)) fun b h => Nat.lt_of_lt_of_le h B112.size)
      have HK12 := Lib.hid K12
      try rw [hw12]
      try rw [hlb]
      clear hw12 hlb K12 B112 x0 x1 x2 x3 x4 x5 x6 HU11 HS8 HW9 HS9 HS10 HS9b HW10
      go_wp2_with fail
      go_loopg [18, 19] ne (fun gg s18 s19 wr => ∃ i : Nat, i ≤ ne ∧ ne - i ≤ gg ∧ s19 = .int .i64 i ∧ Aside (OwnCh w12.heap.size wr s18 ((L.take i).filter fun x => decide (x.2 = (u1, u2)))) ∧ Aside (Below w12.heap.size w12 wr))
      case atStart => exact ⟨0, by omega, by omega, rfl, (show Aside _ from by show OwnL _ _ _ _ _ _ _; rw [List.take_zero]; exact OwnL.nil), B0 w12⟩
      case round =>
        obtain ⟨i, hi, hgg, rfl, HO, HB⟩ := hrel
        replace HO := Lib.hid (show OwnCh w12.heap.size wr _ ((L.take i).filter fun x => decide (x.2 = (u1, u2))) from HO)
        replace HB : Hid (Below w12.heap.size w12 wr) := Lib.hid HB
        obtain ⟨m, hm⟩ : ∃ m, ((L.take i).filter fun x => decide (x.2 = (u1, u2))).length = m := ⟨_, rfl⟩
        have hml : m ≤ 400 := by
          have h1 := List.length_filter_le (fun x : Cha.Ch => decide (x.2 = (u1, u2))) (L.take i)
          have h2 : (L.take i).length ≤ i := by rw [List.length_take]; omega
          have h3 := HLN.out
          omega
        obtain ⟨A18, c18, hv, -⟩ := HO.out.sl (F := fun _ => True) (by omega) fun _ _ _ _ => trivial
        rw [hm] at hv
        subst hv
        have HM := Lib.hid hm
        clear hm
        obtain ⟨-, -, x5, x6⟩ := HKT.out wr (Bt HB12.out HB.out)
        by_cases hlt : i < ne
        · have hiI : (i : Int) < ne := by omega
          have hiL : i < L.length := by rw [HLN.out]; exact hlt
          obtain ⟨A', c', e, -, -, hat⟩ := HW12.out.bel HB.out
          injection e with e1 e2 e3
          subst e1; clear e2 e3
          obtain ⟨ad, cs, rfl, -, -, ⟨u, rfl, hu⟩, hfl⟩ := hat i hiL
          have htk : (L.take (i + 1)).filter (fun x => decide (x.2 = (u1, u2))) = ((L.take i).filter fun x => decide (x.2 = (u1, u2))) ++ (if L[i].2 = (u1, u2) then [L[i]] else []) := by
            rw [List.take_add_one, List.getElem?_eq_getElem hiL, List.filter_append]
            by_cases h : L[i].2 = (u1, u2) <;> simp [h]
          obtain ⟨z, hz⟩ : ∃ z, L[i] = z := ⟨_, rfl⟩
          rw [hz] at hu hfl htk
          obtain ⟨zs, z1, z2⟩ := z
          obtain ⟨Au, cu, hue, -, -⟩ := SlI.open hu
          obtain ⟨nu, hnu⟩ : ∃ nu, zs.length = nu := ⟨_, rfl⟩
          dsimp only at hu hfl htk hue
          rw [hnu] at hue
          subst hue
          have f0 := hfl.f0 rfl
          have f1 := hfl.f1 rfl
          have f2 := hfl.f2 rfl
          have HU := Lib.hid hu
          clear hat hu hfl hz hnu
          by_cases hze : (z1, z2) = (u1, u2)
          · rw [if_pos hze] at htk
            have HTK := Lib.hid htk
            injection hze with hz1 hz2
            subst hz1 hz2
            clear htk
            go_upto_region 16 with fail
            go_quiet (fail)
            generalize hw13 : World.drewN wr _ = w13
            have hb13 : Below wr.heap.size wr w13 := by rw [← hw13]; exact below_drewN (B0 wr) _
            have p0 : w13.cell? (ad.add (i * 3)) = some (.slice Au nu cu) := by rw [← hw13]; exact f0
            have p1 : w13.cell? ⟨(ad.add (i * 3)).block, (ad.add (i * 3)).off + 1, none⟩ = some (.int .i64 z1) := by rw [← hw13]; exact f1
            have p2 : w13.cell? ⟨(ad.add (i * 3)).block, (ad.add (i * 3)).off + 2, none⟩ = some (.int .i64 z2) := by rw [← hw13]; exact f2
            obtain ⟨ds, q1, q2, q3⟩ := OwnCh.below HO.out hb13
            rw [HM.out] at q1 q3
            have HQ1 := Lib.hid q1
            have HQ2 := Lib.hid q2
            have HQ3 := Lib.hid q3
            have HU13 : Hid (SlI (IsC w13) w13 (.slice Au nu cu) zs) := Lib.hid ((SlI.keep HU.out (Agree.below hb13 fun b h => h.lt)).mono fun b h => h.below hb13)
            have HB13 := Lib.hid (Bt HB.out hb13)
            have hb12 : w12.heap.size ≤ w13.heap.size := HB13.out.size
            clear hw13 hb13 f0 f1 f2 x5 x6 q1 q2 q3
            go_wp2_with (at_builtin; refine wpList_appS elemCh (by omega) rfl _ _ rfl w12.heap.size _ m _ rfl (HQ3.out.alloc _) ⟨w13.heap.size, 0, none⟩ 1 [.slice Au nu cu, .int .i64 z1, .int .i64 z2] rfl rfl (Flds.new w13 _ _) (by simp [Value.oneCell']) (by omega) (by omega) (by simp; omega) ?_; intro g cap w14 hown hg14 hgg; have HOW := Lib.hid hown; have HG14 := Lib.hid hg14; clear hown hg14 hgg p0 p1 p2)
            go_roundg (ne - (i + 1))
            case measure => omega
            case rel =>
              have hq3a := HQ3.out.alloc (.cells #[.slice Au nu cu, .int .i64 z1, .int .i64 z2] 56)
              have hco := isC_own hq3a (show 56 ≠ 3 by decide) (by decide)
              have hch : ∀ cs y, ChC w13 cs y → ChC w14 cs y := fun cs y h => (h.below (Ba (B0 w13) _)).grown HG14.out hco
              refine ⟨i + 1, by omega, by omega, by go_num, (show Aside _ from ?_), (show Aside _ from ?_)⟩
              · show OwnL _ _ _ _ _ _ _
                rw [HTK.out]
                exact OwnL.snoc (by rw [HM.out]; exact HQ1.out) HQ2.out rfl (hch _ _ ⟨_, rfl, HU13.out⟩) hch (by rw [HM.out]; exact HOW.out)
              · show Below _ _ _
                exact (Ba HB13.out _).grown HG14.out (Ba HB13.out _).size fun b e => (hq3a.lt b e).1
          · rw [if_neg hze, List.append_nil] at htk
            have HTK := Lib.hid htk
            clear htk
            by_cases h1 : z1 = u1
            · subst h1
              have h2 : (z2 == u2) = false := by simpa using hze
              clear hze
              go_upto_region 16 with fail
              go_quiet (fail)
              go_wp2_with fail
              go_roundg (ne - (i + 1))
              case measure => omega
              case rel => exact ⟨i + 1, by omega, by omega, by go_num, (show Aside _ from by show OwnL _ _ _ _ _ _ _; rw [HTK.out]; exact OwnCh.below HO.out (below_drewN (B0 wr) _)), below_drewN HB.out _⟩
            · have h2 : (z1 == u1) = false := by simpa using h1
              clear hze h1
              go_upto_region 16 with fail
              go_quiet (fail)
              go_wp2_with fail
              go_roundg (ne - (i + 1))
              case measure => omega
              case rel => exact ⟨i + 1, by omega, by omega, by go_num, (show Aside _ from by show OwnL _ _ _ _ _ _ _; rw [HTK.out]; exact OwnCh.below HO.out (below_drewN (B0 wr) _)), below_drewN HB.out _⟩
        · have hF : ((L.take i).filter fun x => decide (x.2 = (u1, u2))) = L.filter fun x => decide (x.2 = (u1, u2)) := by
            have h : i = L.length := by rw [HLN.out]; omega
            rw [h, List.take_length]
          obtain rfl : i = ne := by omega
          have ho := HO.out
          have hmm := HM.out
          have hnn := HN10.out
          have hfx := HLH.out
          have htt := HT12.out.bel HB.out
          rw [HFX.out] at hfx
          rw [hF] at ho hmm
          obtain ⟨D, hD⟩ : ∃ D, (L.filter fun x => decide (x.2 = (u1, u2))) = D := ⟨_, rfl⟩
          rw [hD] at ho hmm hnn hfx htt
          obtain rfl : n10 = m := by rw [← hnn]; exact hmm
          have hsd : SlCh (fun b => b < wr.heap.size) wr (.slice A18 n10 c18) D := ho.sl (by omega) fun b _ h _ => h
          have hsl := HS12.out.bel HB.out
          have hsw := HW12.out.bel HB.out
          have hs1 : ∀ W, Below wr.heap.size wr W → Calls Tryd.prog 34 #[.slice A9 i c9, .slice A7 i c7] W fun e w' => e = .returned (.bool true) ∧ Below W.heap.size W w' := fun W hb => same_self _ _ L W (hsl.bel hb).w (hsw.bel hb).w
          have hs2 : ∀ W, Below wr.heap.size wr W → Calls Tryd.prog 34 #[.slice A10 n10 c10, .slice A18 n10 c18] W fun e w' => e = .returned (.bool true) ∧ Below W.heap.size W w' := fun W hb => same_self _ _ D W (htt.bel hb).w (hsd.bel hb).w
          have HS1 := Lib.hid hs1
          have HS2 := Lib.hid hs2
          have HSD := Lib.hid hsd
          clear hs1 hs2 hsd hsl hsw htt hnn hF ho x5 x6
          cases D with
          | nil =>
            obtain rfl : n10 = 0 := by rw [← hmm]; rfl
            obtain rfl : fx = none := hfx
            have hyy := HY.out
            injection hyy with hy1 hy2
            injection hy2 with hy2 hy3
            subst hy1 hy2 hy3
            go_upto_region 20 with (first
              | (go_at_call 34; (with_reducible refine ((HS1.out _ (B0 wr)).mono ?_)); rintro e w17 ⟨rfl, hb17⟩; have HB17 := Lib.hid hb17; clear hb17)
              | (go_at_call 34; (with_reducible refine ((HS2.out _ HB17.out).mono ?_)); rintro e w18 ⟨rfl, hb18⟩; have HB18 := Lib.hid (Bt HB17.out hb18); clear hb18))
            have HSD2 := Lib.hid (HSD.out.bel HB18.out)
            have HYq := Lib.hid (show SlI (fun b => b < w18.heap.size) w18 (.slice A11 n11 c11) _ from Sl.mono (SlI.keep HY12.out (Agree.below (Bt HB.out HB18.out) fun b h => h)) fun b h => Nat.lt_of_lt_of_le h (Bt HB.out HB18.out).size)
            have HK18 := Lib.hid (HK12.out.below (Bt HB.out HB18.out) HK12.out.lt)
            obtain ⟨_, _, hnn, -, -⟩ := SlI.open HYq.out
            injection hnn with _ hnn _
            obtain rfl : n11 = 0 := hnn
            have k0 := HK18.out.cell 0
            simp only [List.getElem?_toArray, List.getElem?_cons_zero, List.getElem?_cons_succ] at k0
            go_quiet (fail)
            go_wp2_with fail
            go_ret
            exact ⟨rfl, Bt HB4.out (Bt HB6.out (Bt HB12.out (Bt HB.out (below_drewN HB18.out _))))⟩
          | cons y l =>
            obtain rfl : fx = some y := hfx
            obtain rfl : y = (ys, y1, y2) := HY.out
            have d1 : decide ((0 : Int) < n10) = true := decide_eq_true (by rw [List.length_cons] at hmm; omega)
            have d2 : decide (0 < n10) = true := decide_eq_true (by rw [List.length_cons] at hmm; omega)
            have hcp := SlW.cap HSD.out.w
            have d3 : ¬ ((c18 : Int) < 1) := by rw [List.length_cons] at hcp; omega
            have d4 : ((c18 : Int) < 1) ↔ False := ⟨d3, False.elim⟩
            clear hcp
            go_upto_region 20 with (first
              | (go_at_call 34; (with_reducible refine ((HS1.out _ (B0 wr)).mono ?_)); rintro e w17 ⟨rfl, hb17⟩; have HB17 := Lib.hid hb17; clear hb17)
              | (go_at_call 34; (with_reducible refine ((HS2.out _ HB17.out).mono ?_)); rintro e w18 ⟨rfl, hb18⟩; have HB18 := Lib.hid (Bt HB17.out hb18); clear hb18))
            have HSD2 := Lib.hid (HSD.out.bel HB18.out)
            have HYq := Lib.hid (show SlI (fun b => b < w18.heap.size) w18 (.slice A11 n11 c11) _ from Sl.mono (SlI.keep HY12.out (Agree.below (Bt HB.out HB18.out) fun b h => h)) fun b h => Nat.lt_of_lt_of_le h (Bt HB.out HB18.out).size)
            have HK18 := Lib.hid (HK12.out.below (Bt HB.out HB18.out) HK12.out.lt)
            have hk0 := HK18.out.cell 0
            have hk1 := HK18.out.cell 1
            have hk2 := HK18.out.cell 2
            simp only [List.getElem?_toArray, List.getElem?_cons_zero, List.getElem?_cons_succ] at hk0 hk1 hk2
            have HS := Lib.hid (fun W (hb : Below w18.heap.size w18 W) => (show W.cell? ⟨lb, 0, none⟩ = some (.slice A11 n11 c11) ∧ W.cell? ⟨lb, 1, none⟩ = some (.int .i64 y1) ∧ W.cell? ⟨lb, 2, none⟩ = some (.int .i64 y2) from ⟨(Bc hb HK18.out.lt).trans hk0, (Bc hb HK18.out.lt).trans hk1, (Bc hb HK18.out.lt).trans hk2⟩))
            have HDU := Lib.hid (fun W (hb : Below w18.heap.size w18 W) => SlW.head (SlW.bel HSD2.out.w hb))
            have HYW := Lib.hid (fun W (hb : Below w18.heap.size w18 W) => (show ChW W [.slice A11 n11 c11, .int .i64 y1, .int .i64 y2] (ys, y1, y2) from ⟨_, rfl, ChW.slI (HYq.out) hb⟩))
            have hBB : ∀ (L : Nat → Bool) (i : Nat) (w w' : World), Below w.heap.size w w' → Below w18.heap.size w18 w → Below w18.heap.size w18 w' := fun _ _ _ _ h1 h2 => Bt h2 h1
            clear hk0 hk1 hk2
            refine region_blocks (by kernel_rfl) ?_
            refine from_lawW 19 EA20 (fun _ W => Below w18.heap.size w18 W) (FA20 lb A11 n11 c11 ys y1 y2 A18 n10 c18) VA20 (by kernel_rfl) rfl (FA20_V _ _ _ _ _ _ _ _ _ _) (by kernel_rfl) (by kernel_rfl) ((B0 w18).drew) ⟨?_, ?_, ?_, ?_, ?_, ?_, ?_, ?_, ?_, ?_, ?_, ?_, ?_, ?_, ?_, ?_, ?_, ?_, ?_, trivial⟩ ?_
            · refine OpFactW.value rfl (FA20_below _ _ _ _ _ _ _ _ _ _) hBB fun L a w2 hl hf D hb => ?_
              have h0 : sl a 16 = .bool true := hf 16 (by kernel_rfl)
              refine ⟨.bool true, w2, ?_, B0 _, fun s _ h => h 115 rfl⟩
              unfold sl at h0
              simp [go_sem, h0]
            · refine OpFactW.value rfl (FA20_below _ _ _ _ _ _ _ _ _ _) hBB fun L a w2 hl hf D hb => ?_
              have h1 : sl a 115 = .bool true := D 0 (by kernel_rfl)
              refine ⟨.bool false, w2, ?_, B0 _, fun s _ h => h 116 rfl⟩
              unfold sl at h1
              simp at h1
              simp [go_sem, h1]
            · refine OpFactW.value rfl (FA20_below _ _ _ _ _ _ _ _ _ _) hBB fun L a w2 hl hf D hb => ?_
              have h1 : sl a 116 = .bool false := D 1 (by kernel_rfl)
              refine ⟨.bool false, w2, ?_, B0 _, fun s _ h => h 117 rfl⟩
              unfold sl at h1
              simp at h1
              simp [go_sem, h1]
            · refine OpFactW.off (g := 2) (d := 117) (c := false) rfl rfl (by simp) (by decide) (fun _ _ _ h => h) (fun s w h => h) (by kernel_rfl) (fun s w => trivial)
            · refine OpFactW.off (g := 2) (d := 117) (c := false) rfl rfl (by simp) (by decide) (fun _ _ _ h => h) (fun s w h => h) (by kernel_rfl) (fun s w => trivial)
            · refine OpFactW.off (g := 2) (d := 117) (c := false) rfl rfl (by simp) (by decide) (fun _ _ _ h => h) (fun s w h => h) (by kernel_rfl) (fun s w => trivial)
            · refine OpFactW.off (g := 2) (d := 117) (c := false) rfl rfl (by simp) (by decide) (fun _ _ _ h => h) (fun s w h => h) (by kernel_rfl) (fun s w => trivial)
            · refine OpFactW.value rfl (FA20_below _ _ _ _ _ _ _ _ _ _) hBB fun L a w2 hl hf D hb => ?_
              have h1 : sl a 117 = .bool false := D 2 (by kernel_rfl)
              refine ⟨.bool false, w2, ?_, B0 _, fun s _ h => h 122 rfl⟩
              unfold sl at h1
              simp at h1
              simp [go_sem, h1]
            · refine OpFactW.value rfl (FA20_below _ _ _ _ _ _ _ _ _ _) hBB fun L a w2 hl hf D hb => ?_
              have h1 : sl a 122 = .bool false := D 7 (by kernel_rfl)
              refine ⟨.bool false, w2, ?_, B0 _, fun s _ h => h 123 rfl⟩
              unfold sl at h1
              simp at h1
              simp [go_sem, h1]
            · refine OpFactW.on (g := 8) (d := 123) rfl rfl (fun s w h => h) (by kernel_rfl) fun L a w2 hl hf D hb => OpFactW.wp_value (L := L) (FA20_below _ _ _ _ _ _ _ _ _ _) hBB hb ?_
              have h0 : sl a 16 = .bool true := hf 16 (by kernel_rfl)
              refine ⟨.bool true, w2, ?_, B0 _, fun s _ h => h 124 rfl⟩
              unfold sl at h0
              simp [go_sem, h0]
            · refine OpFactW.on (g := 8) (d := 123) rfl rfl (fun s w h => h) (by kernel_rfl) fun L a w2 hl hf D hb => OpFactW.wp_value (L := L) (FA20_below _ _ _ _ _ _ _ _ _ _) hBB hb ?_
              have h1 : sl a 124 = .bool true := D 9 (by kernel_rfl)
              refine ⟨.bool true, w2, ?_, B0 _, fun s _ h => h 125 rfl⟩
              unfold sl at h1
              simp at h1
              simp [go_sem, h1]
            · refine OpFactW.on (g := 10) (d := 125) rfl rfl (fun s w h => h) (by kernel_rfl) fun L a w2 hl hf D hb => OpFactW.wp_value (L := L) (FA20_below _ _ _ _ _ _ _ _ _ _) hBB hb ?_
              have h0 : sl a 15 = .pointer (some ⟨lb, 0, none⟩) := hf 15 (by kernel_rfl)
              have es := HS.out w2 hb
              refine ⟨.agg #[.slice A11 n11 c11, .int .i64 y1, .int .i64 y2], w2, ?_, B0 _, fun s _ h => h 126 rfl⟩
              unfold sl at h0
              simp at h0
              simp [go_sem, h0, es]
            · refine OpFactW.on (g := 10) (d := 125) rfl rfl (fun s w h => h) (by kernel_rfl) fun L a w2 hl hf D hb => OpFactW.wp_value (L := L) (FA20_below _ _ _ _ _ _ _ _ _ _) hBB hb ?_
              have h1 : sl a 126 = .agg #[.slice A11 n11 c11, .int .i64 y1, .int .i64 y2] := D 11 (by kernel_rfl)
              refine ⟨.slice (some ⟨w2.heap.size, 0, none⟩) 1 1, w2.alloc (.cells #[.slice A11 n11 c11, .int .i64 y1, .int .i64 y2] 56), ?_, Ba (B0 _) _, fun s _ h => ?_⟩
              · unfold sl at h1
                simp at h1
                simp [go_sem, h1]
              · have e127 := h 127 rfl
                show rdCh _ (s 127) _
                rw [e127]
                exact SlW.new HYW.out w2 hb
            · refine OpFactW.on (g := 10) (d := 125) rfl rfl (fun s w h => h) (by kernel_rfl) fun L a w2 hl hf D hb => OpFactW.wp_value (L := L) (FA20_below _ _ _ _ _ _ _ _ _ _) hBB hb ?_
              have h0 : sl a 18 = .slice A18 n10 c18 := hf 18 (by kernel_rfl)
              refine ⟨.slice A18 n10 c18, w2, ?_, B0 _, fun s _ h => h 128 rfl⟩
              unfold sl at h0
              simp [go_sem, h0]
            · refine OpFactW.on (g := 10) (d := 125) rfl rfl (fun s w h => h) (by kernel_rfl) fun L a w2 hl hf D hb => OpFactW.wp_value (L := L) (FA20_below _ _ _ _ _ _ _ _ _ _) hBB hb ?_
              have h1 : sl a 128 = .slice A18 n10 c18 := D 13 (by kernel_rfl)
              refine ⟨.slice A18 1 c18, w2, ?_, B0 _, fun s _ h => h 129 rfl⟩
              unfold sl at h1
              simp at h1
              simp [go_sem, h1, d1, d2, d3, d4]
            · refine OpFactW.on (g := 10) (d := 125) rfl rfl (fun s w h => h) (by kernel_rfl) fun L a w2 hl hf D hb => OpFactW.wp_call (L := L) (FA20_below _ _ _ _ _ _ _ _ _ _) hBB hb ?_
              have h1 : rdCh w2 (sl a 127) [(ys, y1, y2)] := D 12 (by kernel_rfl)
              have h2 : sl a 129 = .slice A18 1 c18 := D 14 (by kernel_rfl)
              obtain ⟨vv, hv⟩ : ∃ vv, sl a 127 = vv := ⟨_, rfl⟩
              rw [hv] at h1
              refine ⟨34, #[vv, .slice A18 1 c18], ?_, (same_self vv (.slice A18 1 c18) _ w2 h1 (HDU.out w2 hb)).mono ?_⟩
              · unfold sl at hv h2
                simp at hv h2
                simp [go_sem, hv, h2]
              · rintro e w' ⟨rfl, hb3⟩
                exact ⟨_, rfl, hb3, fun s _ h => h 130 rfl⟩
            · refine OpFactW.on (g := 8) (d := 123) rfl rfl (fun s w h => h) (by kernel_rfl) fun L a w2 hl hf D hb => OpFactW.wp_value (L := L) (FA20_below _ _ _ _ _ _ _ _ _ _) hBB hb ?_
              have h1 : sl a 125 = .bool true := D 10 (by kernel_rfl)
              have h2 : sl a 130 = .bool true := D 15 (by kernel_rfl)
              refine ⟨.bool true, w2, ?_, B0 _, fun s _ h => h 131 rfl⟩
              unfold sl at h1 h2
              simp at h1 h2
              simp [go_sem, h1, h2]
            · refine OpFactW.value rfl (FA20_below _ _ _ _ _ _ _ _ _ _) hBB fun L a w2 hl hf D hb => ?_
              have h1 : sl a 123 = .bool false := D 8 (by kernel_rfl)
              have h2 : sl a 131 = .bool true := D 16 (by kernel_rfl)
              refine ⟨.bool true, w2, ?_, B0 _, fun s _ h => h 132 rfl⟩
              unfold sl at h1 h2
              simp at h1 h2
              simp [go_sem, h1, h2]
            · refine OpFactW.value rfl (FA20_below _ _ _ _ _ _ _ _ _ _) hBB fun L a w2 hl hf D hb => ?_
              have h1 : sl a 132 = .bool true := D 17 (by kernel_rfl)
              refine ⟨.bool true, w2, ?_, B0 _, fun s _ h => h 6 rfl⟩
              unfold sl at h1
              simp at h1
              simp [go_sem, h1]
            intro L9 y9 w19 hb19 hF9
            have h6 : y9 6 = .bool true := hF9 18 (by decide) rfl
            clear hF9
            rw [aft19 (d0 := 115) (d1 := 116) (d2 := 117) (d3 := 118) (d4 := 119) (d5 := 120) (d6 := 121) (d7 := 122) (d8 := 123) (d9 := 124) (d10 := 125) (d11 := 126) (d12 := 127) (d13 := 128) (d14 := 129) (d15 := 130) (d16 := 131) (d17 := 132) (d18 := 6) (by kernel_rfl) rfl]
            rw [h6]
            simp only [List.set_cons_succ, List.set_cons_zero]
            refine from_end rfl ?_
            go_wp2_with fail
            go_ret
            exact ⟨rfl, Bt HB4.out (Bt HB6.out (Bt HB12.out (Bt HB.out (Bt HB18.out hb19))))⟩
end Go.Proofs.YtahlfndlkfoikaaDoor
