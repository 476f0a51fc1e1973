/- Walks over coupler's statements: CouplerGrows. -/
import Derived.Test.YtnkjhppjjklgfaaDoorTd
import Derived.Test.YtnkjhppjjklgfaaDoorKC
namespace Go.Proofs.YtnkjhppjjklgfaaDoor
open Go Go.RowKit Go.Shelf
set_option maxRecDepth 100000 in
set_option maxHeartbeats 8000000 in
theorem law_grows (p : Cou.Pl) (hp : PlOk p) (vl : Value) (b0 b1 b2 : Nat) (hb0 : b0 < 65536) (hb1 : b1 < 65536) (hb2 : b2 < 65536) (m0 m1 m2 : Nat) (hm0 : m0 < 65536) (hm1 : m1 < 65536) (hm2 : m2 < 65536) (w : World) (F : Nat → Prop) (hF : ∀ b, F b → b < w.heap.size) (hl : SlLk F w vl p.links) (hT : Tab64 w) (hg : 0 < w.heap.size) :
    Calls Tryd.prog 9 #[.agg (plCells p vl), .agg #[.int .u16 b0, .int .u16 b1, .int .u16 b2], .agg #[.int .u16 m0, .int .u16 m1, .int .u16 m2]] w fun e w' => e = .returned (.bool true) ∧ Below w.heap.size w w' := by
  have HTT := Lib.hid hT
  have HK := Lib.hid (fun W (hb : Below w.heap.size w W) => known_any W (hT.below hb) (Nat.lt_of_lt_of_le hg hb.size))
  have HM := Lib.hid (fun W (hb : Below w.heap.size w W) => make_any p hp vl W F (fun b h => Nat.lt_of_lt_of_le (hF b h) hb.size) (Sl.keep hl (Agree.below hb hF) fun _ _ h => h))
  obtain ⟨Al, al, hvl, _, hll, _⟩ := id hl
  have hok : Cou.Ok (Cou.makeF p) := Cou.right_ok (Cou.make_right hp.len)
  have hrt : Cou.rightF (Cou.makeF p) = 0 := Cou.make_right hp.len
  have hcl4 : (Cou.makeF p).cps.length ≤ 4 := makeF_cps
  have hdr := makeF_drawn hp
  have hsm := (makeF_divs (p := p)).1
  have hd3 := (makeF_divs (p := p)).2
  have hn1 := makeF_pos hp.len
  subst hvl
  unfold plCells at *
  obtain ⟨ll, hll9⟩ : ∃ ll, p.links.length = ll := ⟨_, rfl⟩
  rw [hll9] at hll HM ⊢
  generalize ((p.dv.getD 0 (0, 0)).1 : Int) = d0 at *
  generalize ((p.dv.getD 0 (0, 0)).2 : Int) = d1 at *
  generalize ((p.dv.getD 1 (0, 0)).1 : Int) = d2 at *
  generalize ((p.dv.getD 1 (0, 0)).2 : Int) = d3 at *
  generalize ((p.dv.getD 2 (0, 0)).1 : Int) = d4 at *
  generalize ((p.dv.getD 2 (0, 0)).2 : Int) = d5 at *
  generalize (p.more : Int) = mo at *
  generalize (p.drawn : Int) = dr at *
  generalize Cou.makeF p = a at *
  try dsimp only
  clear hl hll9 hp
  obtain ⟨w1, hw1⟩ : ∃ w1 : World, ((w.alloc (.cells #[.int .u8 d0, .int .u8 d1, .int .u8 d2, .int .u8 d3, .int .u8 d4, .int .u8 d5, .int .u8 mo, .slice Al ll al, .int .u8 dr] 26)).alloc (.cells #[.int .u16 b0, .int .u16 b1, .int .u16 b2] 62)).alloc (.cells #[.int .u16 m0, .int .u16 m1, .int .u16 m2] 62) = w1 := ⟨_, rfl⟩
  obtain ⟨pb, hpb⟩ : ∃ pb, w.heap.size = pb := ⟨_, rfl⟩
  have PB : Blk w1 pb 26 #[.int .u8 d0, .int .u8 d1, .int .u8 d2, .int .u8 d3, .int .u8 d4, .int .u8 d5, .int .u8 mo, .slice Al ll al, .int .u8 dr] := by
    rw [← hw1, ← hpb]; exact ((Blk.new w _ _).alloc _).alloc _
  have CB0 : Blk w1 (pb + 1) 62 #[.int .u16 b0, .int .u16 b1, .int .u16 b2] := by
    have := (Blk.new (w.alloc (.cells #[.int .u8 d0, .int .u8 d1, .int .u8 d2, .int .u8 d3, .int .u8 d4, .int .u8 d5, .int .u8 mo, .slice Al ll al, .int .u8 dr] 26)) 62 #[.int .u16 b0, .int .u16 b1, .int .u16 b2]).alloc (.cells #[.int .u16 m0, .int .u16 m1, .int .u16 m2] 62)
    rw [hw1] at this
    simpa [hpb] using this
  have CB1 : Blk w1 (pb + 2) 62 #[.int .u16 m0, .int .u16 m1, .int .u16 m2] := by
    have := Blk.new ((w.alloc (.cells #[.int .u8 d0, .int .u8 d1, .int .u8 d2, .int .u8 d3, .int .u8 d4, .int .u8 d5, .int .u8 mo, .slice Al ll al, .int .u8 dr] 26)).alloc (.cells #[.int .u16 b0, .int .u16 b1, .int .u16 b2] 62)) 62 #[.int .u16 m0, .int .u16 m1, .int .u16 m2]
    rw [hw1] at this
    simpa [hpb] using this
  have B1 : Below w.heap.size w w1 := by rw [← hw1]; exact Ba (Ba (Ba (B0 w) _) _) _
  have HPB := Lib.hid PB
  have HCB0 := Lib.hid CB0
  have HCB1 := Lib.hid CB1
  have HB1 := Lib.hid B1
  have HW1 := Lib.hid hw1
  have HPP := Lib.hid hpb
  clear PB CB0 CB1 B1 hw1 hpb hT
  go_enter Tryd.func9, Tryd.ntmps9
  go_upto_region 1 with fail
  rw [HW1.out, HPP.out]
  by_cases h4 : 4 < ll
  · have d4' : decide ((4 : Int) < ll) = true := decide_eq_true (by omega)
    go_wp2_with (first
      | (go_at_call 11; (with_reducible refine ((HK.out _ HB2.out).mono ?_)); rintro e w3 ⟨rfl, hb3⟩; have HB3 := Lib.hid (Bt HB2.out hb3); clear hb3)
      | (go_at_call 11; (with_reducible refine ((HK.out _ HB1.out).mono ?_)); rintro e w2 ⟨rfl, hb2⟩; have HB2 := Lib.hid (Bt HB1.out hb2); have k7 := (HPB.out.below hb2 HPB.out.lt).cell 7; simp only [List.getElem?_toArray, List.getElem?_cons_zero, List.getElem?_cons_succ] at k7; clear hb2))
    go_ret
    exact ⟨rfl, HB3.out⟩
  · have d4' : decide ((4 : Int) < ll) = false := decide_eq_false (by omega)
    go_upto_region 3 with (go_at_call 11; (with_reducible refine ((HK.out _ HB1.out).mono ?_)); rintro e w2 ⟨rfl, hb2⟩; have HB2 := Lib.hid (Bt HB1.out hb2); have HP2 := Lib.hid (HPB.out.below hb2 HPB.out.lt); have HC20 := Lib.hid (HCB0.out.below hb2 HCB0.out.lt); have HC21 := Lib.hid (HCB1.out.below hb2 HCB1.out.lt); have k7 := HP2.out.cell 7; simp only [List.getElem?_toArray, List.getElem?_cons_zero, List.getElem?_cons_succ] at k7; clear hb2)
    have k0 := HP2.out.cell 0
    have k1 := HP2.out.cell 1
    have k2 := HP2.out.cell 2
    have k3 := HP2.out.cell 3
    have k4 := HP2.out.cell 4
    have k5 := HP2.out.cell 5
    have k6 := HP2.out.cell 6
    have k8 := HP2.out.cell 8
    simp only [List.getElem?_toArray, List.getElem?_cons_zero, List.getElem?_cons_succ] at k0 k1 k2 k3 k4 k5 k6 k8
    go_upto_region 4 with (go_at_call 12; (with_reducible refine ((HM.out _ HB2.out).mono ?_)); rintro e w3 ⟨vd, vc, rfl, hA3, hb3⟩; obtain ⟨Ad, cd, rfl, _, _⟩ := id hA3.dv.open; obtain ⟨Ac, cc, rfl, _, _⟩ := id hA3.cp.open; have HA3 := Lib.hid hA3; have HB3 := Lib.hid (Bt HB2.out hb3); have HC30 := Lib.hid (HC20.out.below hb3 HC20.out.lt); have HC31 := Lib.hid (HC21.out.below hb3 HC21.out.lt); clear hb3 hA3)
    obtain ⟨W4, hW4⟩ : ∃ W4 : World, w3.alloc (.cells #[.slice Ad a.divs.length cd, .slice Ac a.cps.length cc, .int .u64 a.drawn] 34) = W4 := ⟨_, rfl⟩
    obtain ⟨ab, hab⟩ : ∃ ab, w3.heap.size = ab := ⟨_, rfl⟩
    have AB : Blk W4 ab 34 #[.slice Ad a.divs.length cd, .slice Ac a.cps.length cc, .int .u64 a.drawn] := by rw [← hW4, ← hab]; exact Blk.new _ _ _
    have B4 : Below w3.heap.size w3 W4 := by rw [← hW4]; exact Ba (B0 w3) _
    have A4 := HA3.out.on B4
    have C40 := HC30.out.below B4 HC30.out.lt
    have C41 := HC31.out.below B4 HC31.out.lt
    rw [hW4, hab]
    have hB04 := Bt HB3.out B4
    have HKE := Lib.hid (fun W (hb : Below W4.heap.size W4 W) => (show W.cell? ⟨ab, 0, none⟩ = some (.slice Ad a.divs.length cd) ∧ W.cell? ⟨ab, 1, none⟩ = some (.slice Ac a.cps.length cc) ∧ W.cell? ⟨ab, 2, none⟩ = some (.int .u64 a.drawn) ∧ W.cell? ⟨pb + 1, 0, none⟩ = some (.int .u16 b0) ∧ W.cell? ⟨pb + 1, 1, none⟩ = some (.int .u16 b1) ∧ W.cell? ⟨pb + 1, 2, none⟩ = some (.int .u16 b2) ∧ W.cell? ⟨pb + 2, 0, none⟩ = some (.int .u16 m0) ∧ W.cell? ⟨pb + 2, 1, none⟩ = some (.int .u16 m1) ∧ W.cell? ⟨pb + 2, 2, none⟩ = some (.int .u16 m2) from ⟨(Bc hb AB.lt).trans (AB.cell 0), (Bc hb AB.lt).trans (AB.cell 1), (Bc hb AB.lt).trans (AB.cell 2), (Bc hb C40.lt).trans (C40.cell 0), (Bc hb C40.lt).trans (C40.cell 1), (Bc hb C40.lt).trans (C40.cell 2), (Bc hb C41.lt).trans (C41.cell 0), (Bc hb C41.lt).trans (C41.cell 1), (Bc hb C41.lt).trans (C41.cell 2)⟩))
    have HTW := Lib.hid (fun W (hb : Below W4.heap.size W4 W) => (show Tab64 W ∧ 0 < W.heap.size from ⟨HTT.out.below (Bt hB04 hb), Nat.lt_of_lt_of_le hg (Bt hB04 hb).size⟩))
    have HAW := Lib.hid (fun W (hb : Below W4.heap.size W4 W) => A4.on hb)
    have HB4 := Lib.hid hB04
    have HOK := Lib.hid hok
    have HRT := Lib.hid hrt
    have HSM := Lib.hid hsm
    have HAB := Lib.hid AB
    clear AB B4 A4 C40 C41 hW4 hab hB04 hok hrt hsm HA3 HB3 HC30 HC31 HP2 HC20 HC21 HPB HCB0 HCB1 HK HM HTT k0 k1 k2 k3 k4 k5 k6 k7 k8
    obtain ⟨x0, x1, x2, x3, x4, x5, x6, x7, x8⟩ := HKE.out W4 (B0 W4)
    obtain ⟨n, hn⟩ : ∃ n, a.divs.length = n := ⟨_, rfl⟩
    obtain ⟨cl, hcl⟩ : ∃ cl, a.cps.length = cl := ⟨_, rfl⟩
    have hn8 : n ≤ 8 := by rw [← hn]; exact HOK.out.nd
    obtain ⟨x, hx⟩ : ∃ x, Cou.bitK a [b0, b1, b2] = x := ⟨_, rfl⟩
    obtain ⟨y, hy⟩ : ∃ y, Cou.bitK a [m0, m1, m2] = y := ⟨_, rfl⟩
    have hx1 := Cou.bitK_lt HOK.out [b0, b1, b2]
    have hx2 := Cou.bitK_len a [b0, b1, b2]
    have hx3 := Cou.bitK_ok HOK.out HRT.out [b0, b1, b2]
    have hy1 := Cou.bitK_lt HOK.out [m0, m1, m2]
    have hy2 := Cou.bitK_len a [m0, m1, m2]
    have hy3 := Cou.bitK_ok HOK.out HRT.out [m0, m1, m2]
    have HKX := Lib.hid (fun W (hb : Below W4.heap.size W4 W) => Keys_any a HOK.out HSM.out _ _ a.drawn b0 b1 b2 hb0 hb1 hb2 W _ (HAW.out W hb))
    have HKY := Lib.hid (fun W (hb : Below W4.heap.size W4 W) => Keys_any a HOK.out HSM.out _ _ a.drawn m0 m1 m2 hm0 hm1 hm2 W _ (HAW.out W hb))
    rw [hx] at hx1 hx2 hx3 HKX
    rw [hy] at hy1 hy2 hy3 HKY
    have hl : x.length = y.length := by omega
    have hz1 := Cou.uniL_lt hx1 hy1
    have hz2 := Cou.uniL_len hl
    have hz3 := Cou.uni_ok hx1 hy1 hx3 hy3
    obtain ⟨z, hz⟩ : ∃ z, Cou.uniL x y = z := ⟨_, rfl⟩
    rw [hz] at hz1 hz2 hz3
    have hzk : ∀ (k xv yv : Nat), x[k]? = some xv → y[k]? = some yv → z.take (k + 1) = z.take k ++ [xv ||| yv] := fun k xv yv h1 h2 => by
      obtain ⟨hk, rfl⟩ := List.getElem?_eq_some_iff.1 h1
      obtain ⟨hk2, rfl⟩ := List.getElem?_eq_some_iff.1 h2
      rw [← hz]
      exact Cou.uniL_take hl hk
    have hP : ∀ d, ∀ i : Nat, Cou.Hop a (Cou.allL 0 z) ((d : Int), (i : Int)) ↔ Cou.Hop a (Cou.allL 0 x) ((d : Int), (i : Int)) ∨ Cou.Hop a (Cou.allL 0 y) ((d : Int), (i : Int)) := fun d i => by rw [← hz]; exact Cou.hop_uni hl hx1 hy1 _
    have hSU : ∀ d i, d < n → Cou.Snd a x 1 d i → Cou.Snd a z 1 d i := fun d i hd h => by rw [← hz]; exact Cou.snd_uni hl hx1 hy1 (by omega) h
    have hcl64 : (2 : Nat) ^ a.cps.length < 2 ^ 64 := Nat.pow_lt_pow_right (by decide) (by omega)
    have hpos : 0 < (2 : Nat) ^ a.cps.length := Nat.two_pow_pos _
    have hd1 : 2 ^ a.cps.length - 1 < 2 ^ a.cps.length := by omega
    have hu3 := Cou.drawA_allErr hx3 hd1
    have hv3 := Cou.drawA_allErr hz3 hpos
    have hPU : ∀ d i : Nat, Cou.Hop a (Cou.allL 0 x) ((d : Int), (i : Int)) → Cou.Hop (Cou.drawA a (2 ^ a.cps.length - 1)) (Cou.allL 0 x) ((d : Int), (i : Int)) := fun d i h => Cou.drawA_all h
    have hat : ∀ d W, Below W4.heap.size W4 W → AcAt (fun b => w2.heap.size ≤ b ∧ b < w3.heap.size) W (.slice Ad a.divs.length cd) (.slice Ac a.cps.length cc) (Cou.drawA a d) := fun d W hb => ⟨(HAW.out W hb).inW, (HAW.out W hb).dv, (HAW.out W hb).cp⟩
    have hal := fun pv (ks : List Nat) (hks : ∀ q ∈ ks, q < 2 ^ 128) (he : Cou.allErr a ks = 0) W (hb : Below W4.heap.size W4 W) (hS : SlK (fun b => b < W.heap.size) W pv ks) => All_ok a _ _ pv hdr ks hks he W _ _ (HAW.out W hb) (fun _ h => h) hS (HTW.out W hb).1 (HTW.out W hb).2
    have hsn := fun pv (ks : List Nat) (hks : ∀ q ∈ ks, q < 2 ^ 128) (he : Cou.allErr a ks = 0) (h1 : 1 >>> a.divs.length = 0) W (hb : Below W4.heap.size W4 W) (hS : SlK (fun b => b < W.heap.size) W pv ks) => (show Calls Tryd.prog 24 #[_, _, .int .u64 1] _ _ from Snd_ok a _ _ pv hdr ks hks he 1 (by decide) h1 W _ _ (HAW.out W hb) (fun _ h => h) hS (HTW.out W hb).1 (HTW.out W hb).2)
    have hau := fun pv W (hb : Below W4.heap.size W4 W) (hS : SlK (fun b => b < W.heap.size) W pv x) => (show Calls Tryd.prog 27 #[.agg #[_, _, .int .u64 ((2 ^ a.cps.length - 1 : Nat) : Int)], pv] W fun e w' => ∃ kb M, e = .returned (.tuple #[.slice (some ⟨kb, 0, none⟩) a.divs.length a.divs.length, .int .i64 0]) ∧ MadeK a.divs.length (fun d i => Cou.Hop (Cou.drawA a (2 ^ a.cps.length - 1)) (Cou.allL 0 x) ((d : Int), (i : Int))) kb M w' ∧ Below W.heap.size W w' from All_ok (Cou.drawA a (2 ^ a.cps.length - 1)) _ _ pv (by show 2 ^ a.cps.length - 1 < _; omega) x hx1 hu3 W _ _ (hat _ W hb) (fun _ h => h) hS (HTW.out W hb).1 (HTW.out W hb).2)
    have hav := fun pv W (hb : Below W4.heap.size W4 W) (hS : SlK (fun b => b < W.heap.size) W pv z) => (show Calls Tryd.prog 27 #[.agg #[_, _, .int .u64 0], pv] W fun e w' => ∃ kb M, e = .returned (.tuple #[.slice (some ⟨kb, 0, none⟩) a.divs.length a.divs.length, .int .i64 0]) ∧ MadeK a.divs.length (fun d i => Cou.Hop (Cou.drawA a 0) (Cou.allL 0 z) ((d : Int), (i : Int))) kb M w' ∧ Below W.heap.size W w' from All_ok (Cou.drawA a 0) _ _ pv (by show 0 < 2 ^ 64; decide) z hz1 hv3 W _ _ (hat _ W hb) (fun _ h => h) hS (HTW.out W hb).1 (HTW.out W hb).2)
    have h1n : 1 >>> a.divs.length = 0 := by
      have : a.divs.length ≠ 0 := by
        omega
      rw [Nat.shiftRight_eq_div_pow]
      exact Nat.div_eq_of_lt (Nat.one_lt_two_pow this)
    have hs5 : ∀ B (w5 : World) (v5 : Value) (l : List Nat), l.length = n → SlK (fun b => B ≤ b ∧ b < w5.heap.size) w5 v5 l → ∃ A5 c5, v5 = .slice A5 n c5 ∧ SlK (fun b => b < w5.heap.size) w5 (.slice A5 n c5) l := fun B w5 v5 l h2 h => by
      obtain ⟨A5, c5, e, _, _, _⟩ := h.open
      rw [h2] at e
      subst e
      exact ⟨A5, c5, rfl, Sl.mono h fun _ q => q.2⟩
    have HALX := Lib.hid (fun pv => hal pv x hx1 hx3)
    have HALY := Lib.hid (fun pv => hal pv y hy1 hy3)
    have HALZ := Lib.hid (fun pv => hal pv z hz1 hz3)
    have HSNX := Lib.hid (fun pv => hsn pv x hx1 hx3 h1n)
    have HSNZ := Lib.hid (fun pv => hsn pv z hz1 hz3 h1n)
    have HAU := Lib.hid hau
    have HAV := Lib.hid hav
    have HH5 := Lib.hid hs5
    have HP := Lib.hid hP
    have HSU := Lib.hid hSU
    have HPU := Lib.hid hPU
    have HZK := Lib.hid hzk
    have HXL := Lib.hid (show x.length = n by omega)
    have HYL := Lib.hid (show y.length = n by omega)
    have HZL := Lib.hid (show z.length = n by omega)
    have HXY := Lib.hid (And.intro hx1 hy1)
    rw [hn] at HKX HKY HKE x0 hd3 HALX HALY HALZ HSNX HSNZ HAU HAV hn1 HAB
    rw [hn]
    rw [hcl] at HKX HKY HKE x1 hcl4 HALX HALY HALZ HSNX HSNZ HAU HAV HPU hcl64 hpos HAB
    rw [hcl]
    clear hs5 hal hsn hau hav hP hSU hPU hzk h1n hat hu3 hv3 hd1 hx hy hz hx1 hx2 hx3 hy1 hy2 hy3 hz1 hz2 hz3 hl
    go_upto_region 4 with fail
    go_region_held3 (fun w' => Below W4.heap.size W4 w' ∧ w'.cell? ⟨ab, 0, none⟩ = some (.slice Ad n cd) ∧ w'.cell? ⟨ab, 1, none⟩ = some (.slice Ac cl cc) ∧ w'.cell? ⟨ab, 2, none⟩ = some (.int .u64 a.drawn) ∧ w'.cell? ⟨pb + 1, 0, none⟩ = some (.int .u16 b0) ∧ w'.cell? ⟨pb + 1, 1, none⟩ = some (.int .u16 b1) ∧ w'.cell? ⟨pb + 1, 2, none⟩ = some (.int .u16 b2) ∧ w'.cell? ⟨pb + 2, 0, none⟩ = some (.int .u16 m0) ∧ w'.cell? ⟨pb + 2, 1, none⟩ = some (.int .u16 m1) ∧ w'.cell? ⟨pb + 2, 2, none⟩ = some (.int .u16 m2))
      (first | exact ⟨(B0 W4).drew, HKE.out _ (B0 W4).drew⟩ | exact ⟨hbn, HKE.out _ hbn⟩)
      (first
        | (go_at_call 23; (with_reducible refine ((HKX.out _ (B0 W4).drew).mono ?_)); rintro e w5 ⟨v5, rfl, hs5, hb5⟩; obtain ⟨A5, c5, rfl, hS5⟩ := HH5.out _ _ _ _ HXL.out hs5; have hbn := (B0 W4).drew.trans hb5; have HB5 := Lib.hid hbn; have HS5 := Lib.hid hS5; clear hs5 hS5)
        | (go_at_call 23; (with_reducible refine ((HKY.out _ hbn).mono ?_)); rintro e w6 ⟨v6, rfl, hs6, hb6⟩; obtain ⟨A6, c6, rfl, hS6⟩ := HH5.out _ _ _ _ HYL.out hs6; have hbn := Bt HB5.out hb6; have HB6 := Lib.hid hbn; have HX6 := Lib.hid (HS5.out.on1 hb6); have HY6 := Lib.hid hS6; clear hs6 hS6 hb6))
    clear hbn x0 x1 x2 x3 x4 x5 x6 x7 x8 HKX HKY
    have hrow : ∀ (A : Option Addr) (c : Nat) (l : List Nat), l.length = n → SlK (fun b => b < w6.heap.size) w6 (.slice A n c) l → ∀ k (hk : k < n) W, Below w6.heap.size w6 W → ∃ ad u, l[k]? = some u ∧ A = some ad ∧ Flds W (ad.add (k * 2)) [.int .u64 ((Nt.lo u : Nat) : Int), .int .u64 ((Nt.hi u : Nat) : Int)] := fun A c l hl hS k hk W hb => by
      obtain ⟨A', c', e, _, _, hat⟩ := (hS.on1 hb).open
      injection e with e1 _ _
      subst e1
      have hil : k < l.length := by rw [hl]; exact hk
      obtain ⟨ad, h1, _, h3⟩ := hat k hil
      exact ⟨ad, l[k], List.getElem?_eq_getElem hil, h1, h3⟩
    have HRX := Lib.hid (hrow A5 c5 x HXL.out HX6.out)
    have HRY := Lib.hid (hrow A6 c6 y HYL.out HY6.out)
    obtain ⟨b9, hb9⟩ : ∃ b9, w6.heap.size = b9 := ⟨_, rfl⟩
    have HB9 := Lib.hid hb9
    have hb94 : W4.heap.size ≤ b9 := by have := HB6.out.size; omega
    clear hrow hb9
    go_wp2_with fail
    go_loopw [10, 11] (fun s10 s11 wr => ∃ k : Nat, k ≤ n ∧ s11 = .int .i64 k ∧ Aside (OwnL b9 70 2 NtC wr s10 (z.take k)) ∧ Aside (Below w6.heap.size w6 wr)) (fun _ s11 _ => n - (intOf s11).toNat)
    case atStart => exact ⟨0, by omega, rfl, (show OwnL _ _ _ _ _ _ _ from OwnL.nil), B0 w6⟩
    case round =>
      obtain ⟨k, hk, rfl, hO, hB⟩ := hrel
      replace hO : OwnL b9 70 2 NtC wr u10 (z.take k) := hO
      replace hB : Below w6.heap.size w6 wr := hB
      by_cases hlt : k < n
      · have hltI : (k : Int) < n := by omega
        obtain ⟨ad, xv, hxv, rfl, hfx⟩ := HRX.out k hlt wr hB
        obtain ⟨ad', yv, hyv, rfl, hfy⟩ := HRY.out k hlt wr hB
        have p0 := hfx.f0 rfl
        have p1 := hfx.f1 rfl
        have q0 := hfy.f0 rfl
        have q1 := hfy.f1 rfl
        have hkx : k < x.length := by rw [HXL.out]; exact hlt
        have hky : k < y.length := by rw [HYL.out]; exact hlt
        have hzn := HZK.out k xv yv hxv hyv
        rw [List.getElem?_eq_getElem hkx] at hxv
        rw [List.getElem?_eq_getElem hky] at hyv
        injection hxv with hxv
        injection hyv with hyv
        have hun : ∀ W, Calls Tryd.prog 31 #[ntV xv, ntV yv] W fun e w' => e = .returned (ntV (xv ||| yv)) ∧ Below W.heap.size W w' := fun W => union_any xv yv (by rw [← hxv]; exact HXY.out.1 _ (List.getElem_mem hkx)) (by rw [← hyv]; exact HXY.out.2 _ (List.getElem_mem hky)) W
        have htl : (z.take k).length = k := by rw [List.length_take, HZL.out]; omega
        obtain ⟨cs, r1, r2, r3⟩ := id hO
        rw [htl] at r3
        have HUN := Lib.hid hun
        have HZN := Lib.hid hzn
        have HTL := Lib.hid htl
        have HR1 := Lib.hid r1
        have HR2 := Lib.hid r2
        have HR3 : Hid (wr.drew.ownsRow b9 70 2 u10 k cs.flatten) := Lib.hid r3
        have HO := Lib.hid hO
        have HB := Lib.hid hB
        have hbs : b9 ≤ wr.heap.size := by have := hB.size; have := HB9.out; omega
        clear hO hB hfx hfy hzn hun htl r1 r2 r3 hxv hyv hkx hky
        unfold ntV at HUN
        generalize xv ||| yv = zv at *
        go_upto_region 9 with fail
        go_region_law (first
          | (refine step_call2 rfl 31 _ _ _ rfl (enters_of Tryd.func31 (by kernel_rfl) rfl) (.agg #[.int .u64 ((Nt.lo xv : Nat) : Int), .int .u64 ((Nt.hi xv : Nat) : Int)]) (.agg #[.int .u64 ((Nt.lo yv : Nat) : Int), .int .u64 ((Nt.hi yv : Nat) : Int)]) rfl rfl (HUN.out _) ?_; rintro e w7 ⟨rfl, hb7⟩; refine ⟨_, rfl, ?_⟩; have HB7 := Lib.hid hb7; have hs7 : b9 ≤ w7.heap.size := Nat.le_trans hbs hb7.size; clear hb7)
          | (refine step_appS elemNt (by omega) rfl _ _ rfl b9 u10 k cs.flatten rfl ?_ ⟨w7.heap.size, 0, none⟩ 1 [.int .u64 ((Nt.lo zv : Nat) : Int), .int .u64 ((Nt.hi zv : Nat) : Int)] rfl rfl (Flds.new w7 _ _) (by simp [Value.oneCell']) (by omega) (by omega) (by simp; omega) ?_; (exact ((HR3.out.kept (row := none) (only_of_below HB7.out none) (by cases hv : u10.ownBlock <;> simp)).alloc _)); intro g cap w8 hown8 hg8 hgg; have HO8 := Lib.hid hown8; have HG8 := Lib.hid hg8; clear hown8 hg8 hgg))
        all_goals
          go_wp2_with fail
          go_roundw
          case rel =>
            refine ⟨k + 1, by omega, by go_num, ?_, ?_⟩
            · show OwnL _ _ _ _ _ _ _
              rw [HZN.out]
              exact OwnL.snoc (c := [.int .u64 ((Nt.lo zv : Nat) : Int), .int .u64 ((Nt.hi zv : Nat) : Int)]) HR1.out HR2.out rfl rfl (fun _ _ h => h) (by rw [HTL.out]; exact HO8.out)
            · show Below _ _ _
              exact (Ba (Bt HB.out ((B0 wr).drew.trans HB7.out)) _).grown HG8.out (by have := HB9.out; simp; omega) fun e q => by have := (HO.out.lt e q).1; have := HB9.out; omega
          case measure => simp [intOf]; omega
      · obtain rfl : k = n := by omega
        rw [List.take_of_length_le (by rw [HZL.out]; omega)] at hO
        obtain ⟨w10, rfl⟩ : ∃ w10 : World, w10 = wr := ⟨_, rfl⟩
        have hsz := hO.sl (F := fun b => W4.heap.size ≤ b ∧ b < w10.heap.size) (by rw [HZL.out]; omega) (fun b q1 q2 _ => ⟨by omega, q2⟩)
        obtain ⟨A10, c10, rfl, hSz⟩ := HH5.out _ _ _ _ HZL.out hsz
        have HB10 := Lib.hid (Bt HB6.out hB)
        have HX10 := Lib.hid (HX6.out.on1 hB)
        have HY10 := Lib.hid (HY6.out.on1 hB)
        have HZ10 := Lib.hid hSz
        obtain ⟨x0, x1, x2, _⟩ := HKE.out w10 (Bt HB6.out hB)
        clear hO hB hsz hSz HRX HRY HX6 HY6
        go_upto_region 18 with (first
          | (go_at_call 27; (with_reducible refine ((HALX.out _ _ HB10.out HX10.out).mono ?_)); rintro e w11 ⟨kx, MX, rfl, hm, hb11⟩; have HB11 := Lib.hid (Bt HB10.out hb11); have HMX := Lib.hid hm; have HX11 := Lib.hid (HX10.out.on1 hb11); have HY11 := Lib.hid (HY10.out.on1 hb11); have HZ11 := Lib.hid (HZ10.out.on1 hb11); have HD11 := Lib.hid hb11; clear x0 x1 x2; obtain ⟨x0, x1, x2, _⟩ := HKE.out w11 HB11.out; clear hm hb11)
          | (go_at_call 27; (with_reducible refine ((HALY.out _ _ HB11.out HY11.out).mono ?_)); rintro e w12 ⟨ky, MY, rfl, hm, hb12⟩; have HB12 := Lib.hid (Bt HB11.out hb12); have HMY := Lib.hid hm; have HMX12 := Lib.hid (HMX.out.below hb12); have HX12 := Lib.hid (HX11.out.on1 hb12); have HZ12 := Lib.hid (HZ11.out.on1 hb12); clear x0 x1 x2; obtain ⟨x0, x1, x2, _⟩ := HKE.out w12 HB12.out; clear hm hb12)
          | (go_at_call 27; (with_reducible refine ((HALZ.out _ _ HB12.out HZ12.out).mono ?_)); rintro e w13 ⟨kz, MZ, rfl, hm, hb13⟩; have HB13 := Lib.hid (Bt HB12.out hb13); have HMZ := Lib.hid hm; have HMX13 := Lib.hid (HMX12.out.below hb13); have HMY13 := Lib.hid (HMY.out.below hb13); have HX13 := Lib.hid (HX12.out.on1 hb13); have HZ13 := Lib.hid (HZ12.out.on1 hb13); clear x0 x1 x2; obtain ⟨x0, x1, x2, _⟩ := HKE.out w13 HB13.out; clear hm hb13)
          | (go_at_call 24; (with_reducible refine ((HSNX.out _ _ HB13.out HX13.out).mono ?_)); rintro e w14 ⟨kq, MQ, rfl, hm, hb14⟩; have HB14 := Lib.hid (Bt HB13.out hb14); have HMQ := Lib.hid hm; have HMX14 := Lib.hid (HMX13.out.below hb14); have HMY14 := Lib.hid (HMY13.out.below hb14); have HMZ14 := Lib.hid (HMZ.out.below hb14); have HX14 := Lib.hid (HX13.out.on1 hb14); have HZ14 := Lib.hid (HZ13.out.on1 hb14); clear x0 x1 x2; obtain ⟨x0, x1, x2, _⟩ := HKE.out w14 HB14.out; clear hm hb14)
          | (go_at_call 24; (with_reducible refine ((HSNZ.out _ _ HB14.out HZ14.out).mono ?_)); rintro e w15 ⟨kt, MT, rfl, hm, hb15⟩; have HB15 := Lib.hid (Bt HB14.out hb15); have HMT := Lib.hid hm; have HMX15 := Lib.hid (HMX14.out.below hb15); have HMY15 := Lib.hid (HMY14.out.below hb15); have HMZ15 := Lib.hid (HMZ14.out.below hb15); have HMQ15 := Lib.hid (HMQ.out.below hb15); have HX15 := Lib.hid (HX14.out.on1 hb15); have HZ15 := Lib.hid (HZ14.out.on1 hb15); clear x0 x1 x2; obtain ⟨x0, x1, x2, _⟩ := HKE.out w15 HB15.out; clear hm hb15))
        obtain ⟨w16, hw16⟩ : ∃ w16 : World, w15.alloc (.cells #[.slice Ad k cd, .slice Ac cl cc, .int .u64 a.drawn] 34) = w16 := ⟨_, rfl⟩
        obtain ⟨ub, hub⟩ : ∃ ub, w15.heap.size = ub := ⟨_, rfl⟩
        have AU : Blk w16 ub 34 #[.slice Ad k cd, .slice Ac cl cc, .int .u64 a.drawn] := by rw [← hw16, ← hub]; exact Blk.new _ _ _
        have B16 : Below w15.heap.size w15 w16 := by rw [← hw16]; exact Ba (B0 w15) _
        rw [hw16, hub]
        have hub15 : w15.heap.size ≤ ub := by omega
        clear x0 x1 x2 hw16 hub
        obtain ⟨x0, x1, x2, _⟩ := HKE.out w16 (Bt HB15.out B16)
        have hf := AU.frozen 2
        have u2 := AU.cell 2
        simp only [List.getElem?_toArray, List.getElem?_cons_zero, List.getElem?_cons_succ] at u2
        have hmin : min cl 64 = cl := by omega
        have h3 : ((cl : Nat) : Int) % 18446744073709551616 = cl := by omega
        have hval : IntKind.u64.wrap (IntKind.u64.wrap (2 ^ cl) - 1) = ((2 ^ cl - 1 : Nat) : Int) := by
          have h5 : cl = 0 ∨ cl = 1 ∨ cl = 2 ∨ cl = 3 ∨ cl = 4 := by omega
          rcases h5 with rfl | rfl | rfl | rfl | rfl <;> rfl
        obtain ⟨dv, hdv⟩ : ∃ dv, 2 ^ cl - 1 = dv := ⟨_, rfl⟩
        rw [hdv] at hval HAU HPU
        have HAU16 := Lib.hid AU
        have HD16 := Lib.hid B16
        clear AU B16 hdv
        go_upto_region 19 with fail
        try rw [hval]
        obtain ⟨w17, hw17⟩ : ∃ w17 : World, w16.setCell ⟨ub, 2, none⟩ (.int .u64 (dv : Nat)) = w17 := ⟨_, rfl⟩
        have AU17 : Blk w17 ub 34 #[.slice Ad k cd, .slice Ac cl cc, .int .u64 (dv : Nat)] := by
          rw [← hw17]
          have := HAU16.out.set_ 2 (.int .u64 (dv : Nat))
          simpa using this
        have B17 : Below w15.heap.size w15 w17 := by rw [← hw17]; exact Bs HD16.out _ hub15
        try rw [hw17]
        clear x0 x1 x2 hf u2 hval hmin h3 hw17
        have u0 := AU17.cell 0
        have u1 := AU17.cell 1
        have u2 := AU17.cell 2
        simp only [List.getElem?_toArray, List.getElem?_cons_zero, List.getElem?_cons_succ] at u0 u1 u2
        have HB17 := Lib.hid (Bt HB15.out B17)
        have HX17 := Lib.hid (HX15.out.on1 B17)
        have HZ17 := Lib.hid (HZ15.out.on1 B17)
        have HD17 := Lib.hid B17
        clear AU17 B17
        go_upto_region 21 with (go_at_call 27; (with_reducible refine ((HAU.out _ _ HB17.out HX17.out).mono ?_)); rintro e w18 ⟨ku, MU, rfl, hm, hb18⟩; have HB18 := Lib.hid (Bt HB17.out hb18); have HMU := Lib.hid hm; have HZ18 := Lib.hid (HZ17.out.on1 hb18); have HD18 := Lib.hid (Bt HD17.out hb18); obtain ⟨x0, x1, x2, _⟩ := HKE.out w18 HB18.out; clear hm hb18)
        obtain ⟨w19, hw19⟩ : ∃ w19 : World, w18.alloc (.cells #[.slice Ad k cd, .slice Ac cl cc, .int .u64 a.drawn] 34) = w19 := ⟨_, rfl⟩
        obtain ⟨vb, hvb⟩ : ∃ vb, w18.heap.size = vb := ⟨_, rfl⟩
        have AV : Blk w19 vb 34 #[.slice Ad k cd, .slice Ac cl cc, .int .u64 a.drawn] := by rw [← hw19, ← hvb]; exact Blk.new _ _ _
        have B19 : Below w18.heap.size w18 w19 := by rw [← hw19]; exact Ba (B0 w18) _
        rw [hw19, hvb]
        have hvb18 : w18.heap.size ≤ vb := by omega
        clear x0 x1 x2 u0 u1 u2 hw19 hvb
        have hf := AV.frozen 2
        have u2 := AV.cell 2
        simp only [List.getElem?_toArray, List.getElem?_cons_zero, List.getElem?_cons_succ] at u2
        have HAV19 := Lib.hid AV
        have HD19 := Lib.hid B19
        clear AV B19
        go_upto_region 22 with fail
        obtain ⟨w20, hw20⟩ : ∃ w20 : World, w19.setCell ⟨vb, 2, none⟩ (.int .u64 0) = w20 := ⟨_, rfl⟩
        have AV20 : Blk w20 vb 34 #[.slice Ad k cd, .slice Ac cl cc, .int .u64 0] := by
          rw [← hw20]
          have := HAV19.out.set_ 2 (.int .u64 0)
          simpa using this
        have B20 : Below w18.heap.size w18 w20 := by rw [← hw20]; exact Bs HD19.out _ hvb18
        try rw [hw20]
        clear hf u2 hw20
        have v0 := AV20.cell 0
        have v1 := AV20.cell 1
        have v2 := AV20.cell 2
        simp only [List.getElem?_toArray, List.getElem?_cons_zero, List.getElem?_cons_succ] at v0 v1 v2
        have HB20 := Lib.hid (Bt HB18.out B20)
        have HZ20 := Lib.hid (HZ18.out.on1 B20)
        have HD20 := Lib.hid (Bt HD18.out B20)
        have HMU20 := Lib.hid (HMU.out.below B20)
        clear AV20 B20
        go_upto_region 25 with (go_at_call 27; (with_reducible refine ((HAV.out _ _ HB20.out HZ20.out).mono ?_)); rintro e w21 ⟨kv, MV, rfl, hm, hb21⟩; have HB21 := Lib.hid (Bt HB20.out hb21); have HMV := Lib.hid hm; have HMU21 := Lib.hid (HMU20.out.below hb21); have HD21 := Lib.hid (Bt HD20.out hb21); clear hm hb21)
        have HX21 := Lib.hid (HMX15.out.below HD21.out)
        have HY21 := Lib.hid (HMY15.out.below HD21.out)
        have HZ21 := Lib.hid (HMZ15.out.below HD21.out)
        have HQ21 := Lib.hid (HMQ15.out.below HD21.out)
        have HT21 := Lib.hid (HMT.out.below HD21.out)
        clear v0 v1 v2
        go_wp2_with fail
        go_loopw [26] (fun s26 wr => ∃ j : Nat, j ≤ k ∧ s26 = .int .i64 j ∧ Aside (Below w21.heap.size w21 wr)) (fun s26 _ => k - (intOf s26).toNat)
        case atStart => exact ⟨0, by omega, rfl, B0 w21⟩
        case round =>
          obtain ⟨j, hj, rfl, hB⟩ := hrel
          replace hB : Below w21.heap.size w21 wr := hB
          by_cases hlt : j < k
          · have hltI : (j : Int) < k := by omega
            obtain ⟨xv, hx1, hx2, hx3⟩ := HX21.out.cells hlt
            obtain ⟨yv, hy1, hy2, hy3⟩ := HY21.out.cells hlt
            obtain ⟨zv, hz1, hz2, hz3⟩ := HZ21.out.cells hlt
            obtain ⟨qv, hq1, hq2, hq3⟩ := HQ21.out.cells hlt
            obtain ⟨tv, ht1, ht2, ht3⟩ := HT21.out.cells hlt
            obtain ⟨uv, hu1, hu2, hu3⟩ := HMU21.out.cells hlt
            obtain ⟨vv, hv1, hv2, hv3⟩ := HMV.out.cells hlt
            have hzv : zv = xv ||| yv := Nat.eq_of_testBit_eq fun i => by
              rw [Nat.testBit_or]
              have h1 := (hz2 i).trans (HP.out j i)
              rw [← hx2 i, ← hy2 i, ← Bool.or_eq_true] at h1
              exact Bool.eq_iff_iff.2 h1
            have hvv : vv = 0 := Nat.eq_of_testBit_eq fun i => by
              rw [Nat.zero_testBit]
              cases hb : vv.testBit i with
              | false => rfl
              | true => exact absurd ((hv2 i).1 hb) Cou.drawA_none
            have hqt : Hit.andn qv tv = 0 := Cou.andn_sub fun i hb => (ht2 i).2 (HSU.out j i hlt ((hq2 i).1 hb))
            have hxu : Hit.andn xv uv = 0 := Cou.andn_sub fun i hb => (hu2 i).2 (HPU.out j i ((hx2 i).1 hb))
            have hun : ∀ q : Cls wr, Calls Tryd.prog 31 #[ntV xv, ntV yv] q.w fun e w' => e = .returned (ntV (xv ||| yv)) ∧ ∃ r : Cls wr, w' = r.w := fun q => (union_any xv yv hx1 hy1 q.w).mono fun e w' ⟨q1, q2⟩ => ⟨q1, Cls.mk' (Bt q.b q2), rfl⟩
            have hw1 : ∀ q : Cls wr, Calls Tryd.prog 25 #[ntV qv, ntV tv] q.w fun e w' => e = .returned (.bool true) ∧ ∃ r : Cls wr, w' = r.w := fun q => (within_any qv tv hq1 ht1 q.w).mono fun e w' ⟨q1, q2⟩ => ⟨by rw [q1, hqt]; rfl, Cls.mk' (Bt q.b q2), rfl⟩
            have hw2 : ∀ q : Cls wr, Calls Tryd.prog 25 #[ntV xv, ntV uv] q.w fun e w' => e = .returned (.bool true) ∧ ∃ r : Cls wr, w' = r.w := fun q => (within_any xv uv hx1 hu1 q.w).mono fun e w' ⟨q1, q2⟩ => ⟨by rw [q1, hxu]; rfl, Cls.mk' (Bt q.b q2), rfl⟩
            have hct : ∀ q : Cls wr, Calls Tryd.prog 32 #[.agg #[.int .u64 0, .int .u64 0]] q.w fun e w' => e = .returned (.int .i64 0) ∧ ∃ r : Cls wr, w' = r.w := fun q => (count_zero q.w).mono fun e w' ⟨q1, q2⟩ => ⟨q1, Cls.mk' (Bt q.b q2), rfl⟩
            subst hzv
            subst hvv
            have kx0 : ∀ q : Cls wr, q.w.cell? ⟨kx, j * 2, none⟩ = some (.int .u64 ((Nt.lo xv : Nat) : Int)) := fun q => (hx3 q.w (Bt hB q.b)).1
            have kx1 : ∀ q : Cls wr, q.w.cell? ⟨kx, j * 2 + 1, none⟩ = some (.int .u64 ((Nt.hi xv : Nat) : Int)) := fun q => (hx3 q.w (Bt hB q.b)).2
            have ky0 : ∀ q : Cls wr, q.w.cell? ⟨ky, j * 2, none⟩ = some (.int .u64 ((Nt.lo yv : Nat) : Int)) := fun q => (hy3 q.w (Bt hB q.b)).1
            have ky1 : ∀ q : Cls wr, q.w.cell? ⟨ky, j * 2 + 1, none⟩ = some (.int .u64 ((Nt.hi yv : Nat) : Int)) := fun q => (hy3 q.w (Bt hB q.b)).2
            have kz0 : ∀ q : Cls wr, q.w.cell? ⟨kz, j * 2, none⟩ = some (.int .u64 ((Nt.lo (xv ||| yv) : Nat) : Int)) := fun q => (hz3 q.w (Bt hB q.b)).1
            have kz1 : ∀ q : Cls wr, q.w.cell? ⟨kz, j * 2 + 1, none⟩ = some (.int .u64 ((Nt.hi (xv ||| yv) : Nat) : Int)) := fun q => (hz3 q.w (Bt hB q.b)).2
            have kq0 : ∀ q : Cls wr, q.w.cell? ⟨kq, j * 2, none⟩ = some (.int .u64 ((Nt.lo qv : Nat) : Int)) := fun q => (hq3 q.w (Bt hB q.b)).1
            have kq1 : ∀ q : Cls wr, q.w.cell? ⟨kq, j * 2 + 1, none⟩ = some (.int .u64 ((Nt.hi qv : Nat) : Int)) := fun q => (hq3 q.w (Bt hB q.b)).2
            have kt0 : ∀ q : Cls wr, q.w.cell? ⟨kt, j * 2, none⟩ = some (.int .u64 ((Nt.lo tv : Nat) : Int)) := fun q => (ht3 q.w (Bt hB q.b)).1
            have kt1 : ∀ q : Cls wr, q.w.cell? ⟨kt, j * 2 + 1, none⟩ = some (.int .u64 ((Nt.hi tv : Nat) : Int)) := fun q => (ht3 q.w (Bt hB q.b)).2
            have ku0 : ∀ q : Cls wr, q.w.cell? ⟨ku, j * 2, none⟩ = some (.int .u64 ((Nt.lo uv : Nat) : Int)) := fun q => (hu3 q.w (Bt hB q.b)).1
            have ku1 : ∀ q : Cls wr, q.w.cell? ⟨ku, j * 2 + 1, none⟩ = some (.int .u64 ((Nt.hi uv : Nat) : Int)) := fun q => (hu3 q.w (Bt hB q.b)).2
            have kv0 : ∀ q : Cls wr, q.w.cell? ⟨kv, j * 2, none⟩ = some (.int .u64 0) := fun q => (hv3 q.w (Bt hB q.b)).1
            have kv1 : ∀ q : Cls wr, q.w.cell? ⟨kv, j * 2 + 1, none⟩ = some (.int .u64 0) := fun q => (hv3 q.w (Bt hB q.b)).2
            have HUN := Lib.hid hun
            have HQT := Lib.hid hw1
            have HXU := Lib.hid hw2
            have HCT := Lib.hid hct
            have HB := Lib.hid hB
            clear hun hw1 hw2 hct hB hx1 hx2 hx3 hy1 hy2 hy3 hz1 hz2 hz3 hq1 hq2 hq3 ht1 ht2 ht3 hu1 hu2 hu3 hv1 hv2 hv3 hqt hxu
            unfold ntV at HUN HQT HXU
            generalize xv ||| yv = zv at *
            go_upto_region 28 with fail
            refine wp_region_class_lit (C := fun w' => ∃ q : Cls wr, w' = q.w) (by kernel_rfl) (by kernel_rfl) ⟨Cls.mk' (B0 wr).drew, rfl⟩ ?_
            repeat (any_goals (first | go_big_quiet_step (first | (go_at_call 31; with_reducible exact HUN.out _) | (go_at_call 25; with_reducible exact HQT.out _) | (go_at_call 25; with_reducible exact HXU.out _) | (go_at_call 32; with_reducible exact HCT.out _)) | quiet_step (first | (go_at_call 31; with_reducible exact HUN.out _) | (go_at_call 25; with_reducible exact HQT.out _) | (go_at_call 25; with_reducible exact HXU.out _) | (go_at_call 32; with_reducible exact HCT.out _))))
            refine wpQuiet_nil ?_
            rintro _ ⟨q, rfl⟩
            have B5 := Lib.hid (Bt HB.out q.b)
            clear kx0 kx1 ky0 ky1 kz0 kz1 kq0 kq1 kt0 kt1 ku0 ku1 kv0 kv1
            generalize q.w = w5 at *
            go_wp2_with fail
            go_roundw
            case rel => exact ⟨j + 1, by omega, by go_num, B5.out⟩
            case measure => simp [intOf]; omega
          · obtain rfl : j = k := by omega
            have HB := Lib.hid hB
            clear hB
            go_wp2_with fail
            go_ret
            exact ⟨rfl, Bt HB4.out (Bt HB21.out HB.out)⟩
end Go.Proofs.YtnkjhppjjklgfaaDoor
