/- Walks over checker: Covers. -/
import Derived.Test.YtnpdoejjebgcpaaQi
namespace Go.Proofs.Ytnpdoejjebgcpaa
open Go Go.RowKit
theorem Cov.prob {n : Nat} {ws : List Nat} {cs : List Int} (h : Cov n ws cs) : probC n (setsOf ws) cs = true := by
  unfold probC
  have h1 := h.le
  have h2 := h.len
  have h3 : withinB 1 1000000 cs = true := List.all_eq_true.2 fun c hc => by have := h.cost c hc; simp; omega
  have h4 : ((setsOf ws).any fun l => !decide (Hit.listF n l = 0)) = false := by
    rw [Bool.eq_false_iff]; intro h'
    obtain ⟨l, hl, hx⟩ := List.any_eq_true.1 h'
    obtain ⟨s, hs, rfl⟩ := List.mem_map.1 hl
    rw [Hit.listF_of (Hit.inc_members s) (Hit.members_lt (h.lt s hs))] at hx
    simp at hx
  rw [decide_eq_true (show 0 ≤ (n : Int) ∧ (n : Int) ≤ 40 by omega), decide_eq_true (show (setsOf ws).length ≤ 40 by rw [setsOf_length]; exact h2), decide_eq_true (show cs.length = (setsOf ws).length by rw [setsOf_length]; exact h.eq), h3, h4]
  rfl
/-- A problem that is not right. -/
theorem coversNo_any (n cost : Int) (vs vc : Value) (Al At : Option Addr) (ml cl mt ct : Nat) (L : List (List Int)) (cs : List Int) (hno : probC n L cs = false) (w : World) (F G : Nat → Prop) (hF : ∀ b, F b → b < w.heap.size) (hG : ∀ b, G b → b < w.heap.size) (hr : SlII F w vs L) (hc : SlI G w vc cs) :
    Calls Try.prog 17 #[.agg #[.int .i64 n, vs, vc, .slice Al ml cl, .int .i64 cost, .slice At mt ct]] w fun e w' => e = .returned (.bool false) ∧ Below w.heap.size w w' := by
  have hP := fun W (hW : Below w.heap.size w W) => probC_any n cost vs vc Al At ml cl mt ct L cs W F G (fun b hb => Nat.lt_of_lt_of_le (hF b hb) hW.size) (fun b hb => Nat.lt_of_lt_of_le (hG b hb) hW.size) (hr.keep (Agree.below hW hF)) (hc.keep (Agree.below hW hG))
  obtain ⟨As, c1, rfl, hx2⟩ := hr.open
  obtain ⟨Ac, c2, rfl, hx3⟩ := hc.open
  rw [hno] at hP
  have HP := Lib.hid hP
  clear hx2 hx3 hr hc hno hP
  go_enter Try.func17, Try.ntmps17
  go_wp2_with (go_at_call 34; (with_reducible refine ((HP.out _ (Ba (B0 w) _)).mono ?_)); rintro e w2 ⟨rfl, hb2⟩; have HB2 := Lib.hid (Bt (Ba (B0 w) _) hb2); clear hb2)
  go_ret
  exact ⟨rfl, HB2.out⟩
/-- A right problem, a list that is not. -/
theorem coversList_any (n cost : Int) (vs vc vl : Value) (At : Option Addr) (mt ct : Nat) (L : List (List Int)) (cs l : List Int) (hyes : probC n L cs = true) (hno : Hit.listF (L.length : Nat) l ≠ 0) (w : World) (F G H : Nat → Prop) (hF : ∀ b, F b → b < w.heap.size) (hG : ∀ b, G b → b < w.heap.size) (hH : ∀ b, H b → b < w.heap.size) (hr : SlII F w vs L) (hc : SlI G w vc cs) (hl : SlI H w vl l) :
    Calls Try.prog 17 #[.agg #[.int .i64 n, vs, vc, vl, .int .i64 cost, .slice At mt ct]] w fun e w' => e = .returned (.bool false) ∧ Below w.heap.size w w' := by
  have hP := fun Al ml cl W (hW : Below w.heap.size w W) => probC_any n cost vs vc Al At ml cl mt ct L cs W F G (fun b hb => Nat.lt_of_lt_of_le (hF b hb) hW.size) (fun b hb => Nat.lt_of_lt_of_le (hG b hb) hW.size) (hr.keep (Agree.below hW hF)) (hc.keep (Agree.below hW hG))
  have hR := fun W (hW : Below w.heap.size w W) => riseC_any (L.length : Nat) vl l W H (hl.keep (Agree.below hW hH))
  rw [decide_eq_false hno] at hR
  obtain ⟨As, c1, rfl, hx2⟩ := hr.open
  obtain ⟨Ac, c2, rfl, hx3⟩ := hc.open
  obtain ⟨Al, c3, rfl, hx4⟩ := hl.open
  rw [hyes] at hP
  have HP := Lib.hid hP
  have HR := Lib.hid hR
  clear hx2 hx3 hx4 hr hc hl hno hyes hP hR
  generalize L.length = ls at *
  generalize cs.length = lc at *
  generalize l.length = ll at *
  go_enter Try.func17, Try.ntmps17
  go_wp2_with (first
    | (go_at_call 34; (with_reducible refine ((HP.out _ _ _ _ (Ba (B0 w) _)).mono ?_)); rintro e w2 ⟨rfl, hb2⟩; have HB2 := Lib.hid (Bt (Ba (B0 w) _) hb2); have j1 : w2.cell? ⟨w.heap.size, 1, none⟩ = some (.slice As ls c1) := (Bc hb2 (by simp)).trans (by simp [go_sem]); have j3 : w2.cell? ⟨w.heap.size, 3, none⟩ = some (.slice Al ll c3) := (Bc hb2 (by simp)).trans (by simp [go_sem]); clear hb2)
    | (go_at_call 22; (with_reducible refine ((HR.out _ HB2.out).mono ?_)); rintro e w3 ⟨rfl, rfl⟩))
  go_ret
  exact ⟨rfl, HB2.out⟩
set_option maxRecDepth 100000 in
set_option maxHeartbeats 4000000 in
/-- A right problem, a right list; the proof answers br. -/
theorem coversC_any (n m : Nat) (hm : m ≤ 1000000) (cost : Int) (vs vc vl : Value) (At : Option Addr) (ct : Nat) (ws : List Nat) (cs : List Int) (hcov : Cov n ws cs) (ns : List Nat) (hin : Hit.listF (ws.length : Nat) (Hit.ints ns) = 0) (hns : ∀ x ∈ ns, x < ws.length) (hnl : ns.length ≤ 1000) (br : Bool) (w : World) (F G H : Nat → Prop)
    (hF : ∀ b, F b → b < w.heap.size) (hG : ∀ b, G b → b < w.heap.size) (hH : ∀ b, H b → b < w.heap.size) (hr : SlII F w vs (setsOf ws)) (hc : SlI G w vc cs) (hl : SlI H w vl (Hit.ints ns))
    (hV : ∀ W, Below w.heap.size w W → 1 ≤ m → Calls Try.prog 36 #[.agg #[.int .i64 n, vs, vc, vl, .int .i64 cost, .slice At m ct]] W fun e w' => e = .returned (.bool br) ∧ Below W.heap.size W w') :
    Calls Try.prog 17 #[.agg #[.int .i64 n, vs, vc, vl, .int .i64 cost, .slice At m ct]] w fun e w' => e = .returned (.bool (decide (1 ≤ m ∧ m ≤ 20000) && (decide (costL cs ns = cost) && (decide (unionL ws ns = Hit.bit n - 1) && br)))) ∧ Below w.heap.size w w' := by
  have hP := fun Al ml cl W (hW : Below w.heap.size w W) => probC_any n cost vs vc Al At ml cl m ct (setsOf ws) cs W F G (fun b hb => Nat.lt_of_lt_of_le (hF b hb) hW.size) (fun b hb => Nat.lt_of_lt_of_le (hG b hb) hW.size) (hr.keep (Agree.below hW hF)) (hc.keep (Agree.below hW hG))
  have hR := fun W (hW : Below w.heap.size w W) => riseC_any (ws.length : Nat) vl (Hit.ints ns) W H (hl.keep (Agree.below hW hH))
  have hwlen := hcov.len
  have hn40 := hcov.le
  have hns64 : ∀ x ∈ ns, x < 64 := fun x hx => by have := hns x hx; omega
  have hW64 := fun W (hW : Below w.heap.size w W) => word64_any vl ns hns64 W H (hl.keep (Agree.below hW hH))
  have hwd : Hit.word ns < 2 ^ 64 := Hit.word_lt hns64
  have hCv := fun Ac mc cc Al ml cl W (hW : Below w.heap.size w W) => coveredC_any n cost vs Ac Al At mc cc ml cl m ct ws hcov.lt40 (by omega) (Hit.word ns) hwd W F (fun b hb => Nat.lt_of_lt_of_le (hF b hb) hW.size) (hr.keep (Agree.below hW hF))
  rw [decide_eq_true hin] at hR
  rw [hcov.prob] at hP
  rw [union_same ws ns hns] at hCv
  have HZL : Hid (∀ W : World, Calls Try.prog 21 #[.int .i64 1, .int .i64 20000, .slice (some ⟨W.heap.size, 0, none⟩) 1 1] (W.alloc (.cells #[.int .i64 m] 3)) fun e w' => e = .returned (.bool (decide (1 ≤ m ∧ m ≤ 20000))) ∧ Below W.heap.size W w') := Lib.hid fun W => by
    have := within_one 1 20000 m W
    rw [within1_eq, show decide ((1 : Int) ≤ (m : Int) ∧ (m : Int) ≤ 20000) = decide (1 ≤ m ∧ m ≤ 20000) from by rw [Bool.eq_iff_iff]; simp; omega] at this
    exact this
  obtain ⟨As, c1, rfl, hx2⟩ := hr.open
  obtain ⟨Ac, c2, rfl, hx3⟩ := hc.open
  obtain ⟨Al, c3, rfl, hx4⟩ := hl.open
  have hac := hx3.2.2
  have hal := hx4.2.2
  simp only [setsOf_length, ints_length, hcov.eq] at hP hR hW64 hCv hV ⊢
  have two := Hit.two_u64w n (by omega)
  have hbn : Hit.bit n ≤ 2 ^ 40 := Nat.pow_le_pow_right (n := 2) (by decide) hn40
  have hbp : 0 < Hit.bit n := Nat.two_pow_pos n
  have hsub : IntKind.u64.wrap (((Hit.bit n : Nat) : Int) - 1) = ((Hit.bit n - 1 : Nat) : Int) := by
    rw [IntKind.wrap_u64]; omega
  have n64 : (n : Int) % 18446744073709551616 = n := by omega
  have n64b : min n 64 = n := by omega
  have hcl := hcov.eq
  have HCOV := Lib.hid hcov
  have HNS := Lib.hid hns
  have HP := Lib.hid hP
  have HR := Lib.hid hR
  have HW64 := Lib.hid hW64
  have HCV := Lib.hid hCv
  have HV := Lib.hid hV
  clear hx2 hx3 hx4 hr hc hl hin hns hP hR hW64 hCv hV hcov hns64
  generalize Hit.bit n - 1 = bn1 at *
  generalize Hit.bit n = bn at *
  generalize hwdg : Hit.word ns = wd at *
  clear hwdg hbn hbp
  obtain ⟨res, hres⟩ : ∃ res, (decide (1 ≤ m ∧ m ≤ 20000) && (decide (costL cs ns = cost) && (decide (unionL ws ns = bn1) && br))) = res := ⟨_, rfl⟩
  rw [hres]
  have HRES := Lib.hid hres
  clear hres
  go_enter Try.func17, Try.ntmps17
  by_cases hm1 : 1 ≤ m ∧ m ≤ 20000
  · rw [decide_eq_true hm1] at HZL
    have HRES2 : Hid ((decide (costL cs ns = cost) && (decide (unionL ws ns = bn1) && br)) = res) := Lib.hid (by rw [← HRES.out, decide_eq_true hm1, Bool.true_and])
    have HV2 := Lib.hid fun W hW => HV.out W hW hm1.1
    clear HV hm1 HRES
    go_wp2_with (first
      | (go_at_call 34; (with_reducible refine ((HP.out _ _ _ _ (Ba (B0 w) _)).mono ?_)); rintro e w2 ⟨rfl, hb2⟩; have HB2 := Lib.hid (Bt (Ba (B0 w) _) hb2); have j0 : w2.cell? ⟨w.heap.size, 0, none⟩ = some (.int .i64 n) := (Bc hb2 (by simp)).trans (by simp [go_sem]); have j1 : w2.cell? ⟨w.heap.size, 1, none⟩ = some (.slice As ws.length c1) := (Bc hb2 (by simp)).trans (by simp [go_sem]); have j2 : w2.cell? ⟨w.heap.size, 2, none⟩ = some (.slice Ac ws.length c2) := (Bc hb2 (by simp)).trans (by simp [go_sem]); have j3 : w2.cell? ⟨w.heap.size, 3, none⟩ = some (.slice Al ns.length c3) := (Bc hb2 (by simp)).trans (by simp [go_sem]); have j4 : w2.cell? ⟨w.heap.size, 4, none⟩ = some (.int .i64 cost) := (Bc hb2 (by simp)).trans (by simp [go_sem]); have j5 : w2.cell? ⟨w.heap.size, 5, none⟩ = some (.slice At m ct) := (Bc hb2 (by simp)).trans (by simp [go_sem]); have l2 : w.heap.size < w2.heap.size := (by have := hb2.size; simp at this; omega); clear hb2)
      | (go_at_call 22; (with_reducible refine ((HR.out _ HB2.out).mono ?_)); rintro e w3 ⟨rfl, rfl⟩)
      | (go_at_call 21; (with_reducible refine ((HZL.out w2).mono ?_)); rintro e w4 ⟨rfl, hb4⟩; have HB4 := Lib.hid (Bt HB2.out hb4); have k0 := (Bc hb4 l2).trans j0; have k1 := (Bc hb4 l2).trans j1; have k2 := (Bc hb4 l2).trans j2; have k3 := (Bc hb4 l2).trans j3; have k4 := (Bc hb4 l2).trans j4; have k5 := (Bc hb4 l2).trans j5; have l4 := Nat.lt_of_lt_of_le l2 hb4.size; clear hb4 j0 j1 j2 j3 j4 j5))
    go_loopg [3, 29] ns.length (fun gg s3 s wr => ∃ k : Nat, k ≤ ns.length ∧ ns.length - k ≤ gg ∧ s = .int .i64 k ∧ s3 = .int .i64 (costL cs (ns.take k)) ∧ wr = w4)
    case atStart => exact ⟨0, by omega, by omega, rfl, rfl, rfl⟩
    case round =>
      obtain ⟨k, hk, hg, rfl, rfl, rfl⟩ := hrel
      by_cases hlt : k < ns.length
      · have hki : decide ((k : Int) < ns.length) = true := decide_eq_true (by omega)
        have hkI : (k : Int) < ns.length := by omega
        obtain ⟨al, rfl, hfl, hcl1⟩ := hal k (by rw [ints_length]; exact hlt)
        rw [ints_get] at hcl1
        have hcl' := (HB4.out.cell (p := al.add k) (by rw [block_of_add]; exact hH _ hfl)).trans hcl1
        have hx := HNS.out ns[k] (List.getElem_mem hlt)
        obtain ⟨ad, rfl, hf, hcw⟩ := hac ns[k] (by omega)
        have hcw' := (HB4.out.cell (p := ad.add ns[k]) (by rw [block_of_add]; exact hG _ hf)).trans hcw
        have hs := costL_take cs ns k hlt
        have hb5 := costL_bd HCOV.out ns k
        have hgc := HCOV.out.getC ns[k]
        have hgd : cs.getD ns[k] 0 = cs[ns[k]] := by rw [List.getD_eq_getElem?_getD, List.getElem?_eq_getElem (by omega)]; rfl
        rw [hgd] at hs hgc
        have HS := Lib.hid hs
        have hxI : ((ns[k] : Nat) : Int) < ws.length := by omega
        generalize cs[ns[k]] = u at *
        generalize costL cs (ns.take k) = acc at *
        clear hgd
        generalize ns[k] = x at *
        clear hal hac hs hcl1 hcw
        go_wp2
        go_roundg (ns.length - (k + 1))
        case measure => omega
        case rel => exact ⟨k + 1, by omega, by omega, by go_num, by rw [HS.out], rfl⟩
      · have hki : decide ((k : Int) < ns.length) = false := decide_eq_false (by omega)
        have : k = ns.length := by omega
        subst this
        rw [List.take_length] at *
        clear hal hac
        generalize costL cs ns = cl at *
        generalize unionL ws ns = un at *
        by_cases h1 : cl = cost
        · have d1 : (cl == cost) = true := by simpa using h1
          have HRES3 : Hid ((decide (un = bn1) && br) = res) := Lib.hid (by rw [← HRES2.out, decide_eq_true h1, Bool.true_and])
          clear HRES2
          have hdb := HB4.out.drew
          have hsd : w.heap.size < wr.drew.heap.size := l4
          by_cases h2 : un = bn1
          · have d2 : ((un : Int) == (bn1 : Int)) = true := by rw [h2]; simp
            have d2n : (un == bn1) = true := by simpa using h2
            have HR4 : Hid (res = br) := Lib.hid (by rw [← HRES3.out, decide_eq_true h2, Bool.true_and])
            clear HRES3
            have HDB := Lib.hid hdb
            clear h1 h2 hdb
            go_upto_region 9 with fail
            go_region_held3 (fun w' => w'.cell? ⟨w.heap.size, 0, none⟩ = some (.int .i64 n) ∧ w'.cell? ⟨w.heap.size, 1, none⟩ = some (.slice As ws.length c1) ∧ w'.cell? ⟨w.heap.size, 2, none⟩ = some (.slice Ac ws.length c2) ∧ w'.cell? ⟨w.heap.size, 3, none⟩ = some (.slice Al ns.length c3) ∧ w'.cell? ⟨w.heap.size, 4, none⟩ = some (.int .i64 cost) ∧ w'.cell? ⟨w.heap.size, 5, none⟩ = some (.slice At m ct)) (first | exact ⟨k0, k1, k2, k3, k4, k5⟩ | exact ⟨j0, j1, j2, j3, j4, j5⟩ | exact ⟨i0, i1, i2, i3, i4, i5⟩)
              (first
                | (go_at_call 23; (with_reducible refine ((HW64.out _ HDB.out).mono ?_)); rintro e w5 ⟨rfl, rfl⟩)
                | (go_at_call 35; (with_reducible refine ((HCV.out _ _ _ _ _ _ _ HDB.out).mono ?_)); rintro e w6 ⟨rfl, hb6⟩; have j0 := (Bc hb6 hsd).trans k0; have j1 := (Bc hb6 hsd).trans k1; have j2 := (Bc hb6 hsd).trans k2; have j3 := (Bc hb6 hsd).trans k3; have j4 := (Bc hb6 hsd).trans k4; have j5 := (Bc hb6 hsd).trans k5; have l6 := Nat.lt_of_lt_of_le hsd hb6.size; have HB6 := Lib.hid (Bt HDB.out hb6); clear hb6)
                | (go_at_call 36; (with_reducible refine ((HV2.out _ HB6.out).mono ?_)); rintro e w7 ⟨rfl, hb7⟩; have i0 := (Bc hb7 l6).trans j0; have i1 := (Bc hb7 l6).trans j1; have i2 := (Bc hb7 l6).trans j2; have i3 := (Bc hb7 l6).trans j3; have i4 := (Bc hb7 l6).trans j4; have i5 := (Bc hb7 l6).trans j5; have HB7 := Lib.hid (Bt HB6.out hb7); clear hb7))
            all_goals
              go_wp2_with fail
              go_ret
              exact ⟨by rw [HR4.out]; rfl, HB7.out⟩
          · have d2 : ((un : Int) == (bn1 : Int)) = false := by simp; omega
            have d2n : (un == bn1) = false := by simpa using h2
            have d3 : decide (un = bn1) = false := decide_eq_false h2
            have d4 : decide ((un : Int) = (bn1 : Int)) = false := decide_eq_false (by omega)
            have HR4 : Hid (res = false) := Lib.hid (by rw [← HRES3.out, decide_eq_false h2, Bool.false_and])
            clear HRES3
            have HDB := Lib.hid hdb
            clear h1 hdb
            go_upto_region 9 with fail
            go_region_with (first
              | (go_at_call 23; (with_reducible refine ((HW64.out _ HDB.out).mono ?_)); rintro e w5 ⟨rfl, rfl⟩)
              | (go_at_call 23; (with_reducible refine ((HW64.out _ HB6.out).mono ?_)); rintro e w5 ⟨rfl, rfl⟩)
              | (go_at_call 35; (with_reducible refine ((HCV.out _ _ _ _ _ _ _ HDB.out).mono ?_)); rintro e w6 ⟨rfl, hb6⟩; have j0 := (Bc hb6 hsd).trans k0; have j1 := (Bc hb6 hsd).trans k1; have j2 := (Bc hb6 hsd).trans k2; have j3 := (Bc hb6 hsd).trans k3; have j4 := (Bc hb6 hsd).trans k4; have j5 := (Bc hb6 hsd).trans k5; have l6 := Nat.lt_of_lt_of_le hsd hb6.size; have HB6 := Lib.hid (Bt HDB.out hb6); clear hb6))
            all_goals
              go_wp2_with fail
              go_ret
              exact ⟨by rw [HR4.out]; rfl, HB6.out⟩
        · have d1 : (cl == cost) = false := by simpa using h1
          have HR4 : Hid (res = false) := Lib.hid (by rw [← HRES2.out, decide_eq_false h1, Bool.false_and])
          clear HRES2
          clear h1
          go_upto_region 9 with fail
          go_region
          all_goals
            go_wp2_with fail
            go_ret
            exact ⟨by rw [HR4.out]; rfl, HB4.out.drew⟩
  · rw [decide_eq_false hm1] at HZL
    have HR4 : Hid (res = false) := Lib.hid (by rw [← HRES.out, decide_eq_false hm1, Bool.false_and])
    clear HV hm1 hal hac HRES
    go_wp2_with (first
      | (go_at_call 34; (with_reducible refine ((HP.out _ _ _ _ (Ba (B0 w) _)).mono ?_)); rintro e w2 ⟨rfl, hb2⟩; have HB2 := Lib.hid (Bt (Ba (B0 w) _) hb2); have j1 : w2.cell? ⟨w.heap.size, 1, none⟩ = some (.slice As ws.length c1) := (Bc hb2 (by simp)).trans (by simp [go_sem]); have j3 : w2.cell? ⟨w.heap.size, 3, none⟩ = some (.slice Al ns.length c3) := (Bc hb2 (by simp)).trans (by simp [go_sem]); have j5 : w2.cell? ⟨w.heap.size, 5, none⟩ = some (.slice At m ct) := (Bc hb2 (by simp)).trans (by simp [go_sem]); clear hb2)
      | (go_at_call 22; (with_reducible refine ((HR.out _ HB2.out).mono ?_)); rintro e w3 ⟨rfl, rfl⟩)
      | (go_at_call 21; (with_reducible refine ((HZL.out w2).mono ?_)); rintro e w4 ⟨rfl, hb4⟩; have HB4 := Lib.hid (Bt HB2.out hb4); clear hb4))
    go_ret
    exact ⟨by rw [HR4.out]; rfl, HB4.out⟩
end Go.Proofs.Ytnpdoejjebgcpaa
