/- Walks over checker: Cover.bound. -/
import Derived.Test.YtnpdoejjebgcpaaQg
namespace Go.Proofs.Ytnpdoejjebgcpaa
open Go Go.RowKit
theorem Cov.lt40 {n : Nat} {ws : List Nat} {cs : List Int} (h : Cov n ws cs) : ∀ s ∈ ws, s < 2 ^ 40 := fun s hs => Nat.lt_of_lt_of_le (h.lt s hs) (Nat.pow_le_pow_right (by decide) h.le)
set_option maxRecDepth 100000 in
set_option maxHeartbeats 4000000 in
theorem boundC_any (n : Nat) (least : Int) (vs vc vw : Value) (Al At : Option Addr) (ml cl mt ct : Nat) (ws : List Nat) (cs : List Int) (hcov : Cov n ws cs) (taken out : Nat) (hto : taken < 2 ^ 63) (hoo : out < 2 ^ 63) (cost : Int) (hc0 : 0 ≤ cost) (hc1 : cost ≤ 1000000000) (pk ys no_ bd : Int) (weights : List Int) (hwl : weights.length ≤ 1000000)
    (w : World) (F G H : Nat → Prop) (hF : ∀ b, F b → b < w.heap.size) (hG : ∀ b, G b → b < w.heap.size) (hH : ∀ b, H b → b < w.heap.size) (hr : SlII F w vs (setsOf ws)) (hc : SlI G w vc cs) (hl : SlI H w vw weights) :
    Calls Try.prog 55 #[.agg #[.int .i64 n, vs, vc, .slice Al ml cl, .int .i64 least, .slice At mt ct], .agg #[.int .u64 taken, .int .u64 out, .int .i64 cost], .agg #[.int .i64 pk, .int .i64 ys, .int .i64 no_, .int .i64 bd, vw]] w
      fun e w' => e = .returned (.bool (Hit.boundF ws cs n least taken out cost ⟨pk, ys, no_, bd, weights⟩)) ∧ Below w.heap.size w w' := by
  have hWN := fun W (hW : Below w.heap.size w W) => within_any 0 1000000 vw weights W H (fun b hb => Nat.lt_of_lt_of_le (hH b hb) hW.size) (hl.keep (Agree.below hW hH))
  have hCV := fun Ac mc cc W (hW : Below w.heap.size w W) => coveredC_any n least vs Ac Al At mc cc ml cl mt ct ws hcov.lt40 (Nat.le_trans hcov.len (by decide)) taken (by omega) W F (fun b hb => Nat.lt_of_lt_of_le (hF b hb) hW.size) (hr.keep (Agree.below hW hF))
  obtain ⟨As, c1, rfl, _, _, hat⟩ := hr.open
  obtain ⟨Ac, c2, rfl, _, _, hac⟩ := hc.open
  obtain ⟨Aw, c3, rfl, _, _, haw⟩ := hl.open
  have hle := hcov.le
  have hwlen := hcov.len
  have hceq := hcov.eq
  have huw : Hit.unionW ws taken < 2 ^ 63 := Nat.lt_of_lt_of_le (hcov.union_lt taken) (Nat.pow_le_pow_right (by decide) (by omega))
  simp only [setsOf_length, hceq] at hCV ⊢
  have HCOV := Lib.hid hcov
  have HWN := Lib.hid hWN
  have HCV := Lib.hid hCV
  clear hr hc hl hcov hWN hCV
  go_enter Try.func55, Try.ntmps55
  by_cases hlen : weights.length = n
  · have hne : ((weights.length : Int) != n) = false := by rw [hlen]; simp
    have hbc := Hit.bound_cut ws cs n least taken out cost ⟨pk, ys, no_, bd, weights⟩ hlen
    have HBC := Lib.hid hbc
    have HLEN := Lib.hid hlen
    clear hbc hlen
    go_wp2_with fail
    obtain ⟨w1, hw1⟩ : ∃ w1 : World, ((w.alloc (.cells #[.int .i64 n, .slice As ws.length c1, .slice Ac ws.length c2, .slice Al ml cl, .int .i64 least, .slice At mt ct] 65)).alloc (.cells #[.int .u64 taken, .int .u64 out, .int .i64 cost] 104)).alloc (.cells #[.int .i64 pk, .int .i64 ys, .int .i64 no_, .int .i64 bd, .slice Aw weights.length c3] 42) = w1 := ⟨_, rfl⟩
    have e0 : w1.cell? ⟨w.heap.size, 0, none⟩ = some (.int .i64 n) := by rw [← hw1]; simp [go_sem]
    have e1 : w1.cell? ⟨w.heap.size, 1, none⟩ = some (.slice As ws.length c1) := by rw [← hw1]; simp [go_sem]
    have e2 : w1.cell? ⟨w.heap.size, 2, none⟩ = some (.slice Ac ws.length c2) := by rw [← hw1]; simp [go_sem]
    have e3 : w1.cell? ⟨w.heap.size, 3, none⟩ = some (.slice Al ml cl) := by rw [← hw1]; simp [go_sem]
    have e4 : w1.cell? ⟨w.heap.size, 4, none⟩ = some (.int .i64 least) := by rw [← hw1]; simp [go_sem]
    have e5 : w1.cell? ⟨w.heap.size, 5, none⟩ = some (.slice At mt ct) := by rw [← hw1]; simp [go_sem]
    have a0 : w1.cell? ⟨w.heap.size + 1, 0, none⟩ = some (.int .u64 taken) := by rw [← hw1]; simp [go_sem]
    have a1 : w1.cell? ⟨w.heap.size + 1, 1, none⟩ = some (.int .u64 out) := by rw [← hw1]; simp [go_sem]
    have a2 : w1.cell? ⟨w.heap.size + 1, 2, none⟩ = some (.int .i64 cost) := by rw [← hw1]; simp [go_sem]
    have b3 : w1.cell? ⟨w.heap.size + 2, 3, none⟩ = some (.int .i64 bd) := by rw [← hw1]; simp [go_sem]
    have b4 : w1.cell? ⟨w.heap.size + 2, 4, none⟩ = some (.slice Aw weights.length c3) := by rw [← hw1]; simp [go_sem]
    have s1 : w.heap.size + 2 < w1.heap.size := by rw [← hw1]; simp
    have hB1 : Below w.heap.size w w1 := by rw [← hw1]; exact Ba (Ba (Ba (B0 w) _) _) _
    rw [hw1]
    clear hw1
    have HB1 := Lib.hid hB1
    have k : ∀ W, Below w1.heap.size w1 W → (W.cell? ⟨w.heap.size, 0, none⟩ = some (.int .i64 n) ∧ W.cell? ⟨w.heap.size, 1, none⟩ = some (.slice As ws.length c1) ∧ W.cell? ⟨w.heap.size, 2, none⟩ = some (.slice Ac ws.length c2) ∧ W.cell? ⟨w.heap.size, 3, none⟩ = some (.slice Al ml cl) ∧ W.cell? ⟨w.heap.size, 4, none⟩ = some (.int .i64 least) ∧ W.cell? ⟨w.heap.size, 5, none⟩ = some (.slice At mt ct)) ∧
        (W.cell? ⟨w.heap.size + 1, 0, none⟩ = some (.int .u64 taken) ∧ W.cell? ⟨w.heap.size + 1, 1, none⟩ = some (.int .u64 out) ∧ W.cell? ⟨w.heap.size + 1, 2, none⟩ = some (.int .i64 cost)) ∧ W.cell? ⟨w.heap.size + 2, 3, none⟩ = some (.int .i64 bd) ∧ W.cell? ⟨w.heap.size + 2, 4, none⟩ = some (.slice Aw weights.length c3) := fun W hW =>
      ⟨⟨(Bc hW (by omega)).trans e0, (Bc hW (by omega)).trans e1, (Bc hW (by omega)).trans e2, (Bc hW (by omega)).trans e3, (Bc hW (by omega)).trans e4, (Bc hW (by omega)).trans e5⟩, ⟨(Bc hW (by omega)).trans a0, (Bc hW (by omega)).trans a1, (Bc hW (by omega)).trans a2⟩, (Bc hW s1).trans b3, (Bc hW s1).trans b4⟩
    have K := Lib.hid k
    clear k hB1
    (with_reducible refine ((HWN.out _ HB1.out).mono ?_))
    rintro e w2 ⟨rfl, hb2⟩
    obtain ⟨⟨f0, f1, f2, f3, f4, f5⟩, ⟨g0, g1, g2⟩, h3, h4⟩ := K.out _ hb2
    have HB2 := Lib.hid hb2
    clear hb2 e0 e1 e2 e3 e4 e5 a0 a1 a2 b3 b4
    cases hwb : withinB 0 1000000 weights with
    | false =>
      have hz : Hit.boundF ws cs n least taken out cost ⟨pk, ys, no_, bd, weights⟩ = false := by
        unfold Hit.boundF
        have : (weights.all fun w => decide (0 ≤ w) && decide (w ≤ 1000000)) = false := hwb
        simp only [this]; simp
      have HZ := Lib.hid hz
      clear hz hwb hat hac haw
      go_wp2_with fail
      go_ret
      exact ⟨by rw [HZ.out]; rfl, Bt HB1.out HB2.out⟩
    | true =>
      have hwt : ∀ x ∈ weights, 0 ≤ x ∧ x ≤ 1000000 := fun x hx => by
        have := List.all_eq_true.1 hwb x hx
        simpa using this
      have HWT := Lib.hid hwt
      clear hwt hwb
      go_wp2_with fail
      (with_reducible refine ((HCV.out _ _ _ _ (Bt HB1.out HB2.out)).mono ?_))
      rintro e w3 ⟨rfl, hb3⟩
      clear f0 f1 f2 f3 f4 f5 g0 g1 g2 h3 h4
      obtain ⟨⟨f0, f1, f2, f3, f4, f5⟩, ⟨g0, g1, g2⟩, h3, h4⟩ := K.out _ (Bt HB2.out hb3)
      have HB3 := Lib.hid (Bt HB1.out (Bt HB2.out hb3))
      clear hb3 HB2 HB1 K
      obtain ⟨uw, huw2⟩ : ∃ uw, Hit.unionW ws taken = uw := ⟨_, rfl⟩
      rw [huw2] at huw ⊢
      go_wp2_with fail
      go_loopg [7, 37] n (fun gg s7 s37 wr => ∃ k : Nat, k ≤ n ∧ n - k ≤ gg ∧ s37 = .int .i64 k ∧ s7 = .int .i64 (cost + Hit.sumI (weights.take k)) ∧ Aside (∀ j, j < k → Hit.okW ws taken weights j = true) ∧ wr = w3)
      case atStart => exact ⟨0, by omega, by omega, rfl, by simp [Hit.sumI], fun j hj => absurd hj (by omega), rfl⟩
      case round =>
        obtain ⟨k, hk, hg, rfl, rfl, HOK, rfl⟩ := hrel
        have hlen := HLEN.out
        by_cases hlt : k < n
        · have hki : decide ((k : Int) < weights.length) = true := decide_eq_true (by omega)
          have hkI : (k : Int) < weights.length := by omega
          obtain ⟨ad, rfl, hf, hcw⟩ := haw k (by omega)
          have hcw' := (HB3.out.cell (p := ad.add k) (by rw [block_of_add]; exact hH _ hf)).trans hcw
          have hkw : k < weights.length := by omega
          have hgd : weights.getD k 0 = weights[k] := by rw [List.getD_eq_getElem?_getD, List.getElem?_eq_getElem hkw]; rfl
          have hst := Hit.sumI_take weights k hkw
          have hbd := Hit.sumI_bd k (by omega) HOK.out
          have hok : Hit.okW ws taken weights k = (decide (0 ≤ weights[k]) && decide (weights[k] ≤ 1000000) && !(decide (0 < weights[k]) && (Hit.unionW ws taken).testBit k)) := by unfold Hit.okW; rw [hgd]
          have hsucc : Hit.okW ws taken weights k = true → ∀ j, j < k + 1 → Hit.okW ws taken weights j = true := fun h j hj => by
            by_cases e : j = k
            · subst e; exact h
            · exact HOK.out j (by omega)
          have hstop : Hit.okW ws taken weights k = false → Hit.boundF ws cs n least taken out cost ⟨pk, ys, no_, bd, weights⟩ = false := fun h => by
            rw [HBC.out, Hit.all_stop hlt h]; rfl
          rw [huw2] at hok
          have hu01 := HWT.out weights[k] (List.getElem_mem hkw)
          have hsh := shr_of uw k (by omega)
          have hle2 : uw >>> k ≤ uw := by rw [Nat.shiftRight_eq_div_pow]; exact Nat.div_le_self _ _
          have hand : bits .and .u64 ((uw >>> k : Nat) : Int) 1 = ((uw >>> k &&& 1 : Nat) : Int) := Hit.u64_and (uw >>> k) 1 (by omega) (by omega)
          have hbit := bit_of uw k
          have h4' : min k 64 = k := by omega
          have HST := Lib.hid hst
          have HSU := Lib.hid hsucc
          have HSP := Lib.hid hstop
          generalize uw >>> k &&& 1 = vb1 at *
          generalize uw >>> k = vs1 at *
          generalize uw.testBit k = bt at *
          generalize Hit.sumI (weights.take k) = acc at *
          generalize weights[k] = u at *
          clear hgd hst hsucc hstop hle2 hcw
          by_cases hu2 : 0 < u
          · have d3 : decide (0 < u) = true := decide_eq_true hu2
            cases bt with
            | true =>
              have HZ := Lib.hid (HSP.out (by rw [hok, d3]; simp))
              clear hok hat haw hac hlen
              go_wp2
              go_ret
              exact ⟨by rw [HZ.out]; rfl, HB3.out⟩
            | false =>
              have HN := Lib.hid (HSU.out (by rw [hok, decide_eq_true (show 0 ≤ u by omega), decide_eq_true (show u ≤ 1000000 by omega)]; simp))
              clear hok hat haw hac hlen
              go_wp2
              go_roundg (n - (k + 1))
              case measure => omega
              case rel => exact ⟨k + 1, by omega, by omega, by go_num, by rw [HST.out]; go_num, HN.out, rfl⟩
          · have d3 : decide (0 < u) = false := decide_eq_false hu2
            have HN := Lib.hid (HSU.out (by rw [hok, d3, decide_eq_true (show 0 ≤ u by omega), decide_eq_true (show u ≤ 1000000 by omega)]; rfl))
            clear hok hat haw hac hlen
            go_wp2
            go_roundg (n - (k + 1))
            case measure => omega
            case rel => exact ⟨k + 1, by omega, by omega, by go_num, by rw [HST.out]; go_num, HN.out, rfl⟩
        · have hki : decide ((k : Int) < weights.length) = false := decide_eq_false (by omega)
          obtain rfl : k = n := by omega
          have hfst : (List.range k).all (Hit.okW ws taken weights) = true := Hit.all_done HOK.out
          rw [show weights.take k = weights by rw [List.take_of_length_le (by omega)]]
          have hbT := Hit.sumI_bd k (by omega) HOK.out
          rw [show weights.take k = weights by rw [List.take_of_length_le (by omega)]] at hbT
          have hfin : (List.range ws.length).all (Hit.okS ws cs taken out weights) = true → Hit.boundF ws cs k least taken out cost ⟨pk, ys, no_, bd, weights⟩ = (decide (bd = cost + Hit.sumI weights) && decide (cost + Hit.sumI weights ≥ least)) := fun h => by rw [HBC.out, hfst, h]; rfl
          have hstp : (List.range ws.length).all (Hit.okS ws cs taken out weights) = false → Hit.boundF ws cs k least taken out cost ⟨pk, ys, no_, bd, weights⟩ = false := fun h => by rw [HBC.out, hfst, h]; rfl
          have HFIN := Lib.hid hfin
          have HSTP := Lib.hid hstp
          have hkn : decide (k < weights.length) = false := decide_eq_false (by omega)
          clear hfst hfin hstp HBC HOK hg hlen
          generalize cost + Hit.sumI weights = T at *
          have HAW := Lib.hid haw
          clear haw
          go_wp2_with fail
          go_loopg [58] ws.length (fun gg s58 wx => ∃ j : Nat, j ≤ ws.length ∧ ws.length - j ≤ gg ∧ s58 = .int .i64 j ∧ Aside (∀ i, i < j → Hit.okS ws cs taken out weights i = true) ∧ wx = wr)
          case atStart => exact ⟨0, by omega, by omega, rfl, fun i hi => absurd hi (by omega), rfl⟩
          case round =>
            obtain ⟨j, hj, hg, rfl, HOJ, rfl⟩ := hrel
            by_cases hlt : j < ws.length
            · have hji : decide ((j : Int) < ws.length) = true := decide_eq_true (by omega)
              have hjI : (j : Int) < ws.length := by omega
              obtain ⟨ad, u, rfl, hf, hcu, hu⟩ := hat j (by rw [setsOf_length]; exact hlt)
              rw [setsOf_get] at hu
              have hcu' := (HB3.out.cell (p := ad.add j) (by rw [block_of_add]; exact hF _ hf)).trans hcu
              obtain ⟨Au, cu, rfl, _, _, hau⟩ := id hu.open
              obtain ⟨adc, rfl, hfc, hcc⟩ := hac j (by omega)
              have hcc' := (HB3.out.cell (p := adc.add j) (by rw [block_of_add]; exact hG _ hfc)).trans hcc
              have hcg : cs.getD j 0 = cs[j] := by rw [List.getD_eq_getElem?_getD, List.getElem?_eq_getElem (by omega)]; rfl
              have hwg := getD_at ws j hlt
              have hsucc : Hit.okS ws cs taken out weights j = true → ∀ i, i < j + 1 → Hit.okS ws cs taken out weights i = true := fun h i hi => by
                by_cases e : i = j
                · subst e; exact h
                · exact HOJ.out i (by omega)
              have hstop : Hit.okS ws cs taken out weights j = false → Hit.boundF ws cs k least taken out cost ⟨pk, ys, no_, bd, weights⟩ = false := fun h => HSTP.out (Hit.all_stop hlt h)
              have hok : Hit.okS ws cs taken out weights j = !(!(taken ||| out).testBit j && decide (cs[j] < weighL weights (Hit.members ws[j]))) := by rw [← hcg, ← hwg, weighL_eq]; rfl
              have hml : ∀ x ∈ Hit.members ws[j], x < weights.length := fun x hx => by rw [HLEN.out]; exact Hit.members_lt (HCOV.out.lt _ (List.getElem_mem hlt)) x hx
              have hmn : (Hit.members ws[j]).length ≤ 1000 := Nat.le_trans (List.length_filter_le _ _) (by simp)
              have hor := Hit.u64_or taken out (by omega) (by omega)
              have hto2 : taken ||| out < 2 ^ 63 := Nat.or_lt_two_pow hto hoo
              have HSU := Lib.hid hsucc
              have HSP := Lib.hid hstop
              have HOKJ := Lib.hid hok
              have HML := Lib.hid hml
              clear hat hac hsucc hstop hok hml hcu hcc hcg hwg hu
              generalize hms : Hit.members ws[j] = ms at *
              generalize cs[j] = ck at *
              clear hms
              rw [ints_length] at hcu'
              go_wp2_with fail
              go_loopg [13, 65] ms.length (fun gg s13 s65 wy => ∃ q : Nat, q ≤ ms.length ∧ ms.length - q ≤ gg ∧ s65 = .int .i64 q ∧ s13 = .int .i64 (weighL weights (ms.take q)) ∧ wy = wr)
              case atStart => exact ⟨0, by omega, by omega, rfl, rfl, rfl⟩
              case round =>
                obtain ⟨q, hq, hgq, rfl, rfl, rfl⟩ := hrel
                by_cases hltq : q < ms.length
                · have hqi : decide ((q : Int) < ms.length) = true := decide_eq_true (by omega)
                  have hqI : (q : Int) < ms.length := by omega
                  obtain ⟨al, rfl, hfl, hcl⟩ := hau q (by rw [ints_length]; exact hltq)
                  rw [ints_get] at hcl
                  have hcl' := (HB3.out.cell (p := al.add q) (by rw [block_of_add]; exact hF _ hfl)).trans hcl
                  have hx := HML.out ms[q] (List.getElem_mem hltq)
                  obtain ⟨aw, rfl, hfw, hcw⟩ := HAW.out ms[q] hx
                  have hcw' := (HB3.out.cell (p := aw.add ms[q]) (by rw [block_of_add]; exact hH _ hfw)).trans hcw
                  have hs := weighL_take weights ms q hltq
                  have hbdq := weighL_bd HWT.out ms q
                  have hgd : weights.getD ms[q] 0 = weights[ms[q]] := by rw [List.getD_eq_getElem?_getD, List.getElem?_eq_getElem hx]; rfl
                  have hgc := HWT.out weights[ms[q]] (List.getElem_mem hx)
                  rw [hgd] at hs
                  have HS := Lib.hid hs
                  have hxI : ((ms[q] : Nat) : Int) < weights.length := by omega
                  generalize weights[ms[q]] = u at *
                  generalize weighL weights (ms.take q) = acc at *
                  clear hgd
                  generalize ms[q] = x at *
                  clear hau hs hcl hcw
                  go_wp2
                  go_roundg (ms.length - (q + 1))
                  case measure => omega
                  case rel => exact ⟨q + 1, by omega, by omega, by go_num, by rw [HS.out], rfl⟩
                · have hqi : decide ((q : Int) < ms.length) = false := decide_eq_false (by omega)
                  obtain rfl : q = ms.length := by omega
                  rw [List.take_length] at *
                  have hok := HOKJ.out
                  generalize weighL weights ms = wl at *
                  generalize taken ||| out = v at *
                  have hsh := shr_of v j (by omega)
                  have hle2 : v >>> j ≤ v := by rw [Nat.shiftRight_eq_div_pow]; exact Nat.div_le_self _ _
                  have hand : bits .and .u64 ((v >>> j : Nat) : Int) 1 = ((v >>> j &&& 1 : Nat) : Int) := Hit.u64_and (v >>> j) 1 (by omega) (by omega)
                  have hbit := bit_zero v j
                  have hj4 : min j 64 = j := by omega
                  generalize v >>> j &&& 1 = vb1 at *
                  generalize v >>> j = vs1 at *
                  generalize v.testBit j = bt at *
                  clear hle2 hau
                  cases bt with
                  | true =>
                    have HN := Lib.hid (HSU.out (by rw [hok]; rfl))
                    clear hok HSP HOKJ
                    go_wp2
                    go_roundg (ws.length - (j + 1))
                    case measure => omega
                    case rel => exact ⟨j + 1, by omega, by omega, by go_num, HN.out, rfl⟩
                  | false =>
                    by_cases hgt : ck < wl
                    · have hgd : decide (ck < wl) = true := decide_eq_true hgt
                      have HZ := Lib.hid (HSP.out (by rw [hok, hgd]; rfl))
                      clear hok HSU HOKJ hgt
                      go_wp2
                      go_ret
                      exact ⟨by rw [HZ.out]; rfl, HB3.out⟩
                    · have hgd : decide (ck < wl) = false := decide_eq_false hgt
                      have HN := Lib.hid (HSU.out (by rw [hok, hgd]; rfl))
                      clear hok HSP HOKJ hgt
                      go_wp2
                      go_roundg (ws.length - (j + 1))
                      case measure => omega
                      case rel => exact ⟨j + 1, by omega, by omega, by go_num, HN.out, rfl⟩
            · have hji : decide ((j : Int) < ws.length) = false := decide_eq_false (by omega)
              obtain rfl : j = ws.length := by omega
              have hz := HFIN.out (Hit.all_done HOJ.out)
              have HZ := Lib.hid hz
              clear hz hat hac
              by_cases hbd : bd = T
              · have t1 : (bd == T) = true := by simpa using hbd
                have hd : decide (bd = T) = true := decide_eq_true hbd
                rw [hd] at HZ
                clear hbd hd
                go_wp2_with fail
                go_ret
                exact ⟨by rw [HZ.out, Bool.true_and]; rfl, HB3.out⟩
              · have t1 : (bd == T) = false := by simpa using hbd
                have hd : decide (bd = T) = false := decide_eq_false hbd
                rw [hd] at HZ
                clear hbd hd
                go_wp2_with fail
                go_ret
                exact ⟨by rw [HZ.out, Bool.false_and]; rfl, HB3.out⟩
  · have hne : ((weights.length : Int) != n) = true := by simpa using fun h => hlen (by omega)
    have hz : Hit.boundF ws cs n least taken out cost ⟨pk, ys, no_, bd, weights⟩ = false := by
      unfold Hit.boundF
      rw [decide_eq_false hlen]; simp
    have HZ := Lib.hid hz
    clear hz hlen hat hac haw
    go_wp2_with fail
    go_ret
    exact ⟨by rw [HZ.out]; rfl, Ba (Ba (Ba (B0 w) _) _) _⟩
end Go.Proofs.Ytnpdoejjebgcpaa
