/- Walks over checker: Cover.problem, Cover.covered. -/
import Derived.Test.YtnpdoejjebgcpaaQf
import Derived.Test.YtnpdoejjebgcpaaCt
namespace Go.Proofs.Ytnpdoejjebgcpaa
open Go Go.RowKit
set_option maxRecDepth 100000 in
set_option maxHeartbeats 4000000 in
theorem probC_any (n cost : Int) (vs vc : Value) (Al At : Option Addr) (ml cl mt ct : Nat) (L : List (List Int)) (cs : List Int) (w : World) (F G : Nat → Prop) (hF : ∀ b, F b → b < w.heap.size) (hG : ∀ b, G b → b < w.heap.size) (hr : SlII F w vs L) (hc : SlI G w vc cs) :
    Calls Try.prog 34 #[.agg #[.int .i64 n, vs, vc, .slice Al ml cl, .int .i64 cost, .slice At mt ct]] w fun e w' => e = .returned (.bool (probC n L cs)) ∧ Below w.heap.size w w' := by
  have HA : Hid (∀ W : World, Calls Try.prog 21 #[.int .i64 0, .int .i64 40, .slice (some ⟨W.heap.size, 0, none⟩) 1 1] (W.alloc (.cells #[.int .i64 n] 3)) fun e w' => e = .returned (.bool (decide (0 ≤ n ∧ n ≤ 40))) ∧ Below W.heap.size W w') := Lib.hid fun W => by
    have := within_one 0 40 n W
    rwa [within1_eq] at this
  have HC := Lib.hid fun W (hW : Below w.heap.size w W) => within_any 1 1000000 vc cs W G (fun b hb => Nat.lt_of_lt_of_le (hG b hb) hW.size) (hc.keep (Agree.below hW hG))
  have HN := Lib.hid fun W hb (hh : W.cell? ⟨hb, 0, none⟩ = some (.int .i64 n)) (hW : Below w.heap.size w W) => anyS_any (fun l => !decide (Hit.listF n l = 0)) vs L 54 #[.pointer (some ⟨hb, 0, none⟩)] (enters_of Try.func54 (by kernel_rfl) rfl) W F (hr.keep (Agree.below hW hF)) fun u l _ hu => probClo_any n u l hb W F hu hh
  obtain ⟨As, c1, rfl, _⟩ := hr.open
  obtain ⟨Ac, c2, rfl, _⟩ := hc.open
  have hz : probC n L cs = (decide (0 ≤ n ∧ n ≤ 40) && (decide (L.length ≤ 40) && (decide (cs.length = L.length) && (withinB 1 1000000 cs && !(L.any fun l => !decide (Hit.listF n l = 0)))))) := rfl
  generalize probC n L cs = res at *
  generalize hwb : withinB 1 1000000 cs = wb at *
  generalize han : (L.any fun l => !decide (Hit.listF n l = 0)) = an at *
  clear hwb han hr hc
  have HZ := Lib.hid hz
  clear hz
  go_enter Try.func34, Try.ntmps34
  go_wp2_with fail
  obtain ⟨w1, hw1⟩ : ∃ w1 : World, w.alloc (.cells #[.int .i64 n, .slice As L.length c1, .slice Ac cs.length c2, .slice Al ml cl, .int .i64 cost, .slice At mt ct] 65) = w1 := ⟨_, rfl⟩
  have e0 : w1.cell? ⟨w.heap.size, 0, none⟩ = some (.int .i64 n) := by rw [← hw1]; simp [go_sem]
  have e1 : w1.cell? ⟨w.heap.size, 1, none⟩ = some (.slice As L.length c1) := by rw [← hw1]; simp [go_sem]
  have e2 : w1.cell? ⟨w.heap.size, 2, none⟩ = some (.slice Ac cs.length c2) := by rw [← hw1]; simp [go_sem]
  have s1 : w.heap.size < w1.heap.size := by rw [← hw1]; simp
  have hB1 : Below w.heap.size w w1 := by rw [← hw1]; exact Ba (B0 w) _
  have hsz : w1.heap.size = w.heap.size + 1 := by rw [← hw1]; simp
  rw [hw1]
  clear hw1
  have HA1 := HA.out w1
  rw [hsz] at HA1
  (with_reducible refine (HA1.mono ?_))
  rintro e w2 ⟨rfl, hb2⟩
  rw [← hsz] at hb2
  clear HA1 hsz
  have k0 := (Bc hb2 s1).trans e0
  have k1 := (Bc hb2 s1).trans e1
  have k2 := (Bc hb2 s1).trans e2
  have s2 := Nat.lt_of_lt_of_le s1 hb2.size
  have HB2 := Lib.hid (Bt hB1 hb2)
  clear hb2 hB1 e0 e1 e2 s1
  by_cases hn : 0 ≤ n ∧ n ≤ 40
  · rw [decide_eq_true hn]
    by_cases hL : L.length ≤ 40
    · have d1 : decide (40 < (L.length : Int)) = false := decide_eq_false (by omega)
      by_cases hcl : cs.length = L.length
      · have d2 : ((cs.length : Int) != (L.length : Int)) = false := by simp [hcl]
        have HR : Hid (res = (wb && !an)) := Lib.hid (by rw [HZ.out, decide_eq_true hn, decide_eq_true hL, decide_eq_true hcl]; rfl)
        clear HZ hn hL hcl
        cases wb with
        | false =>
          go_wp2_with (go_at_call 21; (with_reducible refine ((HC.out _ HB2.out).mono ?_)); rintro e w3 ⟨rfl, hb3⟩; have HB3 := Lib.hid (Bt HB2.out hb3); clear hb3)
          go_ret
          exact ⟨by rw [HR.out]; rfl, HB3.out⟩
        | true =>
          go_wp2_with (first
            | (go_at_call 21; (with_reducible refine ((HC.out _ HB2.out).mono ?_)); rintro e w3 ⟨rfl, hb3⟩; have HB3 := Lib.hid (Bt HB2.out hb3); have j0 := (Bc hb3 s2).trans k0; have j1 := (Bc hb3 s2).trans k1; clear hb3 k0 k1 k2)
            | (go_at_call 41; (with_reducible refine ((HN.out _ _ j0 HB3.out).mono ?_)); rintro e w4 ⟨rfl, rfl⟩))
          go_ret
          exact ⟨by rw [HR.out]; rfl, HB3.out⟩
      · have d2 : ((cs.length : Int) != (L.length : Int)) = true := by simp; omega
        have HR : Hid (res = false) := Lib.hid (by rw [HZ.out, decide_eq_false hcl]; simp)
        clear HZ hn hL hcl
        go_wp2_with fail
        go_ret
        exact ⟨by rw [HR.out]; rfl, HB2.out⟩
    · have d1 : decide (40 < (L.length : Int)) = true := decide_eq_true (by omega)
      have HR : Hid (res = false) := Lib.hid (by rw [HZ.out, decide_eq_false hL]; simp)
      clear HZ hn hL
      go_wp2_with fail
      go_ret
      exact ⟨by rw [HR.out]; rfl, HB2.out⟩
  · rw [decide_eq_false hn]
    have HR : Hid (res = false) := Lib.hid (by rw [HZ.out, decide_eq_false hn]; rfl)
    clear HZ hn
    go_wp2_with fail
    go_ret
    exact ⟨by rw [HR.out]; rfl, HB2.out⟩
set_option maxHeartbeats 2000000 in
theorem coveredC_any (n cost : Int) (vs : Value) (Ac Al At : Option Addr) (mc cc ml cl mt ct : Nat) (ws : List Nat) (hws : ∀ s ∈ ws, s < 2 ^ 40) (hwl : ws.length ≤ 60) (sel : Nat) (hsel : sel < 2 ^ 64) (w : World) (F : Nat → Prop) (hF : ∀ b, F b → b < w.heap.size) (hr : SlII F w vs (setsOf ws)) :
    Calls Try.prog 35 #[.agg #[.int .i64 n, vs, .slice Ac mc cc, .slice Al ml cl, .int .i64 cost, .slice At mt ct], .int .u64 sel] w fun e w' => e = .returned (.int .u64 (Hit.unionW ws sel : Nat)) ∧ Below w.heap.size w w' := by
  obtain ⟨As, c1, rfl, _, _, hat⟩ := hr.open
  rw [setsOf_length]
  have HWS := Lib.hid hws
  clear hr hws
  go_enter Try.func35, Try.ntmps35
  go_wp2_with fail
  obtain ⟨w1, hw1⟩ : ∃ w1 : World, w.alloc (.cells #[.int .i64 n, .slice As ws.length c1, .slice Ac mc cc, .slice Al ml cl, .int .i64 cost, .slice At mt ct] 65) = w1 := ⟨_, rfl⟩
  have hB1 : Below w.heap.size w w1 := by rw [← hw1]; exact Ba (B0 w) _
  rw [hw1]
  clear hw1
  have HB1 := Lib.hid hB1
  clear hB1
  go_loopg [5, 11] ws.length (fun gg s5 s wr => ∃ k : Nat, k ≤ ws.length ∧ ws.length - k ≤ gg ∧ s = .int .i64 k ∧ s5 = .int .u64 (Hit.unionW (ws.take k) sel : Nat) ∧ wr = w1)
  case atStart => exact ⟨0, by omega, by omega, rfl, by rw [List.take_zero]; rfl, rfl⟩
  case round =>
    obtain ⟨k, hk, hg, rfl, rfl, rfl⟩ := hrel
    by_cases hlt : k < ws.length
    · have hki : decide ((k : Int) < ws.length) = true := decide_eq_true (by omega)
      have hkI : (k : Int) < ws.length := by omega
      obtain ⟨ad, u, rfl, hf, hc, hu⟩ := hat k (by rw [setsOf_length]; exact hlt)
      rw [setsOf_get] at hu
      have hc' := (HB1.out.cell (p := ad.add k) (by rw [block_of_add]; exact hF _ hf)).trans hc
      have hwk := HWS.out ws[k] (List.getElem_mem hlt)
      have hu' := SlI.keep hu (Agree.below HB1.out hF)
      obtain ⟨Au, cu, rfl, hx1⟩ := id hu.open
      clear hx1
      have hW := word64_any (.slice Au (Hit.ints (Hit.members ws[k])).length cu) (Hit.members ws[k]) (fun x hx => by have := Hit.members_lt hwk x hx; omega) wr F hu'
      rw [Hit.word_members (Nat.lt_of_lt_of_le hwk (by decide))] at hW
      have hs := union_take ws sel k hlt
      have hsh := shr_of sel k (by omega)
      have hle2 : sel >>> k ≤ sel := by rw [Nat.shiftRight_eq_div_pow]; exact Nat.div_le_self _ _
      have hand : bits .and .u64 ((sel >>> k : Nat) : Int) 1 = ((sel >>> k &&& 1 : Nat) : Int) := Hit.u64_and (sel >>> k) 1 (by omega) (by omega)
      have hbit := bit_of sel k
      have h4 : min k 64 = k := by omega
      have hacc : Hit.unionW (ws.take k) sel < 2 ^ 40 := Nat.lt_pow_two_of_testBit _ fun i hi => by
        rw [Hit.unionW_test, Bool.eq_false_iff]
        intro h'
        obtain ⟨q, hq, q2⟩ := List.any_eq_true.1 h'
        rw [Bool.and_eq_true] at q2
        have hql : q < (ws.take k).length := List.mem_range.1 hq
        have hm : (ws.take k).getD q 0 ∈ ws := by
          rw [List.getD_eq_getElem?_getD, List.getElem?_eq_getElem hql]
          exact List.mem_of_mem_take (List.getElem_mem hql)
        have := Nat.testBit_lt_two_pow (Nat.lt_of_lt_of_le (HWS.out _ hm) (Nat.pow_le_pow_right (n := 2) (by decide) hi))
        rw [this] at q2
        cases q2.2
      have h2 := Hit.u64_or (Hit.unionW (ws.take k) sel) ws[k] (Nat.lt_of_lt_of_le hacc (by decide)) (Nat.lt_of_lt_of_le hwk (by decide))
      have HS := Lib.hid hs
      have H2 := Lib.hid h2
      have HW := Lib.hid hW
      generalize (Hit.ints (Hit.members ws[k])).length = lu at *
      generalize Hit.unionW (ws.take k) sel = acc at *
      generalize ws[k] = q at *
      generalize sel >>> k &&& 1 = vb1 at *
      generalize sel >>> k = vs1 at *
      generalize sel.testBit k = bt at *
      clear hat hu hu' hW hs hacc h2 hle2 hc
      cases bt with
      | true =>
        have HS2 : Hid (Hit.unionW (ws.take (k + 1)) sel = acc ||| q) := Lib.hid HS.out
        go_wp2_with (go_at_call 23; (with_reducible refine (HW.out.mono ?_)); rintro e w2 ⟨rfl, rfl⟩)
        go_roundg (ws.length - (k + 1))
        case measure => omega
        case rel => exact ⟨k + 1, by omega, by omega, by go_num, by rw [HS2.out, ← H2.out], rfl⟩
      | false =>
        have HS2 : Hid (Hit.unionW (ws.take (k + 1)) sel = acc) := Lib.hid HS.out
        go_wp2
        go_roundg (ws.length - (k + 1))
        case measure => omega
        case rel => exact ⟨k + 1, by omega, by omega, by go_num, by rw [HS2.out], rfl⟩
    · have hki : decide ((k : Int) < ws.length) = false := decide_eq_false (by omega)
      have : k = ws.length := by omega
      subst this
      clear hat
      go_wp2
      go_ret
      exact ⟨by rw [List.take_length]; rfl, HB1.out⟩
end Go.Proofs.Ytnpdoejjebgcpaa
