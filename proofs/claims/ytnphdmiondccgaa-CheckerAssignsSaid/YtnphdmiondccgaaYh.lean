/- Walks over matching: the bound of potentials, a proof, Verify. -/
import Derived.Test.YtnphdmiondccgaaYg
import Derived.Test.YtnphdmiondccgaaYe
namespace Go.Proofs.Ytnphdmiondccgaa
open Go Go.RowKit Go.Shelf
namespace Asg
/-- Right potentials. -/
def PotP (n m : Nat) (costs : List (List Int)) (rows l : List Int) : Prop :=
  rows.length = n ∧ l.length = m ∧ (∀ x ∈ rows ++ l, -Mp ≤ x ∧ x ≤ Mp) ∧ (∀ x ∈ l, x ≤ 0) ∧ ∀ i, i < n → ∀ k, k < m → g0 rows i + g0 l k ≤ g0 (costs.getD i []) k
theorem rsum_succ (z : List Int) (j : Nat) : rsum z (j + 1) = rsum z j + g0 z j := rfl
theorem rsum_app (a b : List Int) : ∀ j, j ≤ b.length → rsum (a ++ b) (a.length + j) = rsum a a.length + rsum b j
  | 0, _ => by
    show rsum (a ++ b) a.length = _ + 0
    rw [Int.add_zero]
    refine sumTo_congr _ fun i hi => ?_
    rw [List.getD_eq_getElem?_getD, List.getD_eq_getElem?_getD, List.getElem?_append_left hi]
  | j + 1, h => by
    rw [show a.length + (j + 1) = (a.length + j) + 1 from rfl, rsum_succ, rsum_app a b j (by omega), rsum_succ]
    have : g0 (a ++ b) (a.length + j) = g0 b j := by
      unfold g0
      rw [List.getD_eq_getElem?_getD, List.getD_eq_getElem?_getD, List.getElem?_append_right (by omega)]
      rw [show a.length + j - a.length = j by omega]
    rw [this]; omega
theorem mem_g0 {l : List Int} {P : Int → Prop} : (∀ x ∈ l, P x) ↔ ∀ i, i < l.length → P (g0 l i) := by
  constructor
  · intro h i hi
    unfold g0
    rw [List.getD_eq_getElem?_getD, List.getElem?_eq_getElem hi]
    exact h _ (List.getElem_mem hi)
  · intro h x hx
    obtain ⟨i, hi, rfl⟩ := List.getElem_of_mem hx
    have := h i hi
    unfold g0 at this
    rw [List.getD_eq_getElem?_getD, List.getElem?_eq_getElem hi] at this
    exact this
theorem rsum_le {z : List Int} : ∀ j, (∀ i, i < j → -Mp ≤ g0 z i ∧ g0 z i ≤ Mp) → -(1000000000000 * (j : Int)) ≤ rsum z j ∧ rsum z j ≤ 1000000000000 * (j : Int)
  | 0, _ => by simp [rsum, sumTo]
  | j + 1, h => by
    have ih := rsum_le j fun i hi => h i (by omega)
    have := h j (by omega)
    rw [rsum_succ]
    unfold Mp at this
    omega
end Asg
open Asg
theorem pos_call (W : World) (x : Int) : Calls Try.prog 39 #[.int .i64 x] W fun e w' => e = .returned (.bool (decide (x > 0))) ∧ W = w' := by
  by_cases h1 : 0 < x
  all_goals
    go_enter Try.func39, Try.ntmps39
    go_wp2
    go_ret
    exact ⟨by simp [h1], rfl⟩
theorem most_call (W : World) (x y : Int) (a : Addr) (ha : W.cell? a = some (.int .i64 y)) : Calls Try.prog 33 #[.int .i64 x, .pointer (some a)] W fun e w' => e = .returned (.bool (decide (x > y))) ∧ W = w' := by
  by_cases h1 : y < x
  all_goals
    go_enter Try.func33, Try.ntmps33
    go_wp2
    go_ret
    exact ⟨by simp [h1], rfl⟩
set_option maxRecDepth 100000 in
set_option maxHeartbeats 4000000 in
theorem potentials_any (A : Option Addr) (c n m : Nat) (costs : List (List Int)) (hn : costs.length = n) (hn5 : n ≤ 5) (hm8 : m ≤ 8) (hwd : wd costs = m) (hC : ChkP costs) (Ar Al : Option Addr) (nr cr q cl : Nat) (rows l : List Int) (hr : rows.length = nr) (hq : l.length = q) (w : World)
    (h : SlII (fun b => b < w.heap.size) w (.slice A n c) costs) (hrs : SlI (fun b => b < w.heap.size) w (.slice Ar nr cr) rows) (hl : SlI (fun b => b < w.heap.size) w (.slice Al q cl) l) :
    Calls Try.prog 32 #[.slice A n c, .slice Ar nr cr, .slice Al q cl] w fun e w' => (∃ s e0, e = .returned (.tuple #[.int .i64 s, .int .i64 e0]) ∧ (e0 = 0 ↔ PotP n m costs rows l) ∧ (e0 = 0 → s = rsum rows rows.length + rsum l l.length)) ∧ Below w.heap.size w w' := by
  have hco := columns_any A c n costs hn w _ h
  rw [hwd] at hco
  have HCO := Lib.hid hco
  have hrow : ∀ i, i < n → (costs.getD i []).length = m := fun i hi => by rw [← hwd]; exact (hC.2.2 i (by omega)).1
  have hcc := costs_cell h hn (fun _ h => h) hrow
  have hrc := ints_cell hrs hr (fun _ h => h)
  have hlc := ints_cell hl hq (fun _ h => h)
  have HCC := Lib.hid hcc
  have HRC := Lib.hid hrc
  have HLC := Lib.hid hlc
  have HR := Lib.hid hr
  have HQ := Lib.hid hq
  have HRS := Lib.hid hrs
  have HLS := Lib.hid hl
  have hrg : ∀ i k, i < n → k < m → -Mc ≤ g0 (costs.getD i []) k ∧ g0 (costs.getD i []) k ≤ Mc := fun i k hi hk => by
    have := mem_g0.1 (hC.2.2 i (by omega)).2 k (by rw [hrow i hi]; exact hk)
    exact this
  have HRG := Lib.hid hrg
  have hnm : n ≤ m := by have := hC.2.1; rw [hn, hwd] at this; exact this
  clear hco h hrs hl hcc hrc hlc hrow hr hq hwd hC hn hrg
  by_cases hrn : nr = n
  · subst hrn
    by_cases hqm : q = m
    · subst hqm
      obtain ⟨Z, hZ⟩ : ∃ Z, nr + q = Z := ⟨_, rfl⟩
      have hCT := Lib.hid (fun (W : World) (g : Nat) (hb : Below w.heap.size w W) (hB : Blk W g 26 #[.slice Ar nr cr, .slice Al q cl]) => concat_any Ar Al nr q cr cl rows l HR.out HQ.out (by omega) g W (fun b => b < w.heap.size) (fun b h => Nat.lt_of_lt_of_le h hb.size) hB (SlI.keep HRS.out (Agree.below hb fun _ h => h)) (SlI.keep HLS.out (Agree.below hb fun _ h => h)))
      go_enter Try.func32, Try.ntmps32
      go_upto_region 4 with (go_at_call 23; (with_reducible refine (HCO.out.mono ?_)); rintro e w' ⟨rfl, hw'⟩; rw [hw']; clear hw')
      go_wp2_with (go_at_call 38; (with_reducible refine ((hCT.out _ _ (Ba (B0 w) _) (Blk.new _ _ _)).mono ?_)); rintro e w2 ⟨v2, rfl, hs2, hb2⟩; obtain ⟨Az, cz, rfl, -, -, -⟩ := SlI.open hs2; rw [List.length_append, HR.out, HQ.out, hZ] at hs2 ⊢; have HS2 := Lib.hid hs2; have HB2 := Lib.hid (Bt (Ba (B0 w) _) hb2); clear hs2 hb2)
      have hzl : (rows ++ l).length = Z := by rw [List.length_append, HR.out, HQ.out, hZ]
      have hzc := ints_cell HS2.out hzl (fun _ h => h)
      obtain ⟨z, hz⟩ : ∃ z, rows ++ l = z := ⟨_, rfl⟩
      rw [hz] at hzl hzc
      have HZ := Lib.hid hz
      have HZL := Lib.hid hzl
      have HZC := Lib.hid hzc
      clear hz hzl hzc hCT
      go_loopg [8, 32] Z (fun gg s8 s32 wr => ∃ j : Nat, j ≤ Z ∧ Z - j ≤ gg ∧ s32 = .int .i64 j ∧ s8 = .int .i64 (rsum z j) ∧ Aside (∀ i, i < j → -Mp ≤ g0 z i ∧ g0 z i ≤ Mp) ∧ wr = w2)
      case atStart => exact ⟨0, by omega, by omega, rfl, rfl, fun j hj => absurd hj (by omega), rfl⟩
      case round =>
        obtain ⟨j, hj, hg, rfl, rfl, HJ, rfl⟩ := hrel
        obtain ⟨wo, rfl⟩ : ∃ wo : World, wo = wr := ⟨_, rfl⟩
        replace HJ : Hid (∀ i, i < j → -Mp ≤ g0 z i ∧ g0 z i ≤ Mp) := Lib.hid HJ
        have hle := rsum_le j HJ.out
        obtain ⟨s, hs⟩ : ∃ s, rsum z j = s := ⟨_, rfl⟩
        rw [hs] at hle ⊢
        have HS := Lib.hid hs
        clear hs
        by_cases hlt : j < Z
        · have hjI : (j : Int) < Z := by omega
          obtain ⟨az, haz, a1, -⟩ := HZC.out j hlt
          subst haz
          obtain ⟨x, hx⟩ : ∃ x, g0 z j = x := ⟨_, rfl⟩
          rw [hx] at a1
          have HX := Lib.hid hx
          clear hx
          by_cases hx1 : x < -1000000000000
          · go_wp2_with fail
            go_ret2
            refine ⟨⟨0, 3, rfl, ⟨fun h => absurd h (by decide), fun hP => ?_⟩, fun h => absurd h (by decide)⟩, HB2.out⟩
            have := mem_g0.1 hP.2.2.1 j (by rw [HZ.out, HZL.out]; exact hlt)
            rw [HZ.out, HX.out] at this
            unfold Mp at this
            omega
          · by_cases hx2 : 1000000000000 < x
            · go_wp2_with fail
              go_ret2
              refine ⟨⟨0, 3, rfl, ⟨fun h => absurd h (by decide), fun hP => ?_⟩, fun h => absurd h (by decide)⟩, HB2.out⟩
              have := mem_g0.1 hP.2.2.1 j (by rw [HZ.out, HZL.out]; exact hlt)
              rw [HZ.out, HX.out] at this
              unfold Mp at this
              omega
            · have hd1 : decide (x < -1000000000000) = false := decide_eq_false hx1
              have hd2 : decide (1000000000000 < x) = false := decide_eq_false hx2
              have g1 : IntKind.i64.wrap (s + x) = s + x := IntWalk.i64_in _ (by omega)
              go_wp2_with fail
              go_roundg (Z - (j + 1))
              case measure => omega
              case rel => exact ⟨j + 1, by omega, by omega, by go_num, by rw [rsum_succ, HS.out, HX.out], (show Aside _ from fun i hi => by
                by_cases e : i = j
                · subst e; rw [HX.out]; unfold Mp; omega
                · exact HJ.out i (by omega)), rfl⟩
        · obtain rfl : j = Z := by omega
          have hqs : SlI (fun b => b < w.heap.size) wo (.slice Al q cl) l := SlI.keep HLS.out (Agree.below HB2.out fun _ h => h)
          have hcf := containsFunc_any (fun x => decide (x > 0)) _ _ 39 #[] (enters_of Try.func39 (by kernel_rfl) rfl) wo _ hqs fun W x _ => pos_call W x
          have hsum : rsum z j = rsum rows rows.length + rsum l l.length := by
            rw [← HZ.out, ← hZ, ← HR.out, ← HQ.out]
            exact rsum_app rows l l.length (Nat.le_refl _)
          have hrange : ∀ x ∈ rows ++ l, -Mp ≤ x ∧ x ≤ Mp := mem_g0.2 fun i hi => by rw [HZ.out] at hi ⊢; exact HJ.out i (by rw [HZL.out] at hi; exact hi)
          have HSUM := Lib.hid hsum
          have HRANGE := Lib.hid hrange
          clear hqs hsum hrange
          cases hb : l.any (fun x => decide (x > 0)) with
          | true =>
            rw [hb] at hcf
            have HCF := Lib.hid hcf
            have HBB := Lib.hid hb
            clear hcf hb
            go_wp2_with (go_at_call 27; (with_reducible refine (HCF.out.mono ?_)); rintro e w' ⟨rfl, rfl⟩)
            go_ret2
            refine ⟨⟨0, 20, rfl, ⟨fun h => absurd h (by decide), fun hP => ?_⟩, fun h => absurd h (by decide)⟩, HB2.out⟩
            obtain ⟨x, hx, hd⟩ := List.any_eq_true.1 HBB.out
            have := hP.2.2.2.1 x hx
            simp at hd
            omega
          | false =>
            rw [hb] at hcf
            have HCF := Lib.hid hcf
            have hneg : ∀ x ∈ l, x ≤ 0 := fun x hx => by
              have := List.any_eq_false.1 hb x hx
              simp at this
              exact this
            have HNEG := Lib.hid hneg
            clear hcf hb hneg
            go_wp2_with (go_at_call 27; (with_reducible refine (HCF.out.mono ?_)); rintro e w' ⟨rfl, rfl⟩)
            go_loopg [50] nr (fun gg s50 wr => ∃ i : Nat, i ≤ nr ∧ nr - i ≤ gg ∧ s50 = .int .i64 i ∧ Aside (∀ i', i' < i → ∀ k, k < q → g0 rows i' + g0 l k ≤ g0 (costs.getD i' []) k) ∧ Aside (Below w.heap.size w wr))
            case atStart => exact ⟨0, by omega, by omega, rfl, fun j hj => absurd hj (by omega), HB2.out⟩
            case round =>
              clear HB2
              obtain ⟨i, hi, hg2, rfl, HI, HB⟩ := hrel
              replace HI : Hid (∀ i', i' < i → ∀ k, k < q → g0 rows i' + g0 l k ≤ g0 (costs.getD i' []) k) := Lib.hid HI
              replace HB : Hid (Below w.heap.size w wr) := Lib.hid HB
              obtain ⟨wp, rfl⟩ : ∃ wp : World, wp = wr := ⟨_, rfl⟩
              by_cases hlt : i < nr
              · have hiI : (i : Int) < nr := by omega
                obtain ⟨ad, ai, ci, hA, b1, b2, -, -⟩ := HCC.out i 0 hlt (by omega)
                subst hA
                have HRAW := Lib.hid b1
                replace b1 := (HB.out.cell (p := ad.add i) b2).trans b1
                clear b2
                go_wp2_with fail
                clear b1
                go_loopg [57] q (fun gg s57 wr => ∃ k : Nat, k ≤ q ∧ q - k ≤ gg ∧ s57 = .int .i64 k ∧ Aside (∀ k', k' < k → g0 rows i + g0 l k' ≤ g0 (costs.getD i []) k') ∧ Aside (Below w.heap.size w wr))
                case atStart => exact ⟨0, by omega, by omega, rfl, fun j hj => absurd hj (by omega), HB.out⟩
                case round =>
                  clear HB
                  obtain ⟨k, hk, hg3, rfl, HK, HB⟩ := hrel
                  replace HK : Hid (∀ k', k' < k → g0 rows i + g0 l k' ≤ g0 (costs.getD i []) k') := Lib.hid HK
                  replace HB : Hid (Below w.heap.size w wr) := Lib.hid HB
                  obtain ⟨wp, rfl⟩ : ∃ wp : World, wp = wr := ⟨_, rfl⟩
                  by_cases hlk : k < q
                  · have hkI : (k : Int) < q := by omega
                    obtain ⟨ad', ai', ci', hA, b1, b2, b3, b4⟩ := HCC.out i k hlt hlk
                    injection hA with hA
                    subst hA
                    have e := b1.symm.trans HRAW.out
                    injection e with e
                    injection e with e1 e2 e3
                    injection e1 with e1
                    subst e1 e3
                    clear e2 b1 b2
                    obtain ⟨ar, hA, r1, r2⟩ := HRC.out i hlt
                    subst hA
                    obtain ⟨al, hA, l1, l2⟩ := HLC.out k hlk
                    subst hA
                    replace b3 := (HB.out.cell (p := ai'.add k) b4).trans b3
                    replace r1 := (HB.out.cell (p := ar.add i) r2).trans r1
                    replace l1 := (HB.out.cell (p := al.add k) l2).trans l1
                    have q1 := mem_g0.1 HRANGE.out i (by rw [List.length_append, HR.out]; omega)
                    have q2 := mem_g0.1 HRANGE.out (nr + k) (by rw [List.length_append, HR.out, HQ.out]; omega)
                    have q1' : g0 (rows ++ l) i = g0 rows i := by unfold g0; rw [List.getD_eq_getElem?_getD, List.getD_eq_getElem?_getD, List.getElem?_append_left (by rw [HR.out]; exact hlt)]
                    have q2' : g0 (rows ++ l) (nr + k) = g0 l k := by
                      unfold g0
                      rw [List.getD_eq_getElem?_getD, List.getD_eq_getElem?_getD, List.getElem?_append_right (by rw [HR.out]; omega), HR.out]
                      rw [show nr + k - nr = k by omega]
                    rw [q1'] at q1
                    rw [q2'] at q2
                    clear q1' q2' b4 r2 l2
                    obtain ⟨cx, hcx⟩ : ∃ x, g0 (costs.getD i []) k = x := ⟨_, rfl⟩
                    obtain ⟨rx, hrx⟩ : ∃ x, g0 rows i = x := ⟨_, rfl⟩
                    obtain ⟨lx, hlx⟩ : ∃ x, g0 l k = x := ⟨_, rfl⟩
                    rw [hcx] at b3
                    rw [hrx] at r1 q1
                    rw [hlx] at l1 q2
                    obtain ⟨xx, hxx⟩ : ∃ x, rx + lx = x := ⟨_, rfl⟩
                    have g1 : IntKind.i64.wrap (rx + lx) = xx := by rw [IntWalk.i64_in _ (by unfold Mp at *; omega)]; exact hxx
                    have HXX := Lib.hid (show g0 rows i + g0 l k = xx by rw [hrx, hlx]; exact hxx)
                    have HCX := Lib.hid hcx
                    clear hcx hrx hlx hxx q1 q2
                    go_upto_region 19 with fail
                    go_quiet (fail)
                    generalize hw13 : World.drewN wp _ = w13
                    have hB13 : Below w.heap.size w w13 := by rw [← hw13]; exact below_drewN HB.out _
                    have HB13 := Lib.hid hB13
                    clear hw13 hB13 b3 r1 l1 g1
                    by_cases hcx : cx < xx
                    · go_wp2_with fail
                      go_ret2
                      refine ⟨⟨0, 20, rfl, ⟨fun h => absurd h (by decide), fun hP => ?_⟩, fun h => absurd h (by decide)⟩, HB13.out⟩
                      have := hP.2.2.2.2 i hlt k hlk
                      rw [HXX.out, HCX.out] at this
                      omega
                    · have hd : decide (cx < xx) = false := decide_eq_false hcx
                      go_wp2_with fail
                      go_roundg (q - (k + 1))
                      case measure => omega
                      case rel => exact ⟨k + 1, by omega, by omega, by go_num, (show Aside _ from fun k' hk' => by
                        by_cases e : k' = k
                        · subst e; rw [HXX.out, HCX.out]; omega
                        · exact HK.out k' (by omega)), HB13.out⟩
                  · obtain rfl : k = q := by omega
                    go_wp2_with fail
                    go_roundg (nr - (i + 1))
                    case measure => omega
                    case rel => exact ⟨i + 1, by omega, by omega, by go_num, (show Aside _ from fun i' hi' => by
                      by_cases e : i' = i
                      · subst e; exact HK.out
                      · exact HI.out i' (by omega)), HB.out⟩
              · obtain rfl : i = nr := by omega
                go_wp2_with fail
                go_ret2
                exact ⟨⟨s, 0, rfl, ⟨fun _ => ⟨HR.out, HQ.out, HRANGE.out, HNEG.out, HI.out⟩, fun _ => rfl⟩, fun _ => by rw [← HS.out]; exact HSUM.out⟩, HB.out⟩
    · have hI : ((q : Int) != m) = true := by simp; omega
      go_enter Try.func32, Try.ntmps32
      go_wp2_with (go_at_call 23; (with_reducible refine (HCO.out.mono ?_)); rintro e w' ⟨rfl, hw'⟩; rw [hw']; clear hw')
      go_ret2
      exact ⟨⟨0, 5, rfl, ⟨fun h => absurd h (by decide), fun hP => absurd (HQ.out.symm.trans hP.2.1) hqm⟩, fun h => absurd h (by decide)⟩, B0 w⟩
  · have hI : ((nr : Int) != n) = true := by simp; omega
    go_enter Try.func32, Try.ntmps32
    go_wp2_with fail
    go_ret2
    exact ⟨⟨0, 5, rfl, ⟨fun h => absurd h (by decide), fun hP => absurd (HR.out.symm.trans hP.1) hrn⟩, fun h => absurd h (by decide)⟩, B0 w⟩
set_option maxRecDepth 100000 in
set_option maxHeartbeats 4000000 in
theorem prove_any (A : Option Addr) (c n m : Nat) (costs : List (List Int)) (hn : costs.length = n) (hn5 : n ≤ 5) (hm8 : m ≤ 8) (hwd : wd costs = m) (hC : ChkP costs) (s0 : Value) (Ar Al : Option Addr) (nr cr q cl : Nat) (rows l : List Int) (hr : rows.length = nr) (hq : l.length = q) (tot s e0 : Int) (w : World)
    (h : SlII (fun b => b < w.heap.size) w (.slice A n c) costs) (hrs : SlI (fun b => b < w.heap.size) w (.slice Ar nr cr) rows) (hl : SlI (fun b => b < w.heap.size) w (.slice Al q cl) l) :
    Calls Try.prog 26 #[.slice A n c, .agg #[s0, .int .i64 tot, .slice Ar nr cr, .slice Al q cl], .int .i64 s, .int .i64 e0, .int .i64 1000000000000] w fun e w' =>
      (∃ e1, e = .returned (.int .i64 e1) ∧ (e1 = 0 ↔ e0 = 0 ∧ s = tot ∧ PotP n m costs rows l ∧ tot ≤ rsum rows rows.length + rsum l l.length)) ∧ Below w.heap.size w w' := by
  obtain ⟨w1, hw1⟩ : ∃ w1 : World, (w.alloc (.cells #[s0, .int .i64 tot, .slice Ar nr cr, .slice Al q cl] 28)).alloc (.cells #[.int .i64 1000000000000] 3) = w1 := ⟨_, rfl⟩
  have hB1 : Below w.heap.size w w1 := by rw [← hw1]; exact Ba (Ba (B0 w) _) _
  have hK1 : Blk w1 w.heap.size 28 #[s0, .int .i64 tot, .slice Ar nr cr, .slice Al q cl] := by rw [← hw1]; exact (Blk.new _ _ _).alloc _
  have hK2 : Blk w1 (w.heap.size + 1) 3 #[.int .i64 1000000000000] := by rw [← hw1]; exact blk2 _ _ _ _
  have hP := fun (W : World) (hb : Below w.heap.size w W) => potentials_any A c n m costs hn hn5 hm8 hwd hC Ar Al nr cr q cl rows l hr hq W (h.bel hb) (hrs.bel hb) (hl.bel hb)
  have HP := Lib.hid hP
  have HRS := Lib.hid (hrs.bel hB1)
  have HB1 := Lib.hid hB1
  have HK1 := Lib.hid hK1
  have HK2 := Lib.hid hK2
  have k0 := hK1.cell 0
  have k1 := hK1.cell 1
  have k2 := hK1.cell 2
  have k3 := hK1.cell 3
  simp only [List.getElem?_toArray, List.getElem?_cons_zero, List.getElem?_cons_succ] at k0 k1 k2 k3
  have HW1 := Lib.hid hw1
  obtain ⟨Q, hQ⟩ : ∃ Q : Prop, (e0 = 0 ∧ s = tot ∧ PotP n m costs rows l ∧ tot ≤ rsum rows rows.length + rsum l l.length) = Q := ⟨_, rfl⟩
  rw [hQ]
  have HQ := Lib.hid hQ
  clear hP h hrs hl hB1 hK1 hK2 hr hq hwd hC hn hw1 hQ
  by_cases he : e0 = 0
  · subst he
    by_cases hst : s = tot
    · subst hst
      go_enter Try.func26, Try.ntmps26
      go_upto_region 1 with fail
      have hw1 := HW1.out
      rw [hw1]
      clear hw1 HW1
      go_upto_region 6 with (go_at_call 32; (with_reducible refine ((HP.out _ HB1.out).mono ?_)); rintro e w2 ⟨⟨b, e2, rfl, hiff, hsum⟩, hb2⟩; have HIFF := Lib.hid hiff; have HSUM := Lib.hid hsum; have HB2 := Lib.hid hb2; clear hiff hsum hb2 k0 k1 k2 k3)
      by_cases he2 : e2 = 0
      · subst he2
        have hpot := HIFF.out.1 rfl
        have hsm := HSUM.out rfl
        have HPOT := Lib.hid hpot
        have HSM := Lib.hid hsm
        have hk1 := HK1.out.below HB2.out HK1.out.lt
        have k1 := hk1.cell 1
        have k2 := hk1.cell 2
        have m0 := (HK2.out.below HB2.out HK2.out.lt).cell 0
        simp only [List.getElem?_toArray, List.getElem?_cons_zero, List.getElem?_cons_succ] at k1 k2 m0
        have hcf := containsFunc_any (fun x => decide (x > 1000000000000)) _ _ 33 #[.pointer (some ⟨w.heap.size + 1, 0, none⟩)] (enters_of Try.func33 (by kernel_rfl) rfl) w2 _ (HRS.out.bel HB2.out) fun W x hb => most_call W x 1000000000000 ⟨w.heap.size + 1, 0, none⟩ ((hb.cell (p := ⟨w.heap.size + 1, 0, none⟩) (Nat.lt_of_lt_of_le HK2.out.lt HB2.out.size)).trans m0)
        have hany : rows.any (fun x => decide (x > 1000000000000)) = false := by
          rw [List.any_eq_false]
          intro x hx
          have := (hpot.2.2.1 x (List.mem_append_left _ hx)).2
          unfold Mp at this
          simp
          omega
        rw [hany] at hcf
        have HCF := Lib.hid hcf
        clear hcf hany hpot hsm hk1 m0
        by_cases hbt : b < s
        · go_wp2_with fail
          go_ret
          refine ⟨⟨20, rfl, ⟨fun h => absurd h (by decide), fun hP => ?_⟩⟩, Bt HB1.out HB2.out⟩
          rw [← HQ.out] at hP
          have := hP.2.2.2
          rw [← HSM.out] at this
          omega
        · have hd : decide (b < s) = false := decide_eq_false hbt
          go_wp2_with (go_at_call 27; (with_reducible refine (HCF.out.mono ?_)); rintro e w' ⟨rfl, rfl⟩)
          go_ret
          exact ⟨⟨0, rfl, ⟨fun _ => HQ.out.mp ⟨by first | rfl | trivial, by first | rfl | trivial, HPOT.out, by rw [← HSM.out]; omega⟩, fun _ => rfl⟩⟩, Bt HB1.out HB2.out⟩
      · have hI : (e2 != 0) = true := by simpa using he2
        go_wp2_with fail
        go_ret
        exact ⟨⟨e2, rfl, ⟨fun h => absurd h he2, fun hP => absurd (HIFF.out.2 (HQ.out.mpr hP).2.2.1) he2⟩⟩, Bt HB1.out HB2.out⟩
    · have hI : (s != tot) = true := by simpa using hst
      go_enter Try.func26, Try.ntmps26
      go_upto_region 1 with fail
      have hw1 := HW1.out
      rw [hw1]
      clear hw1 HW1
      go_wp2_with fail
      go_ret
      exact ⟨⟨7, rfl, ⟨fun h => absurd h (by decide), fun hP => absurd (HQ.out.mpr hP).2.1 hst⟩⟩, HB1.out⟩
  · have hI : (e0 != 0) = true := by simpa using he
    go_enter Try.func26, Try.ntmps26
    go_upto_region 1 with fail
    have hw1 := HW1.out
    rw [hw1]
    clear hw1 HW1
    go_wp2_with fail
    go_ret
    exact ⟨⟨e0, rfl, ⟨fun h => absurd h he, fun hP => absurd (HQ.out.mpr hP).1 he⟩⟩, HB1.out⟩
set_option maxRecDepth 100000 in
set_option maxHeartbeats 4000000 in
/-- Verify accepts right assignments with right potentials only. -/
theorem mverify_any (A : Option Addr) (c n : Nat) (costs : List (List Int)) (hn : costs.length = n) (hn5 : n ≤ 5) (hm8 : ∀ i, i < n → (costs.getD i []).length ≤ 8) (Ac Ar Al : Option Addr) (nc cc nr cr q cl : Nat) (cols rows l : List Int) (hc : cols.length = nc) (hr : rows.length = nr) (hq : l.length = q) (tot : Int) (w : World)
    (h : SlII (fun b => b < w.heap.size) w (.slice A n c) costs) (hcs : SlI (fun b => b < w.heap.size) w (.slice Ac nc cc) cols) (hrs : SlI (fun b => b < w.heap.size) w (.slice Ar nr cr) rows) (hl : SlI (fun b => b < w.heap.size) w (.slice Al q cl) l) :
    Calls Try.prog 13 #[.slice A n c, .agg #[.slice Ac nc cc, .int .i64 tot, .slice Ar nr cr, .slice Al q cl]] w fun e w' =>
      (∃ e1, e = .returned (.int .i64 e1) ∧ (e1 = 0 ↔ VerP costs cols tot rows l)) ∧ Below w.heap.size w w' := by
  obtain ⟨w1, hw1⟩ : ∃ w1 : World, w.alloc (.cells #[.slice Ac nc cc, .int .i64 tot, .slice Ar nr cr, .slice Al q cl] 28) = w1 := ⟨_, rfl⟩
  have hB1 : Below w.heap.size w w1 := by rw [← hw1]; exact Ba (B0 w) _
  have hK1 : Blk w1 w.heap.size 28 #[.slice Ac nc cc, .int .i64 tot, .slice Ar nr cr, .slice Al q cl] := by rw [← hw1]; exact Blk.new _ _ _
  have HCK := Lib.hid (fun (W : World) (hb : Below w.heap.size w W) => mCheck_any A c n costs hn hn5 hm8 W _ (h.bel hb))
  have k0 := hK1.cell 0
  simp only [List.getElem?_toArray, List.getElem?_cons_zero] at k0
  obtain ⟨m, hm⟩ : ∃ m, wd costs = m := ⟨_, rfl⟩
  by_cases hC : ChkP costs
  · have hm8' : m ≤ 8 := by
      rcases Nat.eq_zero_or_pos n with h0 | h0
      · have : wd costs = 0 := by rw [List.length_eq_zero_iff.1 (hn.trans h0)]; rfl
        omega
      · have h1 := hm8 0 h0
        have h2 := (hC.2.2 0 (by omega)).1
        omega
    have HT := Lib.hid (total_any A c n m costs hn hn5 hm8' hm hC Ac nc cc cols hc w1 (h.bel hB1) (hcs.bel hB1))
    have HPR := Lib.hid (fun (W : World) (hb : Below w.heap.size w W) (s e0 : Int) => prove_any A c n m costs hn hn5 hm8' hm hC (.slice Ac nc cc) Ar Al nr cr q cl rows l hr hq tot s e0 W (h.bel hb) (hrs.bel hb) (hl.bel hb))
    have HCP := Lib.hid hC
    have HK1 := Lib.hid hK1
    have HB1 := Lib.hid hB1
    have HW1 := Lib.hid hw1
    have HN := Lib.hid hn
    have HM := Lib.hid hm
    clear h hcs hrs hl hC hK1 hB1 hw1 hc hr hq hn hm hm8
    go_enter Try.func13, Try.ntmps13
    go_upto_region 1 with fail
    have hw1 := HW1.out
    rw [hw1]
    clear hw1 HW1
    go_upto_region 2 with (go_at_call 10; (with_reducible refine ((HCK.out _ HB1.out).mono ?_)); rintro e w' ⟨⟨e0, rfl, he⟩, rfl⟩; have HE := Lib.hid he; clear he)
    obtain rfl : e0 = 0 := HE.out.2 HCP.out
    go_upto_region 5 with (go_at_call 25; (with_reducible refine (HT.out.mono ?_)); rintro e w2 ⟨⟨s, e2, rfl, hiff, hsum⟩, hb2⟩; have HIFF := Lib.hid hiff; have HSUM := Lib.hid hsum; have HB2 := Lib.hid hb2; clear hiff hsum hb2 k0)
    have hk1 := HK1.out.below HB2.out HK1.out.lt
    have k0 := hk1.cell 0
    have k1 := hk1.cell 1
    have k2 := hk1.cell 2
    have k3 := hk1.cell 3
    simp only [List.getElem?_toArray, List.getElem?_cons_zero, List.getElem?_cons_succ] at k0 k1 k2 k3
    clear hk1
    go_wp2_with (go_at_call 26; (with_reducible refine ((HPR.out _ (Bt HB1.out HB2.out) _ _).mono ?_)); rintro e w3 ⟨⟨e3, rfl, hiff3⟩, hb3⟩; have HIFF3 := Lib.hid hiff3; have HB3 := Lib.hid hb3; clear hiff3 hb3)
    go_ret
    refine ⟨⟨e3, rfl, ?_⟩, Bt (Bt HB1.out HB2.out) HB3.out⟩
    rw [HIFF3.out]
    constructor
    · rintro ⟨rfl, rfl, hp, hle⟩
      have ht := HIFF.out.1 rfl
      have hs := HSUM.out rfl
      refine ⟨⟨HCP.out.1, HCP.out.2.1, by rw [HN.out]; exact ht.1, by rw [HN.out]; exact hp.1, by rw [HM.out]; exact hp.2.1⟩, ⟨fun x hx => hp.2.2.1 x (List.mem_append_left _ hx), fun x hx => ⟨(hp.2.2.1 x (List.mem_append_right _ hx)).1, hp.2.2.2.1 x hx⟩⟩, fun i hi => ?_, by rw [HN.out]; exact hs.symm, hle⟩
      have h1 := HCP.out.2.2 i hi
      rw [HN.out] at hi
      have h2 := ht.2 i hi
      exact ⟨h1.1, h1.2, by rw [HM.out]; exact h2.1, h2.2, fun k hk => hp.2.2.2.2 i hi k (by rw [HM.out] at hk; exact hk)⟩
    · rintro ⟨⟨-, -, h3, h4, h5⟩, ⟨r1, r2⟩, hrow, hct, hle⟩
      have ht : TotP n m cols := ⟨by rw [← HN.out]; exact h3, fun i hi => by
        have := hrow i (by rw [HN.out]; exact hi)
        exact ⟨by have := this.2.2.1; rw [HM.out] at this; exact this, this.2.2.2.1⟩⟩
      have he2 := HIFF.out.2 ht
      refine ⟨he2, by rw [HSUM.out he2, ← HN.out]; exact hct, ⟨by rw [← HN.out]; exact h4, by rw [← HM.out]; exact h5, fun x hx => ?_, fun x hx => (r2 x hx).2, fun i hi k hk => (hrow i (by rw [HN.out]; exact hi)).2.2.2.2 k (by rw [HM.out]; exact hk)⟩, hle⟩
      rcases List.mem_append.1 hx with hx | hx
      · exact r1 x hx
      · have := r2 x hx
        unfold Mp at *
        omega
  · have HCP := Lib.hid hC
    have HB1 := Lib.hid hB1
    have HW1 := Lib.hid hw1
    have HN := Lib.hid hn
    clear h hcs hrs hl hC hK1 hB1 hw1 hc hr hq hn hm hm8
    go_enter Try.func13, Try.ntmps13
    go_upto_region 1 with fail
    have hw1 := HW1.out
    rw [hw1]
    clear hw1 HW1
    go_upto_region 2 with (go_at_call 10; (with_reducible refine ((HCK.out _ HB1.out).mono ?_)); rintro e w' ⟨⟨e0, rfl, he⟩, rfl⟩; have HE := Lib.hid he; clear he)
    have hne : ¬ (e0 = 0) := fun h => HCP.out (HE.out.1 h)
    have hI : (e0 != 0) = true := by simpa using hne
    go_wp2_with fail
    go_ret
    refine ⟨⟨e0, rfl, ⟨fun h => absurd h hne, fun hP => absurd ?_ HCP.out⟩⟩, HB1.out⟩
    exact ⟨hP.1.1, hP.1.2.1, fun i hi => ⟨(hP.2.2.1 i hi).1, (hP.2.2.1 i hi).2.1⟩⟩
end Go.Proofs.Ytnphdmiondccgaa
