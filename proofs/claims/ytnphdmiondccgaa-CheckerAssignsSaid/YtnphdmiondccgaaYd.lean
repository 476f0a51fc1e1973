/- Walks over matching: columns, Check, total. -/
import Derived.Test.YtnphdmiondccgaaYc
import Derived.Test.YtnphdmiondccgaaW1
namespace Go.Proofs.Ytnphdmiondccgaa
open Go Go.RowKit
namespace Asg
/-- Right costs. -/
def ChkP (costs : List (List Int)) : Prop := wd costs ≤ 120 ∧ costs.length ≤ wd costs ∧ ∀ i, i < costs.length → (costs.getD i []).length = wd costs ∧ ∀ c ∈ costs.getD i [], -Mc ≤ c ∧ c ≤ Mc
def badC (c : Int) : Bool := decide (c < -1000000000) || decide (c > 1000000000)
theorem badC_any (l : List Int) : l.any badC = false ↔ ∀ c ∈ l, -Mc ≤ c ∧ c ≤ Mc := by
  rw [List.any_eq_false]
  refine forall_congr' fun c => forall_congr' fun _ => ?_
  unfold badC Mc
  simp only [Bool.or_eq_true, decide_eq_true_eq, not_or]
  omega
theorem wd_eq {costs : List (List Int)} (h : 0 < costs.length) : wd costs = (costs.getD 0 []).length := by
  cases costs with
  | nil => simp at h
  | cons r l => rfl
theorem wd_nil : wd [] = 0 := rfl
theorem getD_in {costs : List (List Int)} {i : Nat} (h : i < costs.length) : costs.getD i [] = costs[i] := by
  rw [List.getD_eq_getElem?_getD, List.getElem?_eq_getElem h]; rfl
end Asg
open Asg
theorem columns_any (A : Option Addr) (c n : Nat) (costs : List (List Int)) (hn : costs.length = n) (w : World) (F : Nat → Prop) (h : SlII F w (.slice A n c) costs) :
    Calls Try.prog 23 #[.slice A n c] w fun e w' => e = .returned (.int .i64 (wd costs)) ∧ w' = w := by
  obtain ⟨A', c', e, -, -, hat⟩ := SlII.open h
  injection e with e1 e2 e3
  subst e1 e3
  clear e2
  by_cases h0 : n = 0
  · have : wd costs = 0 := by
      rw [List.length_eq_zero_iff.1 (hn.trans h0)]; rfl
    rw [this]
    subst h0
    clear hat h hn this
    go_enter Try.func23, Try.ntmps23
    go_wp2_with fail
    go_ret
    exact ⟨rfl, rfl⟩
  · obtain ⟨ad, u, rfl, -, hc0, hu⟩ := hat 0 (by omega)
    obtain ⟨Au, cu, rfl, -, -, -⟩ := SlI.open hu
    have hw := wd_eq (costs := costs) (by omega)
    rw [getD_in (by omega)] at hw
    have hz : ad.add 0 = ad := by simp [Addr.add]
    rw [hz] at hc0
    obtain ⟨m, hm⟩ : ∃ m, costs[0].length = m := ⟨_, rfl⟩
    rw [hm] at hw hc0
    have h1 : (n : Int) ≠ 0 := by omega
    have h2 : ((n : Int) == 0) = false := by simpa using h0
    have h3 : (0 : Int) < n := by omega
    rw [hw]
    clear hat h hz hu hm hw hn
    go_enter Try.func23, Try.ntmps23
    go_wp2_with fail
    go_ret
    exact ⟨rfl, rfl⟩
theorem badC_call (W : World) (x : Int) : Calls Try.prog 30 #[.int .i64 x] W fun e w' => e = .returned (.bool (badC x)) ∧ W = w' := by
  unfold badC
  by_cases h1 : x < -1000000000 <;> by_cases h2 : 1000000000 < x
  all_goals
    go_enter Try.func30, Try.ntmps30
    go_wp2
    go_ret
    exact ⟨by simp [h1, h2], rfl⟩
set_option maxRecDepth 100000 in
set_option maxHeartbeats 2000000 in
theorem mcheck_any (A : Option Addr) (c n : Nat) (costs : List (List Int)) (hn : costs.length = n) (hn5 : n ≤ 5) (hm8 : ∀ i, i < n → (costs.getD i []).length ≤ 8) (w : World) (F : Nat → Prop) (h : SlII F w (.slice A n c) costs) :
    Calls Try.prog 22 #[.slice A n c, .bool true] w fun e w' => (∃ e0, e = .returned (.int .i64 e0) ∧ (e0 = 0 ↔ ChkP costs)) ∧ w' = w := by
  obtain ⟨A', c', e, -, -, hat⟩ := SlII.open h
  injection e with e1 e2 e3
  subst e1 e3
  clear e2
  by_cases h0 : n = 0
  · have hP : ChkP costs := by
      rw [List.length_eq_zero_iff.1 (hn.trans h0)]
      exact ⟨by simp [wd], by simp, fun i hi => absurd hi (by simp)⟩
    have HP := Lib.hid hP
    subst h0
    clear hat h hn hP hm8
    go_enter Try.func22, Try.ntmps22
    go_wp2_with fail
    go_loopg [26] 0 (fun gg s26 wr => s26 = .int .i64 0 ∧ wr = w)
    case atStart => exact ⟨rfl, rfl⟩
    case round =>
      obtain ⟨rfl, rfl⟩ := hrel
      obtain ⟨wo, rfl⟩ : ∃ wo : World, wo = wr := ⟨_, rfl⟩
      go_wp2_with fail
      go_loopg [55] 0 (fun gg s55 wr => s55 = .int .i64 0 ∧ wr = wo)
      case atStart => exact ⟨rfl, rfl⟩
      case round =>
        obtain ⟨rfl, rfl⟩ := hrel
        go_wp2_with fail
        go_ret
        exact ⟨⟨0, rfl, by simp [HP.out]⟩, rfl⟩
  · obtain ⟨ad, u, rfl, -, hc0, hu⟩ := hat 0 (by omega)
    obtain ⟨Au, cu, rfl, -, -, -⟩ := SlI.open hu
    have hw := wd_eq (costs := costs) (by omega)
    have hm0 := hm8 0 (by omega)
    rw [← hw] at hm0
    rw [getD_in (by omega)] at hw
    have hz : ad.add 0 = ad := by simp [Addr.add]
    rw [hz, ← hw] at hc0
    obtain ⟨m, hm⟩ : ∃ m, wd costs = m := ⟨_, rfl⟩
    rw [hm] at hm0 hc0
    have hcell : ∀ i, i < n → ∃ A c, w.cell? (ad.add i) = some (.slice A (costs.getD i []).length c) ∧ SlI F w (.slice A (costs.getD i []).length c) (costs.getD i []) := fun i hi => by
      obtain ⟨ad', u', e, -, hci, hui⟩ := hat i (by omega)
      injection e with e
      subst e
      obtain ⟨A1, c1, rfl, -, -, -⟩ := SlI.open hui
      rw [getD_in (by omega)]
      exact ⟨A1, c1, hci, hui⟩
    have h1 : (n : Int) ≠ 0 := by omega
    have h3 : (0 : Int) < n := by omega
    have hk0 : decide ((60 : Int) < n) = false := decide_eq_false (by omega)
    have hk1 : decide ((120 : Int) < m) = false := decide_eq_false (by omega)
    have HM := Lib.hid hm
    have HN := Lib.hid hn
    have HC := Lib.hid hcell
    have HM8 := Lib.hid hm8
    clear hat h hz hu hw hn hm hcell hm8
    go_enter Try.func22, Try.ntmps22
    go_wp2_with fail
    go_loopg [26] n (fun gg s26 wr => ∃ k : Nat, k ≤ n ∧ n - k ≤ gg ∧ s26 = .int .i64 k ∧ Aside (∀ j, j < k → (costs.getD j []).length = m) ∧ wr = w)
    case atStart => exact ⟨0, by omega, by omega, rfl, fun j hj => absurd hj (by omega), rfl⟩
    case round =>
      obtain ⟨k, hk, hg, rfl, HJ, rfl⟩ := hrel
      obtain ⟨wo, rfl⟩ : ∃ wo : World, wo = wr := ⟨_, rfl⟩
      replace HJ : Hid (∀ j, j < k → (costs.getD j []).length = m) := Lib.hid HJ
      by_cases hlt : k < n
      · have hkI : (k : Int) < n := by omega
        obtain ⟨Ak, ck, hck, -⟩ := HC.out k hlt
        obtain ⟨q, hq⟩ : ∃ q, (costs.getD k []).length = q := ⟨_, rfl⟩
        rw [hq] at hck
        have HQ := Lib.hid hq
        clear hq
        by_cases hqm : q = m
        · subst hqm
          go_wp2_with fail
          go_roundg (n - (k + 1))
          case measure => omega
          case rel => exact ⟨k + 1, by omega, by omega, by go_num, (show Aside _ from fun j hj => by
            by_cases e : j = k
            · subst e; exact HQ.out
            · exact HJ.out j (by omega)), rfl⟩
        · have hqi : ((q : Int) != m) = true := by simp; omega
          go_wp2_with fail
          go_ret
          refine ⟨⟨5, rfl, ?_⟩, rfl⟩
          refine ⟨fun h => absurd h (by decide), fun hP => ?_⟩
          have := (hP.2.2 k (by rw [HN.out]; exact hlt)).1
          rw [HQ.out, HM.out] at this
          exact absurd this hqm
      · obtain rfl : k = n := by omega
        by_cases hmn : m < k
        · have hmI : (m : Int) < k := by omega
          go_wp2_with fail
          go_ret
          refine ⟨⟨6, rfl, fun h => absurd h (by decide), fun hP => ?_⟩, rfl⟩
          have := hP.2.1
          rw [HM.out, HN.out] at this
          omega
        · have hmI : ¬ (m : Int) < k := by omega
          have hmd : decide ((m : Int) < k) = false := decide_eq_false hmI
          go_wp2_with fail
          go_loopg [55] k (fun gg s55 wr => ∃ i : Nat, i ≤ k ∧ k - i ≤ gg ∧ s55 = .int .i64 i ∧ Aside (∀ j, j < i → (costs.getD j []).any badC = false) ∧ wr = wo)
          case atStart => exact ⟨0, by omega, by omega, rfl, fun j hj => absurd hj (by omega), rfl⟩
          case round =>
            obtain ⟨i, hi, hg, rfl, HI, rfl⟩ := hrel
            replace HI : Hid (∀ j, j < i → (costs.getD j []).any badC = false) := Lib.hid HI
            by_cases hlt2 : i < k
            · have hiI : (i : Int) < k := by omega
              obtain ⟨Ai, ci, hci, hsi⟩ := HC.out i hlt2
              have hcf := containsFunc_any badC _ _ 30 #[] (enters_of Try.func30 (by kernel_rfl) rfl) wr F hsi fun W x _ => badC_call W x
              obtain ⟨q, hq⟩ : ∃ q, (costs.getD i []).length = q := ⟨_, rfl⟩
              rw [hq] at hci hcf
              clear hsi hq
              cases hb : (costs.getD i []).any badC with
              | true =>
                rw [hb] at hcf
                have HCF := Lib.hid hcf
                have HB := Lib.hid hb
                clear hcf hb
                go_wp2_with (go_at_call 27; (with_reducible refine (HCF.out.mono ?_)); rintro e w' ⟨rfl, rfl⟩)
                go_ret
                refine ⟨⟨3, rfl, fun h => absurd h (by decide), fun hP => ?_⟩, rfl⟩
                have := (badC_any _).2 (hP.2.2 i (by rw [HN.out]; exact hlt2)).2
                rw [HB.out] at this
                cases this
              | false =>
                rw [hb] at hcf
                have HCF := Lib.hid hcf
                have HB := Lib.hid hb
                clear hcf hb
                go_wp2_with (go_at_call 27; (with_reducible refine (HCF.out.mono ?_)); rintro e w' ⟨rfl, rfl⟩)
                go_roundg (k - (i + 1))
                case measure => omega
                case rel => exact ⟨i + 1, by omega, by omega, by go_num, (show Aside _ from fun j hj => by
                  by_cases e : j = i
                  · subst e; exact HB.out
                  · exact HI.out j (by omega)), rfl⟩
            · obtain rfl : i = k := by omega
              go_wp2_with fail
              go_ret
              refine ⟨⟨0, rfl, fun _ => ?_, fun _ => rfl⟩, rfl⟩
              refine ⟨by rw [HM.out]; omega, by rw [HM.out, HN.out]; omega, fun j hj => ⟨?_, ?_⟩⟩
              · rw [HM.out]; exact HJ.out j (by rw [HN.out] at hj; exact hj)
              · exact (badC_any _).1 (HI.out j (by rw [HN.out] at hj; exact hj))
theorem mCheck_any (A : Option Addr) (c n : Nat) (costs : List (List Int)) (hn : costs.length = n) (hn5 : n ≤ 5) (hm8 : ∀ i, i < n → (costs.getD i []).length ≤ 8) (w : World) (F : Nat → Prop) (h : SlII F w (.slice A n c) costs) :
    Calls Try.prog 10 #[.slice A n c] w fun e w' => (∃ e0, e = .returned (.int .i64 e0) ∧ (e0 = 0 ↔ ChkP costs)) ∧ w' = w := by
  have H := Lib.hid (mcheck_any A c n costs hn hn5 hm8 w F h)
  clear h hn hn5 hm8
  go_enter Try.func10, Try.ntmps10
  go_wp2_with (go_at_call 22; (with_reducible refine (H.out.mono ?_)); rintro e w' ⟨⟨e0, rfl, he⟩, rfl⟩; have HE := Lib.hid he; clear he)
  go_ret
  exact ⟨⟨_, rfl, HE.out⟩, rfl⟩
end Go.Proofs.Ytnphdmiondccgaa
