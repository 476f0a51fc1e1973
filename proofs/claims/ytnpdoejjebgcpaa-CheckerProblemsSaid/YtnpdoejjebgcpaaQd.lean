/- Walks over checker: the closure of Cover.problem. Walks: ContainsFunc over lists of lists, a closure that answers P. -/
import Derived.Test.YtnpdoejjebgcpaaPu
namespace Go.Proofs.Ytnpdoejjebgcpaa
open Go Go.RowKit
theorem probClo_any (n : Int) (u : Value) (l : List Int) (cb : Nat) (w : World) (F : Nat → Prop) (hr : SlI F w u l) (hc : w.cell? ⟨cb, 0, none⟩ = some (.int .i64 n)) :
    Calls Try.prog 54 #[u, .pointer (some ⟨cb, 0, none⟩)] w fun e w' => e = .returned (.bool (!decide (Hit.listF n l = 0))) ∧ w = w' := by
  have hR := riseC_any n u l w F hr
  obtain ⟨A, c, rfl, _⟩ := hr.open
  have HR := Lib.hid hR
  generalize decide (Hit.listF n l = 0) = b at *
  clear hr hR
  go_enter Try.func54, Try.ntmps54
  go_wp2_with (go_at_call 22; (with_reducible refine (HR.out.mono ?_)); rintro e w2 ⟨rfl, rfl⟩)
  go_ret
  exact ⟨rfl, rfl⟩
end Go.Proofs.Ytnpdoejjebgcpaa
namespace Go.Proofs.Ytnpdoejjebgcpaa
open Go Go.RowKit
set_option maxHeartbeats 1000000 in
theorem anyS_idx (P : List Int → Bool) (v : Value) (L : List (List Int)) (g : Nat) (lb : Array Value) (eg : ∀ args w, (callFunc g args).run Try.prog w = .ok (.enter g args) w) (w : World) (F : Nat → Prop) (hr : SlII F w v L)
    (hp : ∀ u (l : List Int), l ∈ L → SlI F w u l → Calls Try.prog g (#[u] ++ lb) w fun e w' => e = .returned (.bool (P l)) ∧ w = w') :
    Calls Try.prog 64 #[v, .func (.func g) #[] lb] w fun e w' => (∃ i : Int, e = .returned (.int .i64 i) ∧ decide (i ≥ 0) = L.any P ∧ -1 ≤ i) ∧ w = w' := by
  obtain ⟨A, c, rfl, hlc, hl, hat⟩ := hr.open
  clear hr
  go_enter Try.func64, Try.ntmps64
  go_wp2
  go_loopg [8] L.length (fun gg s8 wr => ∃ kk : Nat, kk ≤ L.length ∧ L.length - kk ≤ gg ∧ s8 = .int .i64 kk ∧ Aside (∀ i (h : i < L.length), i < kk → P L[i] = false) ∧ wr = w)
  case atStart => exact ⟨0, by omega, by omega, rfl, fun i _ h => absurd h (by omega), rfl⟩
  case round =>
    obtain ⟨kk, hkk, hg, rfl, HN, rfl⟩ := hrel
    by_cases hlt : kk < L.length
    · have hki : decide ((kk : Int) < L.length) = true := decide_eq_true (by omega)
      have hk2 : (kk : Int) < L.length := by omega
      obtain ⟨ad, u, rfl, hb, hc, hu⟩ := hat kk hlt
      have hcall := hp u L[kk] (List.getElem_mem hlt) hu
      have HCL := Lib.hid hcall
      have hyes : P L[kk] = true → L.any P = true := fun h => List.any_eq_true.2 ⟨_, List.getElem_mem hlt, h⟩
      have hno : P L[kk] = false → ∀ i (h : i < L.length), i < kk + 1 → P L[i] = false := fun h i hi hik => by
        by_cases e : i = kk
        · subst e; exact h
        · exact HN.out i hi (by omega)
      have HY := Lib.hid hyes
      have HNO := Lib.hid hno
      generalize P L[kk] = b at *
      clear hat hp hcall hu hb hyes hno
      cases b with
      | true =>
        go_wp2_with (go_at_fn g; refine HCL.out.mono ?_; rintro e w' ⟨rfl, rfl⟩)
        go_ret
        exact ⟨⟨_, rfl, by rw [HY.out trivial]; exact decide_eq_true (by omega), by omega⟩, rfl⟩
      | false =>
        go_wp2_with (go_at_fn g; refine HCL.out.mono ?_; rintro e w' ⟨rfl, rfl⟩)
        go_roundg (L.length - (kk + 1))
        case measure => omega
        case rel => exact ⟨kk + 1, by omega, by omega, by go_num, HNO.out trivial, rfl⟩
    · have hki : decide ((kk : Int) < L.length) = false := decide_eq_false (by omega)
      have : kk = L.length := by omega
      subst this
      have hz : L.any P = false := by
        rw [Bool.eq_false_iff]; intro h
        obtain ⟨x, hx, hpx⟩ := List.any_eq_true.1 h
        obtain ⟨i, hi, rfl⟩ := List.getElem_of_mem hx
        rw [HN.out i hi hi] at hpx; cases hpx
      have HZ := Lib.hid hz
      clear hat hp hz
      go_wp2
      go_ret
      exact ⟨⟨-1, rfl, by rw [HZ.out]; rfl, by omega⟩, rfl⟩
theorem anyS_any (P : List Int → Bool) (v : Value) (L : List (List Int)) (g : Nat) (lb : Array Value) (eg : ∀ args w, (callFunc g args).run Try.prog w = .ok (.enter g args) w) (w : World) (F : Nat → Prop) (hr : SlII F w v L)
    (hp : ∀ u (l : List Int), l ∈ L → SlI F w u l → Calls Try.prog g (#[u] ++ lb) w fun e w' => e = .returned (.bool (P l)) ∧ w = w') :
    Calls Try.prog 41 #[v, .func (.func g) #[] lb] w fun e w' => e = .returned (.bool (L.any P)) ∧ w = w' := by
  have hI := anyS_idx P v L g lb eg w F hr hp
  have HI := Lib.hid hI
  clear hI hr hp
  go_enter Try.func41, Try.ntmps41
  go_wp2_with (go_at_call 64; refine HI.out.mono ?_; rintro e w' ⟨⟨i, rfl, hi, _⟩, rfl⟩)
  go_ret
  exact ⟨by rw [← hi]; rfl, rfl⟩
end Go.Proofs.Ytnpdoejjebgcpaa
