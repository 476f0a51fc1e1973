/- Walks over checker: words, rising lists, the sets of a right problem. -/
import Derived.Test.YtnpdoejjebgcpaaPa
import Derived.Test.YtnpdoejjebgcpaaW7
namespace Go.Proofs.Ytnpdoejjebgcpaa
open Go Go.RowKit
set_option maxHeartbeats 1000000 in
theorem word64_any (vl : Value) (ns : List Nat) (hn : ∀ x ∈ ns, x < 64) (w : World) (F : Nat → Prop) (hr : SlI F w vl (Hit.ints ns)) :
    Calls Try.prog 23 #[vl] w fun e w' => e = .returned (.int .u64 (Hit.word ns : Nat)) ∧ w = w' := by
  obtain ⟨A, c, rfl, hlc, hl, hat⟩ := hr.open
  rw [ints_length] at hlc hl ⊢
  clear hr
  have hbd : ∀ k, Hit.word (ns.take k) < 2 ^ 64 := fun k => Hit.word_lt fun x hx => hn x (List.mem_of_mem_take hx)
  go_enter Try.func23, Try.ntmps23
  go_wp2
  go_loopg [3, 8] ns.length (fun gg s3 s wr => ∃ k : Nat, k ≤ ns.length ∧ ns.length - k ≤ gg ∧ s = .int .i64 k ∧ s3 = .int .u64 (Hit.word (ns.take k) : Nat) ∧ wr = w)
  case atStart => exact ⟨0, by omega, by omega, rfl, rfl, rfl⟩
  case round =>
    obtain ⟨k, hk, hg, rfl, rfl, rfl⟩ := hrel
    by_cases hlt : k < ns.length
    · have hki : decide ((k : Int) < ns.length) = true := decide_eq_true (by omega)
      obtain ⟨ad, rfl, hf, hc⟩ := hat k (by rw [ints_length]; exact hlt)
      rw [ints_get] at hc
      have hx := hn ns[k] (List.getElem_mem hlt)
      have hs := word_take ns k hlt
      have h1 := Hit.two_u64w ns[k] hx
      have h2 := Hit.u64_or _ _ (hbd k) (Hit.bit_lt hx)
      rw [← h1] at h2
      have h3 : ((ns[k] : Nat) : Int) % 18446744073709551616 = ns[k] := by omega
      have h4 : min ns[k] 64 = ns[k] := by omega
      have HS := Lib.hid hs
      have H2 := Lib.hid h2
      generalize Hit.word (ns.take k) = acc at *
      generalize ns[k] = x at *
      clear hat hn hbd h1 h2 hs
      go_wp2
      go_roundg (ns.length - (k + 1))
      case measure => omega
      case rel => exact ⟨k + 1, by omega, by omega, by go_num, by rw [HS.out, ← H2.out], rfl⟩
    · have hki : decide ((k : Int) < ns.length) = false := decide_eq_false (by omega)
      have : k = ns.length := by omega
      subst this
      clear hat hbd
      go_wp2
      go_ret
      exact ⟨by rw [List.take_length]; rfl, rfl⟩
theorem inc_step {ns : List Nat} (h : Hit.Inc ns) (k : Nat) (hk : k + 1 < ns.length) : ns[k] < ns[k + 1] := by
  have := Hit.inc_getD_lt h (a := k + 1) (b := k) (by omega) hk
  rwa [List.getD_eq_getElem?_getD, List.getD_eq_getElem?_getD, List.getElem?_eq_getElem hk, List.getElem?_eq_getElem (by omega : k < ns.length)] at this
set_option maxHeartbeats 2000000 in
theorem rising_any (vl : Value) (ns : List Nat) (n : Nat) (hi : Hit.Inc ns) (hn : ∀ x ∈ ns, x < n) (w : World) (F : Nat → Prop) (hr : SlI F w vl (Hit.ints ns)) :
    Calls Try.prog 22 #[vl, .int .i64 n] w fun e w' => e = .returned (.bool true) ∧ w = w' := by
  obtain ⟨A, c, rfl, hlc, hl, hat⟩ := hr.open
  rw [ints_length] at hlc hl ⊢
  have HI := Lib.hid hi
  have HN := Lib.hid hn
  clear hr hi hn
  go_enter Try.func22, Try.ntmps22
  go_wp2
  go_loopg [9] ns.length (fun gg s wr => ∃ k : Nat, k ≤ ns.length ∧ ns.length - k ≤ gg ∧ s = .int .i64 k ∧ wr = w)
  case atStart => exact ⟨0, by omega, by omega, rfl, rfl⟩
  case round =>
    obtain ⟨k, hk, hg, rfl, rfl⟩ := hrel
    by_cases hlt : k < ns.length
    · have hki : decide ((k : Int) < ns.length) = true := decide_eq_true (by omega)
      have hk2 : (k : Int) < ns.length := by omega
      obtain ⟨ad, rfl, hf, hc⟩ := hat k (by rw [ints_length]; exact hlt)
      rw [ints_get] at hc
      have hx := HN.out ns[k] (List.getElem_mem hlt)
      have d2 : decide ((n : Int) ≤ ((ns[k] : Nat) : Int)) = false := decide_eq_false (by omega)
      have d2n : decide (n ≤ ns[k]) = false := decide_eq_false (by omega)
      have d1 : decide (((ns[k] : Nat) : Int) < 0) = false := decide_eq_false (by omega)
      cases k with
      | zero =>
        generalize ns[0] = x at *
        have hc0 : wr.cell? ad = some (.int .i64 x) := by simpa [Addr.add] using hc
        clear hat hc hlt
        go_wp2
        go_roundg (ns.length - (0 + 1))
        case measure => omega
        case rel => exact ⟨0 + 1, by omega, by omega, by go_num, rfl⟩
      | succ j =>
        obtain ⟨ad2, e2, _, hc2⟩ := hat j (by rw [ints_length]; omega)
        injection e2 with e2
        subst e2
        rw [ints_get] at hc2
        have hst := inc_step HI.out j hlt
        have d4 : decide (((ns[j + 1] : Nat) : Int) ≤ ((ns[j] : Nat) : Int)) = false := decide_eq_false (by omega)
        have d4n : decide (ns[j + 1] ≤ ns[j]) = false := decide_eq_false (by omega)
        have d3 : decide ((0 : Int) < ((j + 1 : Nat) : Int)) = true := decide_eq_true (by omega)
        have d3n : decide (0 < j + 1) = true := decide_eq_true (by omega)
        have hj2 : (j : Int) < ns.length := by omega
        have hj3 : (j : Int) + 1 < ns.length := by omega
        have hki3 : decide ((j : Int) + 1 < ns.length) = true := decide_eq_true (by omega)
        have hcs : wr.cell? ⟨ad.block, ad.off + (j + 1), none⟩ = some (.int .i64 ((ns[j + 1] : Nat) : Int)) := by simpa [Addr.add] using hc
        generalize ns[j + 1] = x at *
        generalize ns[j] = y at *
        clear hat hst hlt
        go_wp2
        go_roundg (ns.length - (j + 1 + 1))
        case measure => omega
        case rel => exact ⟨j + 1 + 1, by omega, by omega, by go_num, rfl⟩
    · have hki : decide ((k : Int) < ns.length) = false := decide_eq_false (by omega)
      have : k = ns.length := by omega
      subst this
      clear hat
      go_wp2
      go_ret
      exact ⟨rfl, rfl⟩
set_option maxHeartbeats 1000000 in
/-- A closure that answers no at each set. -/
theorem noneS_idx (v : Value) (L : List (List Int)) (g : Nat) (lb : Array Value) (eg : ∀ args w, (callFunc g args).run Try.prog w = .ok (.enter g args) w) (w : World) (F : Nat → Prop) (hr : SlII F w v L)
    (hp : ∀ u (l : List Int), l ∈ L → SlI F w u l → Calls Try.prog g (#[u] ++ lb) w fun e w' => e = .returned (.bool false) ∧ w = w') :
    Calls Try.prog 64 #[v, .func (.func g) #[] lb] w fun e w' => e = .returned (.int .i64 (-1)) ∧ w = w' := by
  obtain ⟨A, c, rfl, hlc, hl, hat⟩ := hr.open
  clear hr
  go_enter Try.func64, Try.ntmps64
  go_wp2
  go_loopg [8] L.length (fun gg s8 wr => ∃ kk : Nat, kk ≤ L.length ∧ L.length - kk ≤ gg ∧ s8 = .int .i64 kk ∧ wr = w)
  case atStart => exact ⟨0, by omega, by omega, rfl, rfl⟩
  case round =>
    obtain ⟨kk, hkk, hg, rfl, rfl⟩ := hrel
    by_cases hlt : kk < L.length
    · have hki : decide ((kk : Int) < L.length) = true := decide_eq_true (by omega)
      have hk2 : (kk : Int) < L.length := by omega
      obtain ⟨ad, u, rfl, hb, hc, hu⟩ := hat kk hlt
      have hcall := hp u L[kk] (List.getElem_mem hlt) hu
      have HCL := Lib.hid hcall
      clear hat hp hcall hu hb
      go_wp2_with (go_at_fn g; refine HCL.out.mono ?_; rintro e w' ⟨rfl, rfl⟩)
      go_roundg (L.length - (kk + 1))
      case measure => omega
      case rel => exact ⟨kk + 1, by omega, by omega, by go_num, rfl⟩
    · have hki : decide ((kk : Int) < L.length) = false := decide_eq_false (by omega)
      have : kk = L.length := by omega
      subst this
      clear hat hp
      go_wp2
      go_ret
      exact ⟨rfl, rfl⟩
theorem noneS_any (v : Value) (L : List (List Int)) (g : Nat) (lb : Array Value) (eg : ∀ args w, (callFunc g args).run Try.prog w = .ok (.enter g args) w) (w : World) (F : Nat → Prop) (hr : SlII F w v L)
    (hp : ∀ u (l : List Int), l ∈ L → SlI F w u l → Calls Try.prog g (#[u] ++ lb) w fun e w' => e = .returned (.bool false) ∧ w = w') :
    Calls Try.prog 41 #[v, .func (.func g) #[] lb] w fun e w' => e = .returned (.bool false) ∧ w = w' := by
  have hI := noneS_idx v L g lb eg w F hr hp
  have HI := Lib.hid hI
  clear hI hr hp
  go_enter Try.func41, Try.ntmps41
  go_wp2_with (go_at_call 64; refine HI.out.mono ?_; rintro e w' ⟨rfl, rfl⟩)
  go_ret
  exact ⟨rfl, rfl⟩
end Go.Proofs.Ytnpdoejjebgcpaa
