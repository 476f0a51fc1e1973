/- Walks: IndexFunc, ContainsFunc at draws and segments; checker's draws. -/
import Derived.Test.YtnfpjcjlapljjaaGreatDoorDl
namespace Go.Proofs.YtnfpjcjlapljjaaGreatDoor
open Go Go.RowKit Go.Shelf
open Org
namespace Org
def nearI (n : Int) : Bool := decide (-1000 ≤ n) && decide (n ≤ 1000)
def drOk (nr : Nat) (d : Dr) : Bool := decide (0 ≤ d.rank) && decide (d.rank < (nr : Int)) && nearI d.shift
def sgOk (nr : Nat) (g : Seg) : Bool := g.draws.all (drOk nr)
end Org
theorem withinB_one (lo hi n : Int) : withinB lo hi [n] = (decide (lo ≤ n) && decide (n ≤ hi)) := by
  rw [withinB_any]
  simp only [List.any_cons, List.any_nil, Bool.or_false]
  by_cases h1 : n < lo <;> by_cases h2 : hi < n <;> simp [h1, h2] <;> omega
/-- within at one number. -/
theorem within_one (lo hi n : Int) (b : Nat) (w : World) (hc : w.cell? ⟨b, 0, none⟩ = some (.int .i64 n)) (hb : b < w.heap.size) :
    Calls Tryz.prog 21 #[.int .i64 lo, .int .i64 hi, .slice (some ⟨b, 0, none⟩) 1 1] w fun e w' => e = .returned (.bool (decide (lo ≤ n) && decide (n ≤ hi))) ∧ Below w.heap.size w w' := by
  have h := within_any lo hi (.slice (some ⟨b, 0, none⟩) 1 1) [n] w (fun b => b < w.heap.size) (fun _ h => h) (SlI.one hc hb)
  rw [withinB_one] at h
  exact h
theorem any_notO {α : Type} (p : α → Bool) : ∀ l : List α, (l.any fun d => !p d) = !(l.all p)
  | [] => rfl
  | x :: l => by rw [List.any_cons, List.all_cons, any_notO p l, Bool.not_and]
/-- The first one that a predicate takes. -/
def FstO {α : Type} (p : α → Bool) (l : List α) (r : Int) : Prop := (r = -1 ∧ ∀ x ∈ l, p x = false) ∨ ∃ k : Nat, ∃ h : k < l.length, r = k ∧ p l[k] = true ∧ ∀ j (_ : j < k), p (l[j]'(by omega)) = false
theorem FstO.any {α : Type} {p : α → Bool} {l : List α} {r : Int} (h : FstO p l r) : decide (0 ≤ r) = l.any p := by
  rcases h with ⟨rfl, h⟩ | ⟨k, hk, rfl, h1, _⟩
  · rw [List.any_eq_false.2 fun x hx => by rw [h x hx]; decide]
    rfl
  · rw [List.any_eq_true.2 ⟨_, List.getElem_mem hk, h1⟩]
    exact decide_eq_true (by omega)
set_option maxRecDepth 100000 in
set_option maxHeartbeats 1000000 in
theorem indexf_dr (p : Dr → Bool) (v : Value) (l : List Dr) (g : Nat) (lb : Array Value) (eg : ∀ args w, (callFunc g args).run Tryz.prog w = .ok (.enter g args) w) (w : World) (F : Nat → Prop) (hF : ∀ b, F b → b < w.heap.size)
    (hr : Sl F 2 (DrC F) w v l) (hp : ∀ (W : World) (x : Dr), x ∈ l → Below w.heap.size w W → Calls Tryz.prog g (#[.agg #[.int .i64 x.rank, .int .i64 x.shift]] ++ lb) W fun e w' => e = .returned (.bool (p x)) ∧ Below W.heap.size W w') :
    Calls Tryz.prog 61 #[v, .func (.func g) #[] lb] w fun e w' => ∃ r, e = .returned (.int .i64 r) ∧ FstO p l r ∧ Below w.heap.size w w' := by
  obtain ⟨A, c, rfl, hlc, hlen, hat⟩ := Sl.openF hr
  obtain ⟨n, hn⟩ : ∃ n, l.length = n := ⟨_, rfl⟩
  have HN := Lib.hid hn
  have HAT := Lib.hid hat
  have HP := Lib.hid hp
  rw [hn] at hlen hlc ⊢
  clear hr hat hp hn
  go_enter Tryz.func61, Tryz.ntmps61
  go_wp2_with fail
  go_loopw [8] (fun s wr => ∃ k : Nat, k ≤ n ∧ s = .int .i64 k ∧ Aside (∀ j (h : j < l.length), j < k → p l[j] = false) ∧ Aside (Below w.heap.size w wr)) (fun s _ => n - (intOf s).toNat)
  case atStart => exact ⟨0, by omega, rfl, (fun j _ h => absurd h (by omega)), B0 w⟩
  case round =>
    obtain ⟨k, hk, rfl, hA, hB⟩ := hrel
    replace hA : ∀ j (h : j < l.length), j < k → p l[j] = false := hA
    replace hB : Below w.heap.size w wr := hB
    by_cases hlt : k < n
    · have hkl : (k : Int) < n := by omega
      have hkl1 : k < l.length := by rw [HN.out]; exact hlt
      obtain ⟨ad, cs, rfl, hfb, -, ecs, hfl⟩ := HAT.out k hkl1
      rw [show cs = _ from ecs] at hfl
      have hfb2 : (ad.add (k * 2)).block < w.heap.size := by rw [block_of_add]; exact hF _ hfb
      have hfl2 := hfl.below hB hfb2
      have f0 := hfl2.f0 rfl
      have f1 := hfl2.f1 rfl
      have hcall := HP.out wr l[k] (List.getElem_mem hkl1) hB
      have HA := Lib.hid hA
      have HB := Lib.hid hB
      cases hq : p l[k] with
      | true =>
        rw [hq] at hcall
        have HC := Lib.hid hcall
        have HQ := Lib.hid hq
        clear hcall hq hA hB hfl hfl2 ecs
        go_wp2_with (go_at_fn g; refine HC.out.mono ?_; rintro e w' ⟨rfl, hb⟩)
        go_ret
        exact ⟨k, rfl, .inr ⟨k, hkl1, rfl, HQ.out, fun j hj => HA.out j (by omega) hj⟩, Bt HB.out hb⟩
      | false =>
        rw [hq] at hcall
        have HC := Lib.hid hcall
        have HQ := Lib.hid hq
        clear hcall hq hA hB hfl hfl2 ecs
        go_wp2_with (go_at_fn g; refine HC.out.mono ?_; rintro e w' ⟨rfl, hb⟩)
        go_roundw
        case rel => exact ⟨k + 1, by omega, by go_num, (fun j h hj => by
          by_cases e : j = k
          · subst e; exact HQ.out
          · exact HA.out j h (by omega)), Bt HB.out hb⟩
        case measure => simp [intOf]; omega
    · obtain rfl : k = n := by omega
      have HA := Lib.hid hA
      have HB := Lib.hid hB
      clear hA hB
      go_wp2
      go_ret
      exact ⟨-1, rfl, .inl ⟨rfl, fun x hx => by
        obtain ⟨j, hj, rfl⟩ := List.getElem_of_mem hx
        exact HA.out j hj (by rw [← HN.out]; exact hj)⟩, HB.out⟩
theorem containsf_dr (p : Dr → Bool) (v : Value) (l : List Dr) (g : Nat) (lb : Array Value) (eg : ∀ args w, (callFunc g args).run Tryz.prog w = .ok (.enter g args) w) (w : World) (F : Nat → Prop) (hF : ∀ b, F b → b < w.heap.size)
    (hr : Sl F 2 (DrC F) w v l) (hp : ∀ (W : World) (x : Dr), x ∈ l → Below w.heap.size w W → Calls Tryz.prog g (#[.agg #[.int .i64 x.rank, .int .i64 x.shift]] ++ lb) W fun e w' => e = .returned (.bool (p x)) ∧ Below W.heap.size W w') :
    Calls Tryz.prog 50 #[v, .func (.func g) #[] lb] w fun e w' => e = .returned (.bool (l.any p)) ∧ Below w.heap.size w w' := by
  have HI := Lib.hid (indexf_dr p v l g lb eg w F hF hr hp)
  clear hr hp
  go_enter Tryz.func50, Tryz.ntmps50
  go_wp2_with (go_at_call 61; refine HI.out.mono ?_; rintro e w' ⟨r, rfl, hr, hb⟩)
  go_ret
  exact ⟨by rw [← hr.any]; rfl, hb⟩
set_option maxRecDepth 100000 in
set_option maxHeartbeats 1000000 in
theorem indexf_sg (p : Seg → Bool) (v : Value) (l : List Seg) (g : Nat) (lb : Array Value) (eg : ∀ args w, (callFunc g args).run Tryz.prog w = .ok (.enter g args) w) (w : World) (F : Nat → Prop) (hF : ∀ b, F b → b < w.heap.size)
    (hr : Sl F 3 (SegC F) w v l) (hp : ∀ (W : World) (x : Seg) (u : Value), x ∈ l → Below w.heap.size w W → Sl F 2 (DrC F) W u x.draws → Calls Tryz.prog g (#[.agg #[.int .i64 x.lo, .int .i64 x.hi, u]] ++ lb) W fun e w' => e = .returned (.bool (p x)) ∧ Below W.heap.size W w') :
    Calls Tryz.prog 49 #[v, .func (.func g) #[] lb] w fun e w' => ∃ r, e = .returned (.int .i64 r) ∧ FstO p l r ∧ Below w.heap.size w w' := by
  obtain ⟨A, c, rfl, hlc, hlen, hat⟩ := Sl.openF hr
  obtain ⟨n, hn⟩ : ∃ n, l.length = n := ⟨_, rfl⟩
  have HN := Lib.hid hn
  have HAT := Lib.hid hat
  have HP := Lib.hid hp
  rw [hn] at hlen hlc ⊢
  clear hr hat hp hn
  go_enter Tryz.func49, Tryz.ntmps49
  go_wp2_with fail
  go_loopw [8] (fun s wr => ∃ k : Nat, k ≤ n ∧ s = .int .i64 k ∧ Aside (∀ j (h : j < l.length), j < k → p l[j] = false) ∧ Aside (Below w.heap.size w wr)) (fun s _ => n - (intOf s).toNat)
  case atStart => exact ⟨0, by omega, rfl, (fun j _ h => absurd h (by omega)), B0 w⟩
  case round =>
    obtain ⟨k, hk, rfl, hA, hB⟩ := hrel
    replace hA : ∀ j (h : j < l.length), j < k → p l[j] = false := hA
    replace hB : Below w.heap.size w wr := hB
    by_cases hlt : k < n
    · have hkl : (k : Int) < n := by omega
      have hkl1 : k < l.length := by rw [HN.out]; exact hlt
      obtain ⟨ad, cs, rfl, hfb, -, ⟨u, rfl, hu⟩, hfl⟩ := HAT.out k hkl1
      have hfb2 : (ad.add (k * 3)).block < w.heap.size := by rw [block_of_add]; exact hF _ hfb
      have hfl2 := hfl.below hB hfb2
      have hcall := HP.out wr l[k] u (List.getElem_mem hkl1) hB (Sl.keepF relDr hu (Agree.below hB hF))
      obtain ⟨Au, cu, eu, -⟩ := Sl.openF hu
      obtain ⟨nu, hnu⟩ : ∃ n, l[k].draws.length = n := ⟨_, rfl⟩
      rw [hnu] at eu
      subst eu
      have f0 := hfl2.f0 rfl
      have f1 := hfl2.f1 rfl
      have f2 := hfl2.f2 rfl
      have HA := Lib.hid hA
      have HB := Lib.hid hB
      cases hq : p l[k] with
      | true =>
        rw [hq] at hcall
        have HC := Lib.hid hcall
        have HQ := Lib.hid hq
        clear hcall hq hA hB hfl hfl2 hu hnu
        go_wp2_with (go_at_fn g; refine HC.out.mono ?_; rintro e w' ⟨rfl, hb⟩)
        go_ret
        exact ⟨k, rfl, .inr ⟨k, hkl1, rfl, HQ.out, fun j hj => HA.out j (by omega) hj⟩, Bt HB.out hb⟩
      | false =>
        rw [hq] at hcall
        have HC := Lib.hid hcall
        have HQ := Lib.hid hq
        clear hcall hq hA hB hfl hfl2 hu hnu
        go_wp2_with (go_at_fn g; refine HC.out.mono ?_; rintro e w' ⟨rfl, hb⟩)
        go_roundw
        case rel => exact ⟨k + 1, by omega, by go_num, (fun j h hj => by
          by_cases e : j = k
          · subst e; exact HQ.out
          · exact HA.out j h (by omega)), Bt HB.out hb⟩
        case measure => simp [intOf]; omega
    · obtain rfl : k = n := by omega
      have HA := Lib.hid hA
      have HB := Lib.hid hB
      clear hA hB
      go_wp2
      go_ret
      exact ⟨-1, rfl, .inl ⟨rfl, fun x hx => by
        obtain ⟨j, hj, rfl⟩ := List.getElem_of_mem hx
        exact HA.out j hj (by rw [← HN.out]; exact hj)⟩, HB.out⟩
theorem containsf_sg (p : Seg → Bool) (v : Value) (l : List Seg) (g : Nat) (lb : Array Value) (eg : ∀ args w, (callFunc g args).run Tryz.prog w = .ok (.enter g args) w) (w : World) (F : Nat → Prop) (hF : ∀ b, F b → b < w.heap.size)
    (hr : Sl F 3 (SegC F) w v l) (hp : ∀ (W : World) (x : Seg) (u : Value), x ∈ l → Below w.heap.size w W → Sl F 2 (DrC F) W u x.draws → Calls Tryz.prog g (#[.agg #[.int .i64 x.lo, .int .i64 x.hi, u]] ++ lb) W fun e w' => e = .returned (.bool (p x)) ∧ Below W.heap.size W w') :
    Calls Tryz.prog 23 #[v, .func (.func g) #[] lb] w fun e w' => e = .returned (.bool (l.any p)) ∧ Below w.heap.size w w' := by
  have HI := Lib.hid (indexf_sg p v l g lb eg w F hF hr hp)
  clear hr hp
  go_enter Tryz.func23, Tryz.ntmps23
  go_wp2_with (go_at_call 49; refine HI.out.mono ?_; rintro e w' ⟨r, rfl, hr, hb⟩)
  go_ret
  exact ⟨by rw [← hr.any]; rfl, hb⟩
set_option maxRecDepth 100000 in
set_option maxHeartbeats 1000000 in
theorem draws1_any (nr : Nat) (hnr : nr ≤ 140737488355328) (d : Dr) (a : Addr) (w : World) (ha : w.cell? a = some (.int .i64 (nr : Int))) (hab : a.block < w.heap.size) :
    Calls Tryz.prog 51 #[.agg #[.int .i64 d.rank, .int .i64 d.shift], .pointer (some a)] w fun e w' => e = .returned (.bool (!drOk nr d)) ∧ Below w.heap.size w w' := by
  obtain ⟨rk, sf⟩ := d
  have hsub : IntKind.i64.wrap ((nr : Int) - 1) = (nr : Int) - 1 := by rw [IntKind.wrap_i64]; omega
  have hOK : drOk nr ⟨rk, sf⟩ = ((decide (0 ≤ rk) && decide (rk ≤ (nr : Int) - 1)) && (decide (-1000 ≤ sf) && decide (sf ≤ 1000))) := by
    unfold drOk nearI
    dsimp only
    congr 2
    exact decide_eq_decide.2 (by omega)
  have hWA := fun b W hc hb => within_one 0 ((nr : Int) - 1) rk b W hc hb
  have hWB := fun b W hc hb => within_one (-1000) 1000 sf b W hc hb
  obtain ⟨R1, hR1⟩ : ∃ R, (decide (0 ≤ rk) && decide (rk ≤ (nr : Int) - 1)) = R := ⟨_, rfl⟩
  obtain ⟨R2, hR2⟩ : ∃ R, (decide (-1000 ≤ sf) && decide (sf ≤ 1000)) = R := ⟨_, rfl⟩
  rw [hR1] at hWA hOK
  rw [hR2] at hWB hOK
  have HOK := Lib.hid hOK
  obtain ⟨bb, hbb⟩ : ∃ bb, w.heap.size = bb := ⟨_, rfl⟩
  obtain ⟨w1, hw1⟩ : ∃ w1 : World, w.alloc (.cells #[.int .i64 rk, .int .i64 sf] 86) = w1 := ⟨_, rfl⟩
  have K1 : Blk w1 bb 86 #[.int .i64 rk, .int .i64 sf] := by rw [← hw1, ← hbb]; exact Blk.new _ _ _
  have HB1 : Hid (Below w.heap.size w w1) := Lib.hid (by rw [← hw1]; exact Ba (B0 w) _)
  have a1 : w1.cell? a = some (.int .i64 (nr : Int)) := (HB1.out.cell hab).trans ha
  have k0 : w1.cell? ⟨bb, 0, none⟩ = some (.int .i64 rk) := K1.cell 0
  have k1 : w1.cell? ⟨bb, 1, none⟩ = some (.int .i64 sf) := K1.cell 1
  have HK1 := Lib.hid K1
  have HW1 := Lib.hid hw1
  have HBB := Lib.hid hbb
  have HWA := Lib.hid hWA
  have HWB := Lib.hid hWB
  clear hOK hw1 hbb K1 ha hWA hWB hR1 hR2
  dsimp only
  go_enter Tryz.func51, Tryz.ntmps51
  go_upto_region 1 with fail
  rw [HW1.out, HBB.out]
  cases R1 with
  | false =>
    go_wp2_with (first
      | (go_at_call 21; (with_reducible refine ((HWA.out w1.heap.size _ (by simp [go_sem]) (by simp)).mono ?_)); rintro e w3 ⟨rfl, hb3⟩; have HB3 := Lib.hid (Bt (Ba HB1.out (.cells #[.int .i64 rk] 3)) hb3); have k3 : w3.cell? ⟨bb, 1, none⟩ = some (.int .i64 sf) := (Bc hb3 (by have := HK1.out.lt; simp; omega)).trans ((Bc (Ba (B0 w1) _) HK1.out.lt).trans k1); clear hb3)
      | (go_at_call 21; (with_reducible refine ((HWB.out w3.heap.size _ (by simp [go_sem]) (by simp)).mono ?_)); rintro e w4 ⟨rfl, hb4⟩; have HB4 := Lib.hid (Bt (Ba HB3.out (.cells #[.int .i64 sf] 3)) hb4); clear hb4))
    go_ret
    exact ⟨by rw [HOK.out]; rfl, HB3.out⟩
  | true =>
    cases R2 with
    | false =>
      go_wp2_with (first
        | (go_at_call 21; (with_reducible refine ((HWA.out w1.heap.size _ (by simp [go_sem]) (by simp)).mono ?_)); rintro e w3 ⟨rfl, hb3⟩; have HB3 := Lib.hid (Bt (Ba HB1.out (.cells #[.int .i64 rk] 3)) hb3); have k3 : w3.cell? ⟨bb, 1, none⟩ = some (.int .i64 sf) := (Bc hb3 (by have := HK1.out.lt; simp; omega)).trans ((Bc (Ba (B0 w1) _) HK1.out.lt).trans k1); clear hb3)
        | (go_at_call 21; (with_reducible refine ((HWB.out w3.heap.size _ (by simp [go_sem]) (by simp)).mono ?_)); rintro e w4 ⟨rfl, hb4⟩; have HB4 := Lib.hid (Bt (Ba HB3.out (.cells #[.int .i64 sf] 3)) hb4); clear hb4))
      go_ret
      exact ⟨by rw [HOK.out]; rfl, HB4.out⟩
    | true =>
      go_wp2_with (first
        | (go_at_call 21; (with_reducible refine ((HWA.out w1.heap.size _ (by simp [go_sem]) (by simp)).mono ?_)); rintro e w3 ⟨rfl, hb3⟩; have HB3 := Lib.hid (Bt (Ba HB1.out (.cells #[.int .i64 rk] 3)) hb3); have k3 : w3.cell? ⟨bb, 1, none⟩ = some (.int .i64 sf) := (Bc hb3 (by have := HK1.out.lt; simp; omega)).trans ((Bc (Ba (B0 w1) _) HK1.out.lt).trans k1); clear hb3)
        | (go_at_call 21; (with_reducible refine ((HWB.out w3.heap.size _ (by simp [go_sem]) (by simp)).mono ?_)); rintro e w4 ⟨rfl, hb4⟩; have HB4 := Lib.hid (Bt (Ba HB3.out (.cells #[.int .i64 sf] 3)) hb4); clear hb4))
      go_ret
      exact ⟨by rw [HOK.out]; rfl, HB4.out⟩
set_option maxRecDepth 100000 in
set_option maxHeartbeats 1000000 in
theorem draws_any (nr : Nat) (hnr : nr ≤ 140737488355328) (v : Value) (l : List Dr) (w : World) (F : Nat → Prop) (hF : ∀ b, F b → b < w.heap.size) (hr : Sl F 2 (DrC F) w v l) :
    Calls Tryz.prog 25 #[v, .int .i64 (nr : Int)] w fun e w' => e = .returned (.bool (l.all (drOk nr))) ∧ Below w.heap.size w w' := by
  have hC := containsf_dr (fun d => !drOk nr d) v l 51 #[.pointer (some ⟨w.heap.size, 0, none⟩)] (enters_of Tryz.func51 (by kernel_rfl) rfl) (w.alloc (.cells #[.int .i64 (nr : Int)] 3)) F (fun b hb => by have := hF b hb; simp; omega)
    (Sl.keepF relDr hr (Agree.alloc _ hF)) (fun W x _ hb => draws1_any nr hnr x _ W ((Bc hb (by simp)).trans ((Blk.new w 3 #[.int .i64 (nr : Int)]).cell 0)) (Nat.lt_of_lt_of_le (by simp) hb.size))
  have e := any_notO (drOk nr) l
  rw [e] at hC
  have HC := Lib.hid hC
  obtain ⟨R, hR⟩ : ∃ R, l.all (drOk nr) = R := ⟨_, rfl⟩
  rw [hR] at HC
  rw [hR]
  obtain ⟨A, c, rfl, -⟩ := Sl.openF hr
  clear hC hr e hR
  go_enter Tryz.func25, Tryz.ntmps25
  go_wp2_with (go_at_call 50; (with_reducible refine (HC.out.mono ?_)); rintro e w' ⟨rfl, hb⟩)
  go_ret
  exact ⟨by cases R <;> rfl, Bt (Ba (B0 w) _) hb⟩
/-- The closure of Right: whether a segment is wrong; o's box lies at ob. -/
theorem right1_any (nr : Nat) (hnr : nr ≤ 140737488355328) (Ar : Option Addr) (cr : Nat) (ob : Nat) (x : Seg) (u : Value) (w : World) (hob : ob < w.heap.size) (ho : w.cell? ⟨ob, 1, none⟩ = some (.slice Ar nr cr)) (F : Nat → Prop) (hF : ∀ b, F b → b < w.heap.size) (hu : Sl F 2 (DrC F) w u x.draws) :
    Calls Tryz.prog 24 #[.agg #[.int .i64 x.lo, .int .i64 x.hi, u], .pointer (some ⟨ob, 0, none⟩)] w fun e w' => e = .returned (.bool (!sgOk nr x)) ∧ Below w.heap.size w w' := by
  have hB1 := Ba (B0 w) (.cells #[.int .i64 x.lo, .int .i64 x.hi, u] 89)
  have HD := Lib.hid (draws_any nr hnr u x.draws (w.alloc (.cells #[.int .i64 x.lo, .int .i64 x.hi, u] 89)) F (fun b hb => Nat.lt_of_lt_of_le (hF b hb) hB1.size) (Sl.keepF relDr hu (Agree.below hB1 hF)))
  have HS : Hid (sgOk nr x = x.draws.all (drOk nr)) := Lib.hid rfl
  obtain ⟨R, hR⟩ : ∃ R, x.draws.all (drOk nr) = R := ⟨_, rfl⟩
  rw [hR] at HD HS
  obtain ⟨A, c, rfl, -⟩ := Sl.openF hu
  have o1 := (Bc hB1 hob).trans ho
  have HB1 := Lib.hid hB1
  clear hu hR hB1
  go_enter Tryz.func24, Tryz.ntmps24
  go_wp2_with (go_at_call 25; (with_reducible refine (HD.out.mono ?_)); rintro e w' ⟨rfl, hb⟩)
  go_ret
  exact ⟨by rw [HS.out]; rfl, Bt HB1.out hb⟩
end Go.Proofs.YtnfpjcjlapljjaaGreatDoor
