/- Walks. -/
import Derived.Test.YtnfpjcjlapljjaaGreatDoorRows
import Derived.Test.YtnfpjcjlapljjaaGreatDoorBase
import Derived.Test.YtnfpjcjlapljjaaGreatDoorNetPlain
import Derived.WalkKit
import Derived.WalkSpells
import Derived.WalkLawsBesides
import Derived.StillTactics
import Derived.LoopTactic
import Derived.Deep.LoopGhost
import Derived.Outline
import Derived.Handy
import Derived.Shelf.Abstract
namespace Go.Proofs.YtnfpjcjlapljjaaGreatDoor
open Go Go.RowKit

theorem within1 (n lo hi : Int) (a b : Addr) (w : World) (ha : w.cell? a = some (.int .i64 lo)) (hb : w.cell? b = some (.int .i64 hi)) :
    Calls Tryz.prog 48 #[.int .i64 n, .pointer (some a), .pointer (some b)] w fun e w' => e = .returned (.bool (decide (n < lo) || decide (n > hi))) ∧ w = w' := by
  by_cases h1 : n < lo <;> by_cases h2 : hi < n
  all_goals
    go_enter Tryz.func48, Tryz.ntmps48
    go_wp2
    go_ret
    exact ⟨by simp [h1, h2], rfl⟩

/-- The first index at which p holds; -1. -/
def idxOf {α : Type} (p : α → Bool) : List α → Int
  | [] => -1
  | x :: l => if p x then 0 else (if idxOf p l < 0 then -1 else idxOf p l + 1)

theorem idxOf_ge {α : Type} (p : α → Bool) (l : List α) : -1 ≤ idxOf p l := by
  induction l with
  | nil => simp [idxOf]
  | cons x l ih => simp only [idxOf]; split <;> (try split) <;> omega
theorem idxOf_miss {α : Type} (p : α → Bool) (l : List α) (h : ∀ j (hj : j < l.length), p l[j] = false) : idxOf p l = -1 := by
  induction l with
  | nil => rfl
  | cons x l ih =>
    have h0 := h 0 (by simp)
    have := ih fun j hj => h (j + 1) (by simp; omega)
    simp at h0
    simp [idxOf, h0, this]
theorem idxOf_hit {α : Type} (p : α → Bool) (l : List α) (k : Nat) (hk : k < l.length) (hq : p l[k] = true) (h : ∀ j (hj : j < l.length), j < k → p l[j] = false) : idxOf p l = k := by
  induction l generalizing k with
  | nil => simp at hk
  | cons x l ih =>
    cases k with
    | zero => simp at hq; simp [idxOf, hq]
    | succ k =>
      have h0 := h 0 (by simp) (by omega)
      have := ih k (by simpa using hk) (by simpa using hq) fun j hj hjk => h (j + 1) (by simp; omega) (by omega)
      simp at h0
      simp only [idxOf, h0, this]
      simp; omega

/-- A closure that answers by p, in every world in which all that lay in w lies. -/
def PredI (p : Int → Bool) (g : Nat) (lb : Array Value) (w : World) : Prop :=
  ∀ (W : World) (x : Int), Below w.heap.size w W → Calls Tryz.prog g (#[.int .i64 x] ++ lb) W fun e w' => e = .returned (.bool (p x)) ∧ W = w'

set_option maxHeartbeats 400000 in
theorem indexFunc_any (p : Int → Bool) (v : Value) (l : List Int) (g : Nat) (lb : Array Value) (eg : ∀ args w, (callFunc g args).run Tryz.prog w = .ok (.enter g args) w) (w : World) (F : Nat → Prop)
    (hr : SlI F w v l) (hp : PredI p g lb w) :
    Calls Tryz.prog 60 #[v, .func (.func g) #[] lb] w fun e w' => e = .returned (.int .i64 (idxOf p l)) ∧ w = w' := by
  obtain ⟨A, c, rfl, hlc, hl, hat⟩ := hr.open
  clear hr
  go_enter Tryz.func60, Tryz.ntmps60
  go_wp2
  go_loop [5, 8] (fun _ s8 => ∃ kk : Nat, kk ≤ l.length ∧ s8 = .int .i64 kk ∧ Aside (∀ j (hj : j < l.length), j < kk → p l[j] = false)) (fun _ s8 => l.length - (intOf s8).toNat)
  case atStart => exact ⟨0, Nat.zero_le _, rfl, fun j _ hj => absurd hj (Nat.not_lt_zero _)⟩
  case round =>
    obtain ⟨kk, hkk, rfl, A1⟩ := hrel
    by_cases hlt : kk < l.length
    · obtain ⟨ad, rfl, hb, hc⟩ := hat kk hlt
      have hcall := hp w l[kk] (Below.refl _ _)
      clear hat hp
      cases hq : p l[kk] with
      | true =>
        rw [hq] at hcall
        go_wp2_with (go_at_fn g; refine hcall.mono ?_; rintro e w' ⟨rfl, rfl⟩)
        go_ret
        exact ⟨by rw [idxOf_hit p l kk hlt hq A1.out]; rfl, rfl⟩
      | false =>
        rw [hq] at hcall
        go_wp2_with (go_at_fn g; refine hcall.mono ?_; rintro e w' ⟨rfl, rfl⟩)
        go_round
        case rel =>
          refine ⟨kk + 1, by omega, by go_num, (show Aside _ from fun j hj hjk => ?_)⟩
          by_cases e : j = kk
          · subst e
            exact hq
          · exact A1.out j hj (by omega)
        case measure => simp [intOf]; omega
    · have : kk = l.length := by omega
      subst this
      clear hat hp
      go_wp2
      go_ret
      exact ⟨by rw [idxOf_miss p l fun j hj => A1.out j hj hj]; rfl, rfl⟩

theorem idxOf_any {α : Type} (p : α → Bool) (l : List α) : decide (0 ≤ idxOf p l) = l.any p := by
  induction l with
  | nil => rfl
  | cons x l ih =>
    have := idxOf_ge p l
    cases hx : p x <;> simp only [idxOf, hx, List.any_cons, ← ih]
    · by_cases h : idxOf p l < 0 <;> simp [h] <;> omega
    · simp

theorem containsFunc_any (p : Int → Bool) (v : Value) (l : List Int) (g : Nat) (lb : Array Value) (eg : ∀ args w, (callFunc g args).run Tryz.prog w = .ok (.enter g args) w) (w : World) (F : Nat → Prop)
    (hr : SlI F w v l) (hp : PredI p g lb w) :
    Calls Tryz.prog 47 #[v, .func (.func g) #[] lb] w fun e w' => e = .returned (.bool (l.any p)) ∧ w = w' := by
  rw [← idxOf_any]
  go_enter Tryz.func47, Tryz.ntmps47
  go_wp2_with (go_at_call 60; refine (indexFunc_any p v l g lb eg _ F hr hp).mono ?_; rintro e w' ⟨rfl, rfl⟩)
  go_ret
  exact ⟨by simp, rfl⟩

theorem withinB_any (lo hi : Int) (l : List Int) : withinB lo hi l = !(l.any fun n => decide (n < lo) || decide (n > hi)) := by
  unfold withinB
  induction l with
  | nil => rfl
  | cons n l ih =>
    simp only [List.all_cons, List.any_cons, ih]
    by_cases h1 : n < lo <;> by_cases h2 : hi < n <;> simp [h1, h2] <;> omega

theorem within_any (lo hi : Int) (v : Value) (l : List Int) (w : World) (F : Nat → Prop) (hF : ∀ b, F b → b < w.heap.size) (hr : SlI F w v l) :
    Calls Tryz.prog 21 #[.int .i64 lo, .int .i64 hi, v] w fun e w' => e = .returned (.bool (withinB lo hi l)) ∧ Below w.heap.size w w' := by
  have hC := fun (W : World) (hs : w.heap.size + 1 < W.heap.size) (hb : Below w.heap.size w W) (h0 : W.cell? ⟨w.heap.size, 0, none⟩ = some (.int .i64 lo)) (h1 : W.cell? ⟨w.heap.size + 1, 0, none⟩ = some (.int .i64 hi)) =>
    containsFunc_any (fun n => decide (n < lo) || decide (n > hi)) v l 48 #[.pointer (some ⟨w.heap.size, 0, none⟩), .pointer (some ⟨w.heap.size + 1, 0, none⟩)] (enters_of Tryz.func48 (by kernel_rfl) rfl) W F
      (hr.keep (Agree.below hb hF)) (fun W' x hb' => within1 x lo hi _ _ W' ((hb'.cell (p := ⟨w.heap.size, 0, none⟩) (by simp; omega)).trans h0) ((hb'.cell (p := ⟨w.heap.size + 1, 0, none⟩) (by simp; omega)).trans h1))
  rw [withinB_any]
  have hb : ∀ o1 o2, Below w.heap.size w ((w.alloc o1).alloc o2) := fun o1 o2 => ((Below.refl _ _).alloc (Nat.le_refl _) _).alloc (by simp) _
  have H := Lib.hid hC
  clear hC hr
  go_enter Tryz.func21, Tryz.ntmps21
  go_wp2_with (go_at_call 47; refine (H.out _ (by simp) (hb _ _) (by simp) (by simp)).mono ?_; rintro e w' ⟨rfl, rfl⟩)
  go_ret
  exact ⟨by simp, hb _ _⟩
end Go.Proofs.YtnfpjcjlapljjaaGreatDoor
