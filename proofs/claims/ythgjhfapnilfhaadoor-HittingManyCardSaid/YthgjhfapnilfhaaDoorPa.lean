/- Words for the statements of hitting over a plan: what its problem's functions return. Words for the statements of hitting: the problem of Make; the first of the reference's lists. -/
import Derived.Test.YthgjhfapnilfhaaDoorAb
import Derived.Test.YthgjhfapnilfhaaDoorVc
import Derived.Test.YthgjhfapnilfhaaDoorHM
namespace Go.Proofs.YthgjhfapnilfhaaDoor
open Go Go.RowKit
/-- The problem of a plan, in all later worlds. -/
structure Prob (n : Nat) (v : Value) (ws : List Nat) (B : Nat) (w : World) : Prop where
  le : n ≤ 20
  good : Hit.Good ws n
  len : ws.length ≤ 100
  size : B ≤ w.heap.size
  sets : SlII (fun b => b < B) w v (setsOf ws)
  tab : Tab32 w
namespace Prob
variable {n : Nat} {v : Value} {ws : List Nat} {B : Nat} {w W : World}
theorem on (h : Prob n v ws B w) (hW : Below w.heap.size w W) : Prob n v ws B W :=
  ⟨h.le, h.good, h.len, Nat.le_trans h.size hW.size, h.sets.keep (Agree.below hW fun b hb => by have := h.size; omega), h.tab.below hW⟩
theorem lt (h : Prob n v ws B w) : ∀ s ∈ ws, s < 4294967296 := good_lt h.good (by have := h.le; omega)
theorem inW (h : Prob n v ws B w) : ∀ b, b < B → b < w.heap.size := fun _ hb => Nat.lt_of_lt_of_le hb h.size
theorem pop_len {X : List Nat} (_ : Prob n v ws B w) (hX : Hit.IsLeast ws n (Hit.least ws n) X) (hn : n ≤ 20) : Hit.members (Hit.least ws n) = X ∧ Hit.pop (Hit.least ws n) = X.length := by
  have h1 : Hit.members (Hit.least ws n) = X := by
    rw [hX.word]
    exact Hit.members_word hX.ok.inc fun x hx => by have := hX.ok.lo x hx; omega
  exact ⟨h1, by unfold Hit.pop; rw [h1]⟩
/-- The reference's lists begin with the least one. -/
theorem first (h : Prob n v ws B w) : ∃ l, (Hit.allF ws n).1 = Hit.members (Hit.least ws n) :: l := by
  obtain ⟨X, hX⟩ := Hit.least_spec h.good
  obtain ⟨l, hl⟩ := Hit.all_head (by have := h.le; omega) hX
  exact ⟨l, by rw [hl, (h.pop_len hX h.le).1]⟩
/-- A tree for a size that no list beats. -/
theorem tree (h : Prob n v ws B w) {size : Int} (hs : size ≤ (Hit.pop (Hit.least ws n) : Int)) : Hit.treeF ws n size (Hit.nodeF ws size (n + 1) 0 0 0) = true := by
  obtain ⟨X, hX⟩ := Hit.least_spec h.good
  refine Hit.prove_tree h.good (by have := h.le; omega) (fun Y hY => ?_) (n + 1) (by omega)
  rw [(h.pop_len hX h.le).2] at hs
  have := hX.short Y hY
  omega
theorem node_short (h8 : n ≤ 8) (size : Int) : 0 < (Hit.nodeF ws size (n + 1) 0 0 0).length ∧ (Hit.nodeF ws size (n + 1) 0 0 0).length ≤ 512 := by
  have h1 := Hit.node_len ws size (n + 1) 0 0 0
  have h2 : 2 ^ (n + 1) ≤ 2 ^ 9 := Nat.pow_le_pow_right (by decide) (by omega)
  exact ⟨Hit.nodeF_pos ws size n 0 0 0, by omega⟩
theorem weights (h : Prob n v ws B w) (size : Int) : ∀ x ∈ Hit.nodeF ws size (n + 1) 0 0 0, x.weights.length ≤ 101 := by
  have key : ∀ (d at_ taken out : Nat), ∀ x ∈ Hit.nodeF ws size d at_ taken out, x.weights.length ≤ ws.length + 1 := by
    intro d
    induction d with
    | zero => intro at_ taken out x hx; simp [Hit.nodeF] at hx
    | succ d ih =>
      intro at_ taken out x hx
      unfold Hit.nodeF at hx
      split at hx
      · simp only [List.mem_singleton] at hx; subst hx; simp [Hit.leafN]
      · split at hx
        · simp only [List.mem_singleton] at hx; subst hx
          have : (Hit.apart ws taken out).length ≤ ws.length := apartGo_len ws 0 taken out 0
          simp [Hit.leafN]; omega
        · rcases List.mem_cons.1 hx with rfl | hx
          · simp
          · rcases List.mem_append.1 hx with hx | hx
            · exact ih _ _ _ x hx
            · exact ih _ _ _ x hx
  intro x hx
  have := key _ _ _ _ x hx
  have := h.len
  omega
theorem leastC (h : Prob n v ws B w) : Calls Tryd.prog 18 #[.agg #[.int .i64 n, v]] w fun e w' => ∃ A c, e = .returned (.tuple #[.slice A (Hit.pop (Hit.least ws n)) c, .int .i64 0]) ∧ SlI (fun b => w.heap.size ≤ b ∧ b < w'.heap.size) w' (.slice A (Hit.pop (Hit.least ws n)) c) (Hit.ints (Hit.members (Hit.least ws n))) ∧ Below w.heap.size w w' := by
  refine (leastL_any n h.le v ws h.good h.len w (fun b => b < B) h.inW h.sets h.tab).mono ?_
  rintro e w' ⟨A, m, c, rfl, rfl, hO, hb⟩
  exact ⟨A, c, rfl, hO.ints rfl (red_len _) fun b q1 q2 => ⟨q1, q2⟩, hb⟩
theorem proveOut (h : Prob n v ws B w) {size : Int} (hs : size < 0 ∨ (n : Int) < size) : Calls Tryd.prog 10 #[.agg #[.int .i64 n, v], .int .i64 size] w fun e w' => e = .returned (.tuple #[.slice none 0 0, .int .i64 3]) ∧ Below w.heap.size w w' := by
  refine (prove_any n h.le v ws h.good h.len size w (fun b => b < B) h.inW h.sets h.tab).mono ?_
  rintro e w' ⟨hb, ⟨_, he⟩ | ⟨⟨q1, q2, _⟩, _⟩ | ⟨⟨q1, q2, _⟩, _⟩⟩
  · exact ⟨he, hb⟩
  · omega
  · omega
theorem proveLess (h : Prob n v ws B w) {size : Int} (h0 : 0 ≤ size) (h1 : size ≤ n) (hs : (Hit.pop (Hit.least ws n) : Int) < size) : Calls Tryd.prog 10 #[.agg #[.int .i64 n, v], .int .i64 size] w fun e w' => e = .returned (.tuple #[.slice none 0 0, .int .i64 18]) ∧ Below w.heap.size w w' := by
  refine (prove_any n h.le v ws h.good h.len size w (fun b => b < B) h.inW h.sets h.tab).mono ?_
  rintro e w' ⟨hb, ⟨q, _⟩ | ⟨_, he⟩ | ⟨⟨_, _, q3⟩, _⟩⟩
  · omega
  · exact ⟨he, hb⟩
  · omega
/-- The tree for a size. -/
abbrev tr (ws : List Nat) (n : Nat) (size : Int) : List Hit.TNode := Hit.nodeF ws size (n + 1) 0 0 0
theorem proveC (h : Prob n v ws B w) {size : Int} (h0 : 0 ≤ size) (h1 : size ≤ n) (hs : size ≤ (Hit.pop (Hit.least ws n) : Int)) : Calls Tryd.prog 10 #[.agg #[.int .i64 n, v], .int .i64 size] w fun e w' => ∃ pb vs A c, e = .returned (.tuple #[.slice A (tr ws n size).length c, .int .i64 0]) ∧ w.heap.size ≤ pb ∧ PT pb vs size w' (.slice A (tr ws n size).length c) (tr ws n size) ∧ Below w.heap.size w w' := by
  refine (prove_any n h.le v ws h.good h.len size w (fun b => b < B) h.inW h.sets h.tab).mono ?_
  rintro e w' ⟨hb, ⟨q, _⟩ | ⟨⟨_, _, q3⟩, _⟩ | ⟨_, pb, vs, A, c, q1, he, hP⟩⟩
  · omega
  · omega
  · exact ⟨pb, vs, A, c, he, q1, hP, hb⟩
theorem treeC (h : Prob n v ws B w) (size : Int) (vt : Value) (t : List Hit.TNode) (h0 : 0 < t.length) (htl : t.length ≤ 1000000) (hll : ∀ x ∈ t, x.weights.length ≤ 1000000) (ht : SlT (fun b => b < w.heap.size) w vt t) :
    Calls Tryd.prog 49 #[.agg #[.int .i64 n, v], .int .i64 size, vt] w fun e w' => e = .returned (.bool (Hit.treeF ws n size t)) ∧ Below w.heap.size w w' :=
  treeR_any n (by have := h.le; omega) size v vt ws h.lt t h0 htl hll w (fun b => b < B) (fun b => b < w.heap.size) h.inW (fun _ h => h) h.sets ht
theorem verifyC (h : Prob n v ws B w) (size : Int) (vt : Value) (t : List Hit.TNode) (htl : t.length ≤ 1000000) (hll : ∀ x ∈ t, x.weights.length ≤ 1000000) (ht : SlT (fun b => b < w.heap.size) w vt t) :
    Calls Tryd.prog 29 #[.agg #[.int .i64 n, v], .int .i64 size, vt] w fun e w' => e = .returned (.int .i64 (Hit.verifyF ws n size t)) ∧ Below w.heap.size w w' :=
  verify_any n h.le v vt ws h.good h.len size t htl hll w (fun b => b < B) (fun b => b < w.heap.size) h.inW (fun _ h => h) h.sets ht
theorem allC (h : Prob n v ws B w) (h8 : n ≤ 8) : Calls Tryd.prog 21 #[.agg #[.int .i64 n, v]] w fun e w' => ∃ A m c, e = .returned (.tuple #[.slice A m c, .int .i64 ((Hit.allF ws n).2 : Nat)]) ∧ m = (Hit.allF ws n).1.length ∧ SlII (fun b => w.heap.size ≤ b ∧ b < w'.heap.size) w' (.slice A m c) (intsL (Hit.allF ws n).1) ∧ Below w.heap.size w w' :=
  allR_any n h8 v ws h.lt w (fun b => b < B) h.inW h.sets
end Prob
end Go.Proofs.YthgjhfapnilfhaaDoor
namespace Go.Proofs.YthgjhfapnilfhaaDoor
open Go Go.RowKit
/-- The contract of Make, as each statement over a plan uses it. -/
theorem make_prob (N : Nat) (hN : N < 256) (vs : Value) (sets : List Nat) (hs : ∀ s ∈ sets, s < 256) (w : World) (F : Nat → Prop) (hF : ∀ b, F b → b < w.heap.size) (hr : SlU .u8 F w vs sets) (hT : Tab32 w) :
    ∀ W, Below w.heap.size w W → Calls Tryd.prog 9 #[.agg #[.int .u8 N, vs]] W fun e w' => ∃ A m c, e = .returned (.agg #[.int .i64 ((1 + N % 8 : Nat) : Int), .slice A m c]) ∧ Prob (1 + N % 8) (.slice A m c) (Hit.planW (1 + N % 8) sets) w'.heap.size w' ∧ Below W.heap.size W w' := by
  intro W hW
  refine (make_any N hN vs sets hs W F (fun b hb => by have := hF b hb; have := hW.size; omega) (hr.keep (Agree.below hW hF))).mono ?_
  rintro e w' ⟨A, m, c, rfl, rfl, hS, hb⟩
  refine ⟨A, _, c, rfl, ⟨by omega, Hit.planW_good _ sets, by have := Hit.planW_len (1 + N % 8) sets; omega, Nat.le_refl _, hS.wider fun b h => h.2, (hT.below hW).below hb⟩, hb⟩
theorem Prob.more {n : Nat} {v : Value} {ws : List Nat} {B B' : Nat} {w : World} (h : Prob n v ws B w) (hB : B ≤ B') (hB' : B' ≤ w.heap.size) : Prob n v ws B' w :=
  ⟨h.le, h.good, h.len, hB', h.sets.wider fun _ hb => Nat.lt_of_lt_of_le hb hB, h.tab⟩
/-- The lists of the reference: the length of the first one. -/
theorem lists_first {n m c : Nat} {v : Value} {ws : List Nat} {B : Nat} {w w' : World} {A : Option Addr} {F : Nat → Prop} (h : Prob n v ws B w) (hm : m = (Hit.allF ws n).1.length) (hs : SlII F w' (.slice A m c) (intsL (Hit.allF ws n).1)) :
    ∃ ad A1 c1, A = some ad ∧ F ad.block ∧ w'.cell? ad = some (.slice A1 (Hit.pop (Hit.least ws n)) c1) ∧ SlI F w' (.slice A1 (Hit.pop (Hit.least ws n)) c1) (Hit.ints (Hit.members (Hit.least ws n))) ∧ 0 < m := by
  obtain ⟨l, hl⟩ := h.first
  obtain ⟨A', c', hv, _, _, hat⟩ := hs.open
  injection hv with e1 e2 e3
  subst e1 e3
  rw [hl] at hat hm
  obtain ⟨ad, u, rfl, hF, hc, hu⟩ := hat 0 (by simp [intsL])
  have hu' : SlI F w' u (Hit.ints (Hit.members (Hit.least ws n))) := hu
  obtain ⟨A1, c1, rfl, _⟩ := id hu'.open
  rw [ints_length] at hc hu'
  refine ⟨ad, A1, c1, rfl, hF, (by have h2 := hc; simp [Addr.add] at h2; exact h2), hu', by rw [hm]; simp⟩
end Go.Proofs.YthgjhfapnilfhaaDoor
