/- Walks over the statements of checker: covers. -/
import Derived.Test.YtnpdoejjebgcpaaQj
import Derived.Test.YtnpdoejjebgcpaaQb
import Derived.Test.YtnpdoejjebgcpaaRegG
import Derived.Test.YtnpdoejjebgcpaaVd
namespace Go.Proofs.Ytnpdoejjebgcpaa
open Go Go.RowKit
/-- Two rows of one's own of different types are different blocks. -/
theorem Own0.apart1 {w : World} {base base' : Nat} {e e' : TypeId} {A A' : Option Addr} {n n' c c' : Nat} {xs xs' : List Value} (h : Own0 w base e 1 A n c xs) (h' : Own0 w base' e' 1 A' n' c' xs') (hne : e ≠ e') (hn : 0 < n) (hn' : 0 < n') : (Value.slice A n c).ownBlock ≠ (Value.slice A' n' c').ownBlock := by
  rcases h with ⟨q, _, _⟩ | ⟨_, h⟩
  · omega
  rcases h' with ⟨q, _, _⟩ | ⟨_, h'⟩
  · omega
  obtain ⟨g', cap', hv, _⟩ := h'.form hn'
  rcases h'.2 with ⟨q, _⟩ | ⟨g2, cap2, cur2, hv2, _, hh, _⟩
  · rw [q] at hv; cases hv
  · rw [hv2]
    exact own_blk_ne h (show Blk w g2 e' cur2 from hh) hne
theorem Own0.past1 {w w' : World} {base base' : Nat} {e e' : TypeId} {A A' : Option Addr} {n n' c c' : Nat} {xs xs' : List Value} (h : Own0 w base e 1 A n c xs) (h' : Own0 w base' e' 1 A' n' c' xs') (hne : e ≠ e')
    (hq : (n' = 0 ∧ Below w.heap.size w w') ∨ (0 < n' ∧ w.grownBy w' (Value.slice A' n' c').ownBlock)) : Own0 w' base e 1 A n c xs := by
  rcases hq with ⟨_, hb⟩ | ⟨hn', hg⟩
  · exact h.below hb
  · rcases Nat.eq_zero_or_pos n with h0 | h0
    · rcases h with h | ⟨q, _⟩
      · exact .inl h
      · omega
    · exact h.kept hg (.inr (h.apart1 h' hne h0 hn'))
theorem Blk.past1 {w w' : World} {base' g : Nat} {t e' : TypeId} {cs : Array Value} {A' : Option Addr} {n' c' : Nat} {xs' : List Value} (h : Blk w g t cs) (h' : Own0 w base' e' 1 A' n' c' xs') (hne : e' ≠ t)
    (hq : (n' = 0 ∧ Below w.heap.size w w') ∨ (0 < n' ∧ w.grownBy w' (Value.slice A' n' c').ownBlock)) : Blk w' g t cs := by
  rcases hq with ⟨_, hb⟩ | ⟨hn', hg⟩
  · exact h.below hb h.lt
  · rcases h' with ⟨q, _, _⟩ | ⟨_, h'⟩
    · omega
    · exact h.grown hg (fun e => own_blk_ne h' h hne e.symm)
/-- What the operations of 'd.Sets, d.Costs = append(d.Sets, s.Elements), append(d.Costs, s.Cost)' have left. -/
def FD (z g tb base k : Nat) (AS : Option Addr) (cS : Nat) (us : List Value) (AC : Option Addr) (cC : Nat) (xs : List Value) (u : Value) (ck : Int) (j : Nat) (s : Nat → Value) (w : World) : Prop :=
  match j with
  | 0 => s 25 = .pointer (some ⟨g, 1, none⟩)
  | 1 => s 26 = .slice AS k cS
  | 2 => s 27 = .pointer (some ⟨tb, 0, none⟩)
  | 3 => s 28 = u
  | 4 => ∃ b, s 29 = .slice (some ⟨b, 0, none⟩) 1 1 ∧ Blk w b 26 #[u] ∧ z ≤ b
  | 5 => ∃ A c, s 30 = .slice A (k + 1) c ∧ Own0 w base 26 1 A (k + 1) c (us ++ [u])
  | 6 => s 31 = .pointer (some ⟨g, 2, none⟩)
  | 7 => s 32 = .slice AC k cC
  | 8 => s 33 = .pointer (some ⟨tb, 1, none⟩)
  | 9 => s 34 = .int .i64 ck
  | 10 => ∃ b, s 35 = .slice (some ⟨b, 0, none⟩) 1 1 ∧ Blk w b 3 #[.int .i64 ck]
  | 11 => ∃ A c, s 36 = .slice A (k + 1) c ∧ Own0 w base 3 1 A (k + 1) c (xs ++ [.int .i64 ck])
  | 12 => s 37 = .pointer (some ⟨g, 1, none⟩)
  | _ => True
def VD (j : Nat) : List Nat := match j with
  | 0 => [25] | 1 => [26] | 2 => [27] | 3 => [28] | 4 => [29] | 5 => [30] | 6 => [31] | 7 => [32] | 8 => [33] | 9 => [34] | 10 => [35] | 11 => [36] | 12 => [37] | _ => []
def ED (j : Nat) : Bool := j == 5 || j == 11 || j == 12
/-- The world between two operations. -/
def BD (w : World) (z g tb base k : Nat) (AS : Option Addr) (cS : Nat) (us : List Value) (AC : Option Addr) (cC : Nat) (xs : List Value) (u : Value) (ck : Int) (gs : Array Value) (L : Nat → Bool) (w' : World) : Prop :=
  w.grownBy w' (some g) ∧ (base ≤ w'.heap.size ∧ z ≤ w'.heap.size) ∧ Blk w' g 65 gs ∧ Blk w' tb 40 #[u, .int .i64 ck] ∧ (L 5 = false → Own0 w' base 26 1 AS k cS us) ∧ (L 11 = false → Own0 w' base 3 1 AC k cC xs)
section
variable {z g tb base k : Nat} {AS : Option Addr} {cS : Nat} {us : List Value} {AC : Option Addr} {cC : Nat} {xs : List Value} {u : Value} {ck : Int} {gs : Array Value}
theorem FD_V (j : Nat) (s s' : Nat → Value) (w : World) (h : ∀ t, t ∈ VD j → s' t = s t) (hF : FD z g tb base k AS cS us AC cC xs u ck j s w) : FD z g tb base k AS cS us AC cC xs u ck j s' w := by
  match j with
  | 0 => simpa [FD, h 25 (by simp [VD])] using hF
  | 1 => simpa [FD, h 26 (by simp [VD])] using hF
  | 2 => simpa [FD, h 27 (by simp [VD])] using hF
  | 3 => simpa [FD, h 28 (by simp [VD])] using hF
  | 4 => simpa [FD, h 29 (by simp [VD])] using hF
  | 5 => simpa [FD, h 30 (by simp [VD])] using hF
  | 6 => simpa [FD, h 31 (by simp [VD])] using hF
  | 7 => simpa [FD, h 32 (by simp [VD])] using hF
  | 8 => simpa [FD, h 33 (by simp [VD])] using hF
  | 9 => simpa [FD, h 34 (by simp [VD])] using hF
  | 10 => simpa [FD, h 35 (by simp [VD])] using hF
  | 11 => simpa [FD, h 36 (by simp [VD])] using hF
  | 12 => simpa [FD, h 37 (by simp [VD])] using hF
  | j + 13 => trivial
theorem FD_below (j : Nat) (s : Nat → Value) (w w' : World) (hb : Below w.heap.size w w') (hF : FD z g tb base k AS cS us AC cC xs u ck j s w) : FD z g tb base k AS cS us AC cC xs u ck j s w' := by
  match j with
  | 0 => exact hF
  | 1 => exact hF
  | 2 => exact hF
  | 3 => exact hF
  | 4 => obtain ⟨b, h1, h2, h3⟩ := hF; exact ⟨b, h1, h2.below hb h2.lt, h3⟩
  | 5 => obtain ⟨A, c, h1, h2⟩ := hF; exact ⟨A, c, h1, h2.below hb⟩
  | 6 => exact hF
  | 7 => exact hF
  | 8 => exact hF
  | 9 => exact hF
  | 10 => obtain ⟨b, h1, h2⟩ := hF; exact ⟨b, h1, h2.below hb h2.lt⟩
  | 11 => obtain ⟨A, c, h1, h2⟩ := hF; exact ⟨A, c, h1, h2.below hb⟩
  | 12 => exact hF
  | j + 13 => trivial
theorem Blk.past2 {w w' : World} {b z k cS : Nat} {t : TypeId} {cs : Array Value} {A : Option Addr} (h : Blk w b t cs) (hz : z ≤ b) (hown : 0 < k → ∀ c, (Value.slice A k cS).ownBlock = some c → c < z)
    (hq : (k = 0 ∧ Below w.heap.size w w') ∨ (0 < k ∧ w.grownBy w' (Value.slice A k cS).ownBlock)) : Blk w' b t cs := by
  rcases hq with ⟨_, hb⟩ | ⟨h0, hg⟩
  · exact h.below hb h.lt
  · exact h.grown hg (fun e => by have := hown h0 b e.symm; omega)
theorem Own0.lt {w : World} {base : Nat} {e : TypeId} {k n c : Nat} {A : Option Addr} {xs : List Value} (h : Own0 w base e k A n c xs) : 0 < n → ∀ b, (Value.slice A n c).ownBlock = some b → b < w.heap.size := fun h0 b hb => by
  rcases h with ⟨q, _⟩ | ⟨_, h⟩
  · omega
  · exact (h.lt b hb).2
theorem _root_.Go.World.grownBy.on {a b c : World} {row : Option Nat} (h : a.grownBy b row) (k : Below b.heap.size b c) : a.grownBy c row :=
  ⟨k.os.trans h.os, k.tape.trans h.tape, k.output.trans h.output, Nat.le_trans h.size k.size, fun i hi hr => (k.block i (Nat.lt_of_lt_of_le hi h.size)).trans (h.block i hi hr)⟩
theorem grown_app {a b c : World} {row : Option Nat} {base : Nat} {e : TypeId} {k n cc : Nat} {A : Option Addr} {xs : List Value} (h : a.grownBy b row) (hown : Own0 b base e k A n cc xs) (hbase : a.heap.size ≤ base)
    (hq : (n = 0 ∧ Below b.heap.size b c) ∨ (0 < n ∧ b.grownBy c (Value.slice A n cc).ownBlock)) : a.grownBy c row := by
  rcases hq with ⟨_, hb⟩ | ⟨h0, hg⟩
  · exact h.on hb
  · rcases hown with ⟨q, _⟩ | ⟨_, hown⟩
    · omega
    · exact ⟨hg.os.trans h.os, hg.tape.trans h.tape, hg.output.trans h.output, Nat.le_trans h.size hg.size, fun i hi hr => (hg.block i (Nat.lt_of_lt_of_le hi h.size) (fun e => by have := (hown.lt i e.symm).1; omega)).trans (h.block i hi hr)⟩
theorem or_left {a b : Bool} (h : (a || b) = false) : a = false := by cases a <;> simp at h ⊢
theorem BD_below {w : World} (L : Nat → Bool) (i : Nat) (w1 w2 : World) (hb : Below w1.heap.size w1 w2) (h : BD w z g tb base k AS cS us AC cC xs u ck gs L w1) : BD w z g tb base k AS cS us AC cC xs u ck gs (fun j => L j || j == i) w2 := by
  obtain ⟨h1, h2, h3, h4, h5, h6⟩ := h
  exact ⟨h1.on hb, ⟨Nat.le_trans h2.1 hb.size, Nat.le_trans h2.2 hb.size⟩, h3.below hb h3.lt, h4.below hb h4.lt, fun e => (h5 (or_left e)).below hb, fun e => (h6 (or_left e)).below hb⟩
end
/-- The costs and sets of a covering problem, collected. -/
structure DSt (g base k : Nat) (n cost : Int) (vl vt : Value) (ls : List (List Int × Int)) (w w1 : World) (F : Nat → Prop) (AS : Option Addr) (cS : Nat) (us : List Value) (AC : Option Addr) (cC : Nat) (wr : World) : Prop where
  blk : Blk wr g 65 #[.int .i64 n, .slice AS k cS, .slice AC k cC, vl, .int .i64 cost, vt]
  ownS : Own0 wr base 26 1 AS k cS us
  vals : Vals F w us ((ls.take k).map (·.1))
  ownC : Own0 wr base 3 1 AC k cC (cellsV vI ((ls.take k).map (·.2)))
  bel : w1.grownBy wr (some g)
end Go.Proofs.Ytnpdoejjebgcpaa
