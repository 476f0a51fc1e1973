/- Plain laws of networks: what the checker's words compute, and what the statement's model computes. -/

namespace Go.Proofs.YtnfpjcjlapljjaaGreatDoor

structure Gate where
  kind : Int
  arg : Int
  ins : List Int
structure Net where
  gates : List Gate
  outs : List Int

/-! ### Words of 64 bits. -/
def ones : Nat := 18446744073709551615
def andAll (at_ : List Nat) : List Int → Nat → Nat
  | [], x => x
  | k :: r, x => andAll at_ r (x &&& at_.getD k.toNat 0)
def orAll (at_ : List Nat) : List Int → Nat → Nat
  | [], x => x
  | k :: r, x => orAll at_ r (x ||| at_.getD k.toNat 0)
def gateW (values at_ : List Nat) (g : Gate) : Nat :=
  if g.kind = 1 then values.getD g.arg.toNat 0
  else if g.kind = 2 then ones - at_.getD (g.ins.getD 0 0).toNat 0
  else if g.kind = 3 then andAll at_ g.ins ones
  else if g.kind = 4 then orAll at_ g.ins 0
  else if g.kind = 6 then ones
  else 0
def evalW (values : List Nat) : List Nat → List Gate → List Nat
  | at_, [] => at_
  | at_, g :: r => evalW values (at_ ++ [gateW values at_ g]) r

/-! ### The model: one bit. -/
/-! ### Right networks. -/
def withinB (lo hi : Int) (l : List Int) : Bool := l.all fun n => decide (lo ≤ n) && decide (n ≤ hi)
def gateOk (variables : Int) (i : Nat) (g : Gate) : Bool :=
  (if g.kind = 1 then decide (0 ≤ g.arg) && decide (g.arg ≤ variables - 1) && g.ins.isEmpty
   else if g.kind = 2 then decide (g.arg = 0) && decide (g.ins.length = 1)
   else if g.kind = 3 ∨ g.kind = 4 then decide (g.arg = 0)
   else if g.kind = 5 ∨ g.kind = 6 then decide (g.arg = 0) && g.ins.isEmpty
   else false) && withinB 0 (i - 1) g.ins
def gatesOk (variables : Int) : Nat → List Gate → Bool
  | _, [] => true
  | i, g :: r => gateOk variables i g && gatesOk variables (i + 1) r
def netOk (variables : Int) (n : Net) : Bool :=
  decide (n.gates.length ≤ 20000) && withinB 0 (n.gates.length - 1) n.outs && gatesOk variables 0 n.gates

theorem evalW_length (values : List Nat) (at_ : List Nat) (l : List Gate) : (evalW values at_ l).length = at_.length + l.length := by
  induction l generalizing at_ with
  | nil => simp [evalW]
  | cons g r ih => simp [evalW, ih]; omega
/-- Bit b of the words is what the model says. -/
def Bits (b : Nat) (at_ : List Nat) (out : List Bool) : Prop := at_.length = out.length ∧ (∀ x ∈ at_, x ≤ ones) ∧ ∀ i, (at_.getD i 0).testBit b = out.getD i false

theorem ones_eq : ones = 2 ^ 64 - 1 := by decide
theorem getD_le (at_ : List Nat) (h : ∀ x ∈ at_, x ≤ ones) (i : Nat) : at_.getD i 0 ≤ ones := by
  rw [List.getD_eq_getElem?_getD]
  rcases hh : at_[i]? with _ | x
  · simp
  · simpa using h x (List.mem_of_getElem? hh)
theorem andAll_le (at_ : List Nat) (l : List Int) (x : Nat) (hx : x ≤ ones) : andAll at_ l x ≤ ones := by
  induction l generalizing x with
  | nil => exact hx
  | cons k r ih => exact ih _ (Nat.le_trans Nat.and_le_left hx)
theorem orAll_le (at_ : List Nat) (h : ∀ x ∈ at_, x ≤ ones) (l : List Int) (x : Nat) (hx : x ≤ ones) : orAll at_ l x ≤ ones := by
  induction l generalizing x with
  | nil => exact hx
  | cons k r ih =>
    apply ih
    have h1 := getD_le at_ h k.toNat
    rw [ones_eq] at *
    have : x ||| at_.getD k.toNat 0 < 2 ^ 64 := Nat.or_lt_two_pow (by omega) (by omega)
    omega
theorem gateW_le (values at_ : List Nat) (hv : ∀ x ∈ values, x ≤ ones) (h : ∀ x ∈ at_, x ≤ ones) (g : Gate) : gateW values at_ g ≤ ones := by
  unfold gateW
  split
  · exact getD_le values hv _
  split
  · omega
  split
  · exact andAll_le _ _ _ (Nat.le_refl _)
  split
  · exact orAll_le _ h _ _ (by simp)
  split
  · exact Nat.le_refl _
  · simp
theorem Bits.snoc {b : Nat} {at_ : List Nat} {out : List Bool} (h : Bits b at_ out) {x : Nat} {v : Bool} (hx : x ≤ ones) (hb : x.testBit b = v) : Bits b (at_ ++ [x]) (out ++ [v]) := by
  refine ⟨by simp [h.1], fun y hy => ?_, fun i => ?_⟩
  · rcases List.mem_append.1 hy with hy | hy
    · exact h.2.1 y hy
    · simp at hy; subst hy; exact hx
  · have h0 := h.2.2 i
    rw [List.getD_eq_getElem?_getD] at h0 ⊢
    rw [List.getD_eq_getElem?_getD] at h0 ⊢
    rw [List.getElem?_append, List.getElem?_append, ← h.1]
    split
    · exact h0
    · rcases hi : i - at_.length with _ | j
      · simpa using hb
      · simp
/-- What the checker says of two right networks. -/
def outsW (values : List Nat) (n : Net) : List Nat := n.outs.map fun k => (evalW values [] n.gates).getD k.toNat 0
end Go.Proofs.YtnfpjcjlapljjaaGreatDoor
