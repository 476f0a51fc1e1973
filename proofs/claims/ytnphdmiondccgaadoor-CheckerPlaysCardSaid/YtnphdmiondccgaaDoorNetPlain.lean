/- Plain laws of networks: what the checker's words compute, and what the statement's model computes. -/
namespace Go.Proofs.YtnphdmiondccgaaDoor

structure Gate where
  kind : Int
  arg : Int
  ins : List Int
structure Net where
  gates : List Gate
  outs : List Int

/-! ### Words of 64 bits. -/
def ones : Nat := 18446744073709551615
def andAll (at_ : List Nat) : List Int → Nat → Nat
  | [], x => x
  | k :: r, x => andAll at_ r (x &&& at_.getD k.toNat 0)
def orAll (at_ : List Nat) : List Int → Nat → Nat
  | [], x => x
  | k :: r, x => orAll at_ r (x ||| at_.getD k.toNat 0)
def gateW (values at_ : List Nat) (g : Gate) : Nat :=
  if g.kind = 1 then values.getD g.arg.toNat 0
  else if g.kind = 2 then ones - at_.getD (g.ins.getD 0 0).toNat 0
  else if g.kind = 3 then andAll at_ g.ins ones
  else if g.kind = 4 then orAll at_ g.ins 0
  else if g.kind = 6 then ones
  else 0
def evalW (values : List Nat) : List Nat → List Gate → List Nat
  | at_, [] => at_
  | at_, g :: r => evalW values (at_ ++ [gateW values at_ g]) r

/-! ### The model: one bit. -/
def andB (out : List Bool) : List Int → Bool → Bool
  | [], v => v
  | i :: r, v => andB out r (if out.getD i.toNat false = false then false else v)
def orB (out : List Bool) : List Int → Bool → Bool
  | [], v => v
  | i :: r, v => orB out r (if out.getD i.toNat false = true then true else v)
def gate54B (bits : Nat) (out : List Bool) (g : Gate) : Bool :=
  if g.kind = 1 then bits.testBit g.arg.toNat
  else if g.kind = 2 then !(out.getD (g.ins.getD 0 0).toNat false)
  else if g.kind = 3 then andB out g.ins true
  else if g.kind = 4 then orB out g.ins false
  else g.kind == 6
def evalB (bits : Nat) : List Bool → List Gate → List Bool
  | out, [] => out
  | out, g :: r => evalB bits (out ++ [gate54B bits out g]) r

/-! ### Right networks. -/
def withinB (lo hi : Int) (l : List Int) : Bool := l.all fun n => decide (lo ≤ n) && decide (n ≤ hi)
def gateOk (variables : Int) (i : Nat) (g : Gate) : Bool :=
  (if g.kind = 1 then decide (0 ≤ g.arg) && decide (g.arg ≤ variables - 1) && g.ins.isEmpty
   else if g.kind = 2 then decide (g.arg = 0) && decide (g.ins.length = 1)
   else if g.kind = 3 ∨ g.kind = 4 then decide (g.arg = 0)
   else if g.kind = 5 ∨ g.kind = 6 then decide (g.arg = 0) && g.ins.isEmpty
   else false) && withinB 0 (i - 1) g.ins
def gatesOk (variables : Int) : Nat → List Gate → Bool
  | _, [] => true
  | i, g :: r => gateOk variables i g && gatesOk variables (i + 1) r
def netOk (variables : Int) (n : Net) : Bool :=
  decide (n.gates.length ≤ 20000) && withinB 0 (n.gates.length - 1) n.outs && gatesOk variables 0 n.gates

theorem evalW_length (values : List Nat) (at_ : List Nat) (l : List Gate) : (evalW values at_ l).length = at_.length + l.length := by
  induction l generalizing at_ with
  | nil => simp [evalW]
  | cons g r ih => simp [evalW, ih]; omega
theorem evalB_length (bits : Nat) (out : List Bool) (l : List Gate) : (evalB bits out l).length = out.length + l.length := by
  induction l generalizing out with
  | nil => simp [evalB]
  | cons g r ih => simp [evalB, ih]; omega

/-- Bit b of the words is what the model says. -/
def Bits (b : Nat) (at_ : List Nat) (out : List Bool) : Prop := at_.length = out.length ∧ (∀ x ∈ at_, x ≤ ones) ∧ ∀ i, (at_.getD i 0).testBit b = out.getD i false

theorem ones_eq : ones = 2 ^ 64 - 1 := by decide
theorem ones_bit (b : Nat) (hb : b < 64) : ones.testBit b = true := by
  rw [ones_eq, Nat.testBit_two_pow_sub_one]; simpa using hb
theorem compl_bit (x b : Nat) (hx : x ≤ ones) (hb : b < 64) : (ones - x).testBit b = !x.testBit b := by
  rw [ones_eq] at hx ⊢
  rw [show 2 ^ 64 - 1 - x = 2 ^ 64 - (x + 1) from by omega, Nat.testBit_two_pow_sub_succ (by omega)]
  simp [hb]
theorem andAll_bit (at_ : List Nat) (out : List Bool) (b : Nat) (h : Bits b at_ out) (l : List Int) (x : Nat) (v : Bool) (hx : x.testBit b = v) : (andAll at_ l x).testBit b = andB out l v := by
  induction l generalizing x v with
  | nil => exact hx
  | cons k r ih =>
    simp only [andAll, andB]
    apply ih
    rw [Nat.testBit_and, hx, h.2.2]
    cases out.getD k.toNat false <;> simp
theorem orAll_bit (at_ : List Nat) (out : List Bool) (b : Nat) (h : Bits b at_ out) (l : List Int) (x : Nat) (v : Bool) (hx : x.testBit b = v) : (orAll at_ l x).testBit b = orB out l v := by
  induction l generalizing x v with
  | nil => exact hx
  | cons k r ih =>
    simp only [orAll, orB]
    apply ih
    rw [Nat.testBit_or, hx, h.2.2]
    cases out.getD k.toNat false <;> simp
theorem getD_le (at_ : List Nat) (h : ∀ x ∈ at_, x ≤ ones) (i : Nat) : at_.getD i 0 ≤ ones := by
  rw [List.getD_eq_getElem?_getD]
  rcases hh : at_[i]? with _ | x
  · simp
  · simpa using h x (List.mem_of_getElem? hh)
theorem andAll_le (at_ : List Nat) (l : List Int) (x : Nat) (hx : x ≤ ones) : andAll at_ l x ≤ ones := by
  induction l generalizing x with
  | nil => exact hx
  | cons k r ih => exact ih _ (Nat.le_trans Nat.and_le_left hx)
theorem orAll_le (at_ : List Nat) (h : ∀ x ∈ at_, x ≤ ones) (l : List Int) (x : Nat) (hx : x ≤ ones) : orAll at_ l x ≤ ones := by
  induction l generalizing x with
  | nil => exact hx
  | cons k r ih =>
    apply ih
    have h1 := getD_le at_ h k.toNat
    rw [ones_eq] at *
    have : x ||| at_.getD k.toNat 0 < 2 ^ 64 := Nat.or_lt_two_pow (by omega) (by omega)
    omega
theorem gateW_le (values at_ : List Nat) (hv : ∀ x ∈ values, x ≤ ones) (h : ∀ x ∈ at_, x ≤ ones) (g : Gate) : gateW values at_ g ≤ ones := by
  unfold gateW
  split
  · exact getD_le values hv _
  split
  · omega
  split
  · exact andAll_le _ _ _ (Nat.le_refl _)
  split
  · exact orAll_le _ h _ _ (by simp)
  split
  · exact Nat.le_refl _
  · simp
theorem gate_bit (values at_ : List Nat) (out : List Bool) (b bits : Nat) (hb : b < 64) (h : Bits b at_ out) (g : Gate)
    (hv : g.kind = 1 → (values.getD g.arg.toNat 0).testBit b = bits.testBit g.arg.toNat) : (gateW values at_ g).testBit b = gate54B bits out g := by
  unfold gateW gate54B
  split
  · rename_i h1; exact hv h1
  split
  · rw [compl_bit _ _ (getD_le _ h.2.1 _) hb, h.2.2]
  split
  · exact andAll_bit _ _ _ h _ _ _ (ones_bit b hb)
  split
  · exact orAll_bit _ _ _ h _ _ _ (by simp)
  split
  · rename_i h6; rw [ones_bit b hb]; simp [h6]
  · rename_i h6; simp [h6]
theorem Bits.snoc {b : Nat} {at_ : List Nat} {out : List Bool} (h : Bits b at_ out) {x : Nat} {v : Bool} (hx : x ≤ ones) (hb : x.testBit b = v) : Bits b (at_ ++ [x]) (out ++ [v]) := by
  refine ⟨by simp [h.1], fun y hy => ?_, fun i => ?_⟩
  · rcases List.mem_append.1 hy with hy | hy
    · exact h.2.1 y hy
    · simp at hy; subst hy; exact hx
  · have h0 := h.2.2 i
    rw [List.getD_eq_getElem?_getD] at h0 ⊢
    rw [List.getD_eq_getElem?_getD] at h0 ⊢
    rw [List.getElem?_append, List.getElem?_append, ← h.1]
    split
    · exact h0
    · rcases hi : i - at_.length with _ | j
      · simpa using hb
      · simp
theorem eval_bits (values : List Nat) (b bits : Nat) (hb : b < 64) (hvs : ∀ x ∈ values, x ≤ ones) (n : Int) (hv : ∀ a : Int, 0 ≤ a → a ≤ n - 1 → (values.getD a.toNat 0).testBit b = bits.testBit a.toNat)
    (l : List Gate) : ∀ (i : Nat) (at_ : List Nat) (out : List Bool), gatesOk n i l = true → Bits b at_ out → Bits b (evalW values at_ l) (evalB bits out l) := by
  induction l with
  | nil => intro _ _ _ _ h; exact h
  | cons g r ih =>
    intro i at_ out hok h
    simp only [gatesOk, Bool.and_eq_true] at hok
    simp only [evalW, evalB]
    refine ih (i + 1) _ _ hok.2 (h.snoc (gateW_le _ _ hvs h.2.1 g) (gate_bit values at_ out b bits hb h g fun h1 => ?_))
    have := hok.1
    simp only [gateOk, h1, if_true, Bool.and_eq_true, decide_eq_true_eq] at this
    exact hv _ this.1.1.1 this.1.1.2

def masks : List Nat := [0xaaaaaaaaaaaaaaaa, 0xcccccccccccccccc, 0xf0f0f0f0f0f0f0f0, 0xff00ff00ff00ff00]
theorem masks_bit : ∀ b < 64, ∀ a < 4, (masks.getD a 0).testBit b = (b % 16).testBit a := by decide +kernel
theorem masks_le : ∀ x ∈ masks, x ≤ ones := by decide

/-- What the checker says of two right networks. -/
def outsW (values : List Nat) (n : Net) : List Nat := n.outs.map fun k => (evalW values [] n.gates).getD k.toNat 0
def outsB (bits : Nat) (n : Net) : List Bool := n.outs.map fun k => (evalB bits [] n.gates).getD k.toNat false

theorem outs_le (values : List Nat) (hv : ∀ x ∈ values, x ≤ ones) (n : Net) : ∀ x ∈ outsW values n, x ≤ ones := by
  have h : ∀ (l : List Gate) (at_ : List Nat), (∀ x ∈ at_, x ≤ ones) → ∀ x ∈ evalW values at_ l, x ≤ ones := by
    intro l
    induction l with
    | nil => intro _ h; exact h
    | cons g r ih =>
      intro at_ h
      refine ih _ fun y hy => ?_
      rcases List.mem_append.1 hy with hy | hy
      · exact h y hy
      · simp at hy; subst hy; exact gateW_le _ _ hv h g
  intro x hx
  unfold outsW at hx
  obtain ⟨k, _, rfl⟩ := List.mem_map.1 hx
  exact getD_le _ (h _ _ (by simp)) _

theorem same_iff (a b : Net) (ha : netOk 4 a = true) (hb : netOk 4 b = true) :
    outsW masks a = outsW masks b ↔ ∀ t < 16, outsB t a = outsB t b := by
  have hbit : ∀ (n : Net), netOk 4 n = true → ∀ s < 64, (outsW masks n).map (fun x => x.testBit s) = outsB (s % 16) n := by
    intro n hn s hs
    simp only [netOk, Bool.and_eq_true] at hn
    have := eval_bits masks s (s % 16) hs masks_le 4 (fun x h0 h1 => masks_bit s hs x.toNat (by omega)) n.gates 0 [] [] hn.2 ⟨rfl, by simp, by simp⟩
    unfold outsW outsB
    rw [List.map_map]
    exact List.map_congr_left fun k _ => this.2.2 k.toNat
  constructor
  · intro h t ht
    have h1 := hbit a ha t (by omega)
    have h2 := hbit b hb t (by omega)
    rw [Nat.mod_eq_of_lt ht] at h1 h2
    rw [← h1, ← h2, h]
  · intro h
    have hlen : (outsW masks a).length = (outsW masks b).length := by
      have h1 := congrArg List.length (h 0 (by omega))
      simpa [outsW, outsB] using h1
    apply List.ext_getElem hlen
    intro i h1 h2
    apply Nat.eq_of_testBit_eq
    intro s
    by_cases hs : s < 64
    · have e1 := hbit a ha s hs
      have e2 := hbit b hb s hs
      rw [h (s % 16) (by omega), ← e2] at e1
      have := congrArg (fun l => l[i]?) e1
      simpa [h1, h2] using this
    · have l1 : (outsW masks a)[i] < 2 ^ 64 := by have := outs_le masks masks_le a _ (List.getElem_mem h1); rw [ones_eq] at this; omega
      have l2 : (outsW masks b)[i] < 2 ^ 64 := by have := outs_le masks masks_le b _ (List.getElem_mem h2); rw [ones_eq] at this; omega
      rw [Nat.testBit_lt_two_pow (Nat.lt_of_lt_of_le l1 (Nat.pow_le_pow_right (by omega) (by omega))), Nat.testBit_lt_two_pow (Nat.lt_of_lt_of_le l2 (Nat.pow_le_pow_right (by omega) (by omega)))]
end Go.Proofs.YtnphdmiondccgaaDoor
