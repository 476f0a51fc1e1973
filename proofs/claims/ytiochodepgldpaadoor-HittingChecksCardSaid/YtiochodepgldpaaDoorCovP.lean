/- Plain: the proofs of covers: the checker's reading and layer 10's are one. -/
import Derived.Test.YtiochodepgldpaaDoorHitI
namespace Go.Proofs.YtiochodepgldpaaDoor
namespace Hit
/-- The elements of the sets whose bits are given. -/
def unionGo : List Nat → Nat → Nat → Nat → Nat
  | [], _, _, acc => acc
  | s :: r, i, sel, acc => unionGo r (i + 1) sel (if sel.testBit i then acc ||| s else acc)
def unionW (ws : List Nat) (sel : Nat) : Nat := unionGo ws 0 sel 0
theorem unionGo_test (ws : List Nat) : ∀ (i sel acc b : Nat), (unionGo ws i sel acc).testBit b = (acc.testBit b || (List.range ws.length).any fun k => sel.testBit (i + k) && (ws.getD k 0).testBit b) := by
  induction ws with
  | nil => intro i sel acc b; simp [unionGo]
  | cons s r ih =>
    intro i sel acc b
    unfold unionGo
    rw [ih, List.length_cons, List.range_succ_eq_map, List.any_cons, List.any_map]
    have e : ((List.range r.length).any fun k => sel.testBit (i + 1 + k) && (r.getD k 0).testBit b) = (List.range r.length).any ((fun k => sel.testBit (i + k) && ((s :: r).getD k 0).testBit b) ∘ Nat.succ) := by
      congr 1
      funext k
      simp only [Function.comp, Nat.succ_eq_add_one, List.getD_cons_succ]
      rw [show i + 1 + k = i + (k + 1) from by omega]
    rw [e, Nat.add_zero, List.getD_cons_zero]
    cases h : sel.testBit i <;> simp [Bool.or_assoc]
theorem unionW_test (ws : List Nat) (sel b : Nat) : (unionW ws sel).testBit b = (List.range ws.length).any fun k => sel.testBit k && (ws.getD k 0).testBit b := by
  unfold unionW
  rw [unionGo_test]
  simp
/-- An element that a set which is not left out has: covered, or of a free set. -/
theorem gap_same (ws : List Nat) (taken out b : Nat) (hd : taken &&& out = 0) :
    ((List.range ws.length).any fun k => !out.testBit k && (ws.getD k 0).testBit b) = ((unionW ws taken).testBit b || (List.range ws.length).any fun k => !(taken ||| out).testBit k && (ws.getD k 0).testBit b) := by
  rw [unionW_test, Bool.eq_iff_iff]
  simp only [Bool.or_eq_true, List.any_eq_true, List.mem_range, Bool.and_eq_true, Bool.not_eq_true']
  constructor
  · rintro ⟨k, hk, h1, h2⟩
    cases ht : taken.testBit k with
    | true => exact .inl ⟨k, hk, ht, h2⟩
    | false => exact .inr ⟨k, hk, by rw [Nat.testBit_or, ht, h1]; rfl, h2⟩
  · rintro (⟨k, hk, h1, h2⟩ | ⟨k, hk, h1, h2⟩)
    · exact ⟨k, hk, (and_zero_iff _ _).1 hd k h1, h2⟩
    · rw [Nat.testBit_or] at h1
      simp at h1
      exact ⟨k, hk, h1.2, h2⟩
theorem union_or (ws : List Nat) (taken p : Nat) (hp : p < ws.length) : unionW ws (taken ||| bit p) = unionW ws taken ||| ws.getD p 0 := ext fun b => by
  rw [Nat.testBit_or, unionW_test, unionW_test, Bool.eq_iff_iff]
  simp only [Bool.or_eq_true, List.any_eq_true, List.mem_range, Bool.and_eq_true, Nat.testBit_or, bit_test, decide_eq_true_eq]
  constructor
  · rintro ⟨k, hk, h1 | h1, h2⟩
    · exact .inl ⟨k, hk, h1, h2⟩
    · subst h1; exact .inr h2
  · rintro (⟨k, hk, h1, h2⟩ | h)
    · exact ⟨k, hk, .inl h1, h2⟩
    · exact ⟨p, hp, .inr rfl, h⟩
theorem disj_or {taken out p : Nat} (h : taken &&& out = 0) (ho : out.testBit p = false) : (taken ||| bit p) &&& out = 0 := (and_zero_iff _ _).2 fun i hi => by
  rw [Nat.testBit_or, bit_test] at hi
  simp at hi
  rcases hi with hi | hi
  · exact (and_zero_iff _ _).1 h i hi
  · subst hi; exact ho
theorem disj_or' {taken out p : Nat} (h : taken &&& out = 0) (ht : taken.testBit p = false) : taken &&& (out ||| bit p) = 0 := by
  rw [Nat.and_comm] at h ⊢
  exact disj_or h ht
/-- The bound of a node at a state. -/
def sumI : List Int → Int
  | [] => 0
  | w :: r => w + sumI r
def weighF (weights : List Int) (s : Nat) : Int := sumI ((members s).map fun k => weights.getD k 0)
def boundF (ws : List Nat) (cs : List Int) (n : Nat) (least : Int) (taken out : Nat) (cost : Int) (x : TNode) : Bool :=
  decide (x.weights.length = n) && (x.weights.all fun w => decide (0 ≤ w) && decide (w ≤ 1000000)) &&
    ((List.range n).all fun i => !(decide (0 < x.weights.getD i 0) && (unionW ws taken).testBit i)) &&
    ((List.range ws.length).all fun i => !(!(taken ||| out).testBit i && decide (cs.getD i 0 < weighF x.weights (ws.getD i 0)))) &&
    decide (x.bound = cost + sumI x.weights) && decide (cost + sumI x.weights ≥ least)
/-- A proof of a least cover: the states of the nodes, and those that are seen. -/
structure CSt where
  taken : Nat
  out : Nat
  cost : Int
def cst0 : CSt := ⟨0, 0, 0⟩
def provesGo (ws : List Nat) (cs : List Int) (n : Nat) (least : Int) (len : Nat) : List TNode → Nat → List CSt → List Bool → Bool
  | [], _, _, _ => true
  | x :: r, i, at_, seen =>
    if seen.getD i false = false then false
    else if x.pick ≥ 0 then
      if x.pick ≥ ws.length ∨ ((at_.getD i cst0).taken ||| (at_.getD i cst0).out).testBit x.pick.toNat = true then false
      else if x.yes ≤ i ∨ x.yes ≥ len ∨ seen.getD x.yes.toNat false = true then false
      else if x.no ≤ i ∨ x.no ≥ len ∨ (seen.set x.yes.toNat true).getD x.no.toNat false = true then false
      else provesGo ws cs n least len r (i + 1)
        ((at_.set x.yes.toNat ⟨(at_.getD i cst0).taken ||| bit x.pick.toNat, (at_.getD i cst0).out, (at_.getD i cst0).cost + cs.getD x.pick.toNat 0⟩).set x.no.toNat ⟨(at_.getD i cst0).taken, (at_.getD i cst0).out ||| bit x.pick.toNat, (at_.getD i cst0).cost⟩)
        ((seen.set x.yes.toNat true).set x.no.toNat true)
    else if x.pick = -1 then boundF ws cs n least (at_.getD i cst0).taken (at_.getD i cst0).out (at_.getD i cst0).cost x && provesGo ws cs n least len r (i + 1) at_ seen
    else if x.pick ≠ -2 ∨ x.bound < 0 ∨ x.bound ≥ n ∨ ((List.range ws.length).any fun k => !(at_.getD i cst0).out.testBit k && (ws.getD k 0).testBit x.bound.toNat) = true then false
    else provesGo ws cs n least len r (i + 1) at_ seen
end Hit
end Go.Proofs.YtiochodepgldpaaDoor
