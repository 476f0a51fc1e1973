/- Plain: the hitting sets: search, proof trees, lists in order, disjoint lists, words of problems, covers. Plain: the number of bits, byte by byte; the lowest bit. -/
import Derived.Test.YtnfpjcjlapljjaaGreatDoorHit
import Derived.Lib.BitFns
import Derived.Lib.Tables
import Derived.Lib.TrailingZeros
/- Plain: the search returns the first list that hits all sets, and the first shortest one. -/
namespace Go.Proofs.YtnfpjcjlapljjaaGreatDoor
namespace Hit
/-- In lexicographic order, a part before the whole. -/
def LexLe : List Nat → List Nat → Prop
  | [], _ => True
  | _ :: _, [] => False
  | x :: a, y :: b => x < y ∨ (x = y ∧ LexLe a b)
theorem LexLe.refl : ∀ a, LexLe a a
  | [] => trivial
  | _ :: a => .inr ⟨rfl, LexLe.refl a⟩
/-- Further numbers that hit all sets. -/
structure Ok (ws : List Nat) (taken n size : Nat) (most : Int) (X : List Nat) : Prop where
  inc : Inc X
  lo : ∀ x ∈ X, n ≤ x ∧ x < size
  len : (X.length : Int) ≤ most
  hits : hit ws (taken ||| word X) = true
theorem word_cons (x : Nat) (l : List Nat) : word (x :: l) = bit x ||| word l := ext fun i => by
  rw [word_test, Nat.testBit_or, bit_test, word_test, List.contains_cons]
  by_cases h : x = i
  · subst h; simp
  · have : (i == x) = false := by simp; exact fun e => h e.symm
    simp [h, this]
/-- What a search owes. -/
def Spec (ws : List Nat) (size : Nat) (r : Option Nat) (taken n : Nat) (most : Int) : Prop :=
  match r with
  | some w => ∃ X, Ok ws taken n size most X ∧ w = taken ||| word X ∧ ∀ Y, Ok ws taken n size most Y → LexLe X Y
  | none => ∀ X, ¬ Ok ws taken n size most X
theorem Ok.cons {ws : List Nat} {taken n size : Nat} {most : Int} {X : List Nat} (h : Ok ws (taken ||| bit n) (n + 1) size (most - 1) X) (hn : n < size) : Ok ws taken n size most (n :: X) :=
  ⟨⟨fun y hy => by have := (h.lo y hy).1; omega, h.inc⟩, fun x hx => by
    simp only [List.mem_cons] at hx
    rcases hx with rfl | hx
    · omega
    · have := h.lo x hx; omega,
   by have := h.len; simp only [List.length_cons]; omega, by rw [word_cons, ← Nat.or_assoc]; exact h.hits⟩
theorem Ok.up {ws : List Nat} {taken n size : Nat} {most : Int} {X : List Nat} (h : Ok ws taken (n + 1) size most X) : Ok ws taken n size most X :=
  ⟨h.inc, fun x hx => by have := h.lo x hx; omega, h.len, h.hits⟩
/-- The first shortest list, as bits. -/
def leastGo (ws : List Nat) (size : Nat) : Nat → Nat → Nat
  | 0, k => (srch ws size 0 0 (k : Int)).getD 0
  | f + 1, k => match srch ws size 0 0 (k : Int) with
    | some w => w
    | none => leastGo ws size f (k + 1)
def least (ws : List Nat) (size : Nat) : Nat := leastGo ws size size 0
end Hit
end Go.Proofs.YtnfpjcjlapljjaaGreatDoor
/- Plain: proof trees: how they are made, and how the reference reads them. -/
namespace Go.Proofs.YtnfpjcjlapljjaaGreatDoor
namespace Hit
structure TNode where
  pick : Int
  yes : Int
  no : Int
  bound : Int
  weights : List Int
deriving DecidableEq
def pop (w : Nat) : Nat := (members w).length
/-- The numbers less than n that are not in w. -/
def free (n w : Nat) : Nat := ((List.range n).filter fun i => !w.testBit i).length
end Hit
end Go.Proofs.YtnfpjcjlapljjaaGreatDoor
/- Plain: the tree that is made is a proof tree to the reference. -/
namespace Go.Proofs.YtnfpjcjlapljjaaGreatDoor
namespace Hit
/-- Arrays that are the same but for places from a to less than b. -/
def Same (a b : Nat) (tk ot : List Nat) (re : List Bool) (tk' ot' : List Nat) (re' : List Bool) : Prop :=
  (tk'.length = tk.length ∧ ot'.length = ot.length ∧ re'.length = re.length) ∧ ∀ j, j < a ∨ b ≤ j → tk'.getD j 0 = tk.getD j 0 ∧ ot'.getD j 0 = ot.getD j 0 ∧ re'.getD j false = re.getD j false
end Hit
end Go.Proofs.YtnfpjcjlapljjaaGreatDoor
/- Plain: all irreducible lists in order; the first one is the least one. -/
namespace Go.Proofs.YtnfpjcjlapljjaaGreatDoor
namespace Hit
def lexLt : List Nat → List Nat → Bool
  | x :: a, y :: b => if x ≠ y then decide (x < y) else lexLt a b
  | _, _ => false
/-- Shorter ones come first. -/
def before (a b : List Nat) : Bool := if a.length ≠ b.length then decide (a.length < b.length) else lexLt a b
end Hit
end Go.Proofs.YtnfpjcjlapljjaaGreatDoor
/- Plain: the most disjoint sets, and the first list of them. -/
namespace Go.Proofs.YtnfpjcjlapljjaaGreatDoor
namespace Hit
end Hit
end Go.Proofs.YtnfpjcjlapljjaaGreatDoor
/- Plain: the verifier accepts what the reference calls a proof tree. -/
namespace Go.Proofs.YtnfpjcjlapljjaaGreatDoor
namespace Hit
def wsI (ws : List Nat) (i : Int) : Nat := ws.getD i.toNat 0
/-- The verifier's test of a leaf. -/
def leafGo (ws : List Nat) (size : Int) (len taken out : Nat) : List Int → List Int → Nat → Bool
  | _, [], _ => decide ((len : Int) + pop taken ≥ size)
  | prev, i :: r, used =>
    if i < 0 ∨ i ≥ ws.length ∨ wsI ws i &&& taken ≠ 0 ∨ prev.contains i = true then false
    else if andn (wsI ws i) out = 0 ∧ len = 1 then true
    else if andn (wsI ws i) out &&& used ≠ 0 then false
    else leafGo ws size len taken out (prev ++ [i]) r (used ||| andn (wsI ws i) out)
def leafP (ws : List Nat) (size : Int) (l : List Int) (taken out : Nat) : Bool := leafGo ws size l.length taken out [] l 0
def node0 : TNode := ⟨0, 0, 0, 0, []⟩
/-- A node is right, with all below it: the places that are seen. -/
def rightF (ws : List Nat) (n : Nat) (size : Int) (t : List TNode) : Nat → Nat → Nat → Nat → List Bool → Option (List Bool)
  | 0, _, _, _, _ => none
  | d + 1, at_, taken, out, seen =>
    if seen.getD at_ false = true then none
    else
      let x := t.getD at_ node0
      if x.yes = 0 ∧ x.no = 0 then (if leafP ws size x.weights taken out then some (seen.set at_ true) else none)
      else if x.pick < 0 ∨ x.pick ≥ n ∨ (taken ||| out).testBit x.pick.toNat = true ∨ x.yes ≤ at_ ∨ x.no ≤ at_ ∨ x.yes ≥ t.length ∨ x.no ≥ t.length then none
      else match rightF ws n size t d x.yes.toNat (taken ||| bit x.pick.toNat) out (seen.set at_ true) with
        | none => none
        | some s => rightF ws n size t d x.no.toNat taken (out ||| bit x.pick.toNat) s
end Hit
end Go.Proofs.YtnfpjcjlapljjaaGreatDoor
/- Plain: the errors of lists and problems; right lists are the members of words. -/
namespace Go.Proofs.YtnfpjcjlapljjaaGreatDoor
namespace Hit
def ints (l : List Nat) : List Int := l.map fun x : Nat => (x : Int)
end Hit
end Go.Proofs.YtnfpjcjlapljjaaGreatDoor
/- Plain: the checker's verifier is the verifier; what the laws on Prove, Verify and Hits owe. -/
namespace Go.Proofs.YtnfpjcjlapljjaaGreatDoor
namespace Hit
end Hit
end Go.Proofs.YtnfpjcjlapljjaaGreatDoor
/- Plain: the proofs of covers: the checker's reading and layer 10's are one. -/
namespace Go.Proofs.YtnfpjcjlapljjaaGreatDoor
namespace Hit
end Hit
end Go.Proofs.YtnfpjcjlapljjaaGreatDoor
namespace Go.Proofs.YtnfpjcjlapljjaaGreatDoor
namespace Hit
end Hit
end Go.Proofs.YtnfpjcjlapljjaaGreatDoor
