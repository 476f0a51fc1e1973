/- Plain: proof trees: how they are made, and how the reference reads them. -/
import Derived.Test.YtiochodepgldpaaDoorHitB
namespace Go.Proofs.YtiochodepgldpaaDoor
namespace Hit
structure TNode where
  pick : Int
  yes : Int
  no : Int
  bound : Int
  weights : List Int
deriving DecidableEq
def pop (w : Nat) : Nat := (members w).length
/-- The lowest bit's place. -/
def tz (w : Nat) : Nat := (members w).headD 0
/-- The first set that is not hit and has no number left, or the first least rest of the others; 0 if there is none. -/
def bestGo : List Nat → Nat → Nat → Nat → Nat → Sum Nat Nat
  | [], _, _, _, best => .inr best
  | s :: r, i, taken, out, best =>
    if s &&& taken ≠ 0 then bestGo r (i + 1) taken out best
    else if andn s out = 0 then .inl i
    else bestGo r (i + 1) taken out (if best = 0 ∨ pop (andn s out) < pop best then andn s out else best)
def leafN (l : List Nat) : TNode := ⟨0, 0, 0, 0, l.map fun x : Nat => (x : Int)⟩
def nodeF (ws : List Nat) (size : Int) : Nat → Nat → Nat → Nat → List TNode
  | 0, _, _, _ => []
  | d + 1, at_, taken, out => match bestGo ws 0 taken out 0 with
    | .inl i => [leafN [i]]
    | .inr best =>
      if ((apart ws taken out).length : Int) + pop taken ≥ size ∨ best = 0 then [leafN (apart ws taken out)]
      else
        let ys := nodeF ws size d (at_ + 1) (taken ||| bit (tz best)) out
        let ns := nodeF ws size d (at_ + 1 + ys.length) taken (out ||| bit (tz best))
        ⟨tz best, (at_ + 1 : Nat), (at_ + 1 + ys.length : Nat), 0, []⟩ :: (ys ++ ns)
/-- The reference's test of a leaf, and of a list of nodes. -/
def apartR (ws : List Nat) (l : List Int) (out : Nat) : Bool :=
  (List.range l.length).all fun i => (List.range i).all fun k => l.getD i 0 != l.getD k 0 && andn (ws.getD (l.getD i 0).toNat 0 &&& ws.getD (l.getD k 0).toNat 0) out == 0
def leafR (ws : List Nat) (size : Int) (l : List Int) (taken out : Nat) : Bool :=
  (l.all fun i => decide (0 ≤ i) && decide (i < ws.length) && (ws.getD i.toNat 0 &&& taken == 0)) &&
    ((l.length == 1 && andn (ws.getD (l.headD 0).toNat 0) out == 0) || (apartR ws l out && decide ((pop taken : Int) + l.length ≥ size)))
def treeGo (ws : List Nat) (n : Nat) (size : Int) (len : Nat) : List TNode → Nat → List Nat → List Nat → List Bool → Bool
  | [], _, _, _, _ => true
  | x :: r, i, tk, ot, re =>
    if re.getD i false = false then treeGo ws n size len r (i + 1) tk ot re
    else if x.yes = 0 ∧ x.no = 0 then leafR ws size x.weights (tk.getD i 0) (ot.getD i 0) && treeGo ws n size len r (i + 1) tk ot re
    else if x.yes ≤ i ∨ x.no ≤ i ∨ x.yes ≥ len ∨ x.no ≥ len ∨ x.yes = x.no ∨ re.getD x.yes.toNat false = true ∨ re.getD x.no.toNat false = true then false
    else if x.pick < 0 ∨ x.pick ≥ n ∨ (tk.getD i 0 ||| ot.getD i 0).testBit x.pick.toNat = true then false
    else treeGo ws n size len r (i + 1)
      ((tk.set x.yes.toNat (tk.getD i 0 ||| bit x.pick.toNat)).set x.no.toNat (tk.getD i 0))
      ((ot.set x.yes.toNat (ot.getD i 0)).set x.no.toNat (ot.getD i 0 ||| bit x.pick.toNat))
      ((re.set x.yes.toNat true).set x.no.toNat true)
def treeF (ws : List Nat) (n : Nat) (size : Int) (t : List TNode) : Bool :=
  treeGo ws n size t.length t 0 (List.replicate t.length 0) (List.replicate t.length 0) ((List.replicate t.length false).set 0 true)
/-- The numbers less than n that are not in w. -/
def free (n w : Nat) : Nat := ((List.range n).filter fun i => !w.testBit i).length
def exWs : List Nat := [3, 6, 5]
theorem ex_least : members (least exWs 3) = [0, 1] := by decide +kernel
theorem ex_reduce : members (reduce exWs 7 [0, 1, 2]) = [1, 2] := by decide +kernel
theorem ex_count : ((List.range 8).filter fun w => hit exWs w).length = 4 := by decide +kernel
theorem ex_tree : treeF exWs 3 2 (nodeF exWs 2 4 0 0 0) = true := by decide +kernel
theorem ex_len : (nodeF exWs 2 4 0 0 0).length ≠ 0 := by decide +kernel
end Hit
end Go.Proofs.YtiochodepgldpaaDoor
