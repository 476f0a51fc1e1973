/- Words for the statements of hitting over a plan: what its problem's functions return. Words for the statements of hitting: the problem of Make; the first of the reference's lists. -/
import Derived.Test.YtnpdoejjebgcpaaAb
import Derived.Test.YtnpdoejjebgcpaaVc
import Derived.Test.YtnpdoejjebgcpaaHM
namespace Go.Proofs.Ytnpdoejjebgcpaa
open Go Go.RowKit
namespace Prob
variable {n : Nat} {v : Value} {ws : List Nat} {B : Nat} {w W : World}
theorem node_short (h8 : n ≤ 8) (size : Int) : 0 < (Hit.nodeF ws size (n + 1) 0 0 0).length ∧ (Hit.nodeF ws size (n + 1) 0 0 0).length ≤ 512 := by
  have h1 := Hit.node_len ws size (n + 1) 0 0 0
  have h2 : 2 ^ (n + 1) ≤ 2 ^ 9 := Nat.pow_le_pow_right (by decide) (by omega)
  exact ⟨Hit.nodeF_pos ws size n 0 0 0, by omega⟩
/-- The tree for a size. -/
abbrev tr (ws : List Nat) (n : Nat) (size : Int) : List Hit.TNode := Hit.nodeF ws size (n + 1) 0 0 0
end Prob
end Go.Proofs.Ytnpdoejjebgcpaa
namespace Go.Proofs.Ytnpdoejjebgcpaa
open Go Go.RowKit
end Go.Proofs.Ytnpdoejjebgcpaa
