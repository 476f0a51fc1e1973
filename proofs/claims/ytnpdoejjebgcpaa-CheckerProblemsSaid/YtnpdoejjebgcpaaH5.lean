/- Walks over hitting: Hits and Reduce. -/
import Derived.Test.YtnpdoejjebgcpaaH4
namespace Go.Proofs.Ytnpdoejjebgcpaa
open Go Go.RowKit
/-- What Hits returns for a right problem and a right list. -/
def hitsV (ws : List Nat) (x : Nat) : Value := if 0 ≤ missF ws x then .tuple #[.int .i64 (missF ws x), .bool false, .int .i64 0] else .tuple #[.int .i64 0, .bool true, .int .i64 0]
theorem hitsV_miss {ws : List Nat} {x : Nat} (h : 0 ≤ missF ws x) : hitsV ws x = .tuple #[.int .i64 (missF ws x), .bool false, .int .i64 0] := if_pos h
theorem hitsV_all {ws : List Nat} {x : Nat} (h : ¬ 0 ≤ missF ws x) : hitsV ws x = .tuple #[.int .i64 0, .bool true, .int .i64 0] := if_neg h
theorem reduce_step (ws : List Nat) (left : Nat) (ns : List Nat) (k : Nat) (h : k < ns.length) : Hit.reduce ws left (ns.take (k + 1)) =
    if Hit.hit ws (Hit.andn (Hit.reduce ws left (ns.take k)) (Hit.bit ns[k])) then Hit.andn (Hit.reduce ws left (ns.take k)) (Hit.bit ns[k]) else Hit.reduce ws left (ns.take k) := by
  unfold Hit.reduce
  rw [List.take_succ_eq_append_getElem h, List.foldl_append]
  rfl
end Go.Proofs.Ytnpdoejjebgcpaa
