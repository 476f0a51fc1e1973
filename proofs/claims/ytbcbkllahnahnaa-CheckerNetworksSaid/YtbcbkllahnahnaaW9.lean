/- Walks: the statement's known. -/
import Derived.Test.YtbcbkllahnahnaaW8
namespace Go.Proofs.Ytbcbkllahnahnaa
open Go Go.RowKit

set_option maxRecDepth 100000 in
set_option maxHeartbeats 4000000 in
theorem known_any (w : World) : Calls Try.prog 4 #[] w fun e w' => e = .returned (.bool true) ∧ Below w.heap.size w w' := by
  go_enter Try.func4, Try.ntmps4
  go_wp2_with fail
  refine (divides_none w.heap.size _ (by simp; omega) (by simp [go_sem])).mono ?_
  rintro e w1 ⟨rfl, hb1⟩
  have B1 : Below w.heap.size w w1 := Bt (Ba (Ba (B0 w) _) _) hb1
  clear hb1
  go_wp2_with fail
  refine (gatesA _).mono ?_
  rintro e w2 ⟨ga, oa, rfl, ha, hb2⟩
  go_wp2_with fail
  refine (gatesB _).mono ?_
  rintro e w3 ⟨gb, ob, rfl, hb, hb3⟩
  have ha3 := (ha.keep (Agree.below hb3 fun x hx => hx.2)).mono (G := fun x => x < w3.heap.size) fun x hx => Nat.lt_of_lt_of_le hx.2 hb3.size
  have hb3' := hb.mono (G := fun x => x < w3.heap.size) fun x hx => hx.2
  have H3 := Lib.hid (same_any 2 (by omega) ga oa gb ob netA netB w3 (fun x => x < w3.heap.size) (fun x hx => hx) ha3 hb3' (by decide))
  have B3 : Below w.heap.size w w3 := Bt (Bt B1 hb2) hb3
  clear ha hb hb2 hb3 ha3 hb3'
  go_wp2_with fail
  refine H3.out.mono ?_
  rw [sameAB]
  rintro e w4 ⟨rfl, hb4⟩
  have B4 : Below w.heap.size w w4 := Bt B3 hb4
  clear hb4 B3 B1 H3
  go_wp2_with fail
  refine (gatesA _).mono ?_
  rintro e w5 ⟨gc, oc, rfl, hc, hb5⟩
  go_wp2_with fail
  refine (gatesB _).mono ?_
  rintro e w6 ⟨gd, od, rfl, hd, hb6⟩
  have hc6 := (hc.keep (Agree.below hb6 fun x hx => hx.2)).mono (G := fun x => x < w6.heap.size) fun x hx => Nat.lt_of_lt_of_le hx.2 hb6.size
  have hd6 := hd.mono (G := fun x => x < w6.heap.size) fun x hx => hx.2
  have H6 := Lib.hid (same_any 1 (by omega) gc oc gd od netA netB w6 (fun x => x < w6.heap.size) (fun x hx => hx) hc6 hd6 (by decide))
  have B6 : Below w.heap.size w w6 := Bt (Bt B4 hb5) hb6
  clear hc hd hb5 hb6 hc6 hd6 B4
  go_wp2_with fail
  refine H6.out.mono ?_
  rw [sameAB1]
  rintro e w7 ⟨rfl, hb7⟩
  have B7 : Below w.heap.size w w7 := Bt B6 hb7
  clear hb7 B6 H6
  go_wp2_with fail
  go_ret
  exact ⟨rfl, B7⟩
end Go.Proofs.Ytbcbkllahnahnaa
