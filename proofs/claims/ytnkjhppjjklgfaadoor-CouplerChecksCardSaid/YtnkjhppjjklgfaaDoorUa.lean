/- Walks over coupler: Matrix, Back, Idle of an action that is not right. -/
import Derived.Test.YtnkjhppjjklgfaaDoorKi
namespace Go.Proofs.YtnkjhppjjklgfaaDoor
open Go Go.RowKit Go.Shelf
set_option maxRecDepth 100000 in
set_option maxHeartbeats 1000000 in
theorem Matrix_bad (a : Cou.Ac) (vd vc : Value) (hdr : a.drawn < 2 ^ 64) (hr : Cou.rightF a ≠ 0) (w : World) (F : Nat → Prop) (hA : AcAt F w vd vc a) :
    Calls Tryd.prog 19 #[.agg #[vd, vc, .int .u64 a.drawn]] w fun e w' => e = .returned (.tuple #[.slice none 0 0, .int .i64 (Cou.rightF a)]) ∧ Below w.heap.size w w' := by
  obtain ⟨w1, hw1⟩ : ∃ w1 : World, w.alloc (.cells #[vd, vc, .int .u64 a.drawn] 34) = w1 := ⟨_, rfl⟩
  obtain ⟨B, hBB⟩ : ∃ B, w.heap.size = B := ⟨_, rfl⟩
  have AB : Blk w1 B 34 #[vd, vc, .int .u64 a.drawn] := by rw [← hw1, ← hBB]; exact Blk.new _ _ _
  have B1 : Below w.heap.size w w1 := by rw [← hw1]; exact Ba (B0 w) _
  have HRT := Lib.hid (right_any a vd vc hdr w1 F (hA.onB hA.inW B1))
  have x0 := AB.cell 0
  have x1 := AB.cell 1
  have x2 := AB.cell 2
  simp only [List.getElem?_toArray, List.getElem?_cons_zero, List.getElem?_cons_succ] at x0 x1 x2
  have d1 : (Cou.rightF a != 0) = true := by simpa using hr
  have HB1 := Lib.hid B1
  have HW1 := Lib.hid hw1
  have HBB := Lib.hid hBB
  clear hA AB B1 hw1 hBB hr
  generalize Cou.rightF a = er at *
  go_enter Tryd.func19, Tryd.ntmps19
  go_upto_region 1 with fail
  rw [HW1.out, HBB.out]
  go_wp2_with (go_at_call 35; (with_reducible refine (HRT.out.mono ?_)); rintro e w2 ⟨rfl, hb2⟩; have HB2 := Lib.hid hb2; clear hb2)
  go_ret2
  exact ⟨rfl, Bt HB1.out HB2.out⟩
set_option maxRecDepth 100000 in
set_option maxHeartbeats 1000000 in
theorem Back_bad (a : Cou.Ac) (vd vc : Value) (hdr : a.drawn < 2 ^ 64) (hr : Cou.rightF a ≠ 0) (w : World) (F : Nat → Prop) (hA : AcAt F w vd vc a) :
    Calls Tryd.prog 20 #[.agg #[vd, vc, .int .u64 a.drawn]] w fun e w' => e = .returned (.tuple #[.slice none 0 0, .int .i64 (Cou.rightF a)]) ∧ Below w.heap.size w w' := by
  obtain ⟨w1, hw1⟩ : ∃ w1 : World, w.alloc (.cells #[vd, vc, .int .u64 a.drawn] 34) = w1 := ⟨_, rfl⟩
  obtain ⟨B, hBB⟩ : ∃ B, w.heap.size = B := ⟨_, rfl⟩
  have AB : Blk w1 B 34 #[vd, vc, .int .u64 a.drawn] := by rw [← hw1, ← hBB]; exact Blk.new _ _ _
  have B1 : Below w.heap.size w w1 := by rw [← hw1]; exact Ba (B0 w) _
  have HRT := Lib.hid (right_any a vd vc hdr w1 F (hA.onB hA.inW B1))
  have x0 := AB.cell 0
  have x1 := AB.cell 1
  have x2 := AB.cell 2
  simp only [List.getElem?_toArray, List.getElem?_cons_zero, List.getElem?_cons_succ] at x0 x1 x2
  have d1 : (Cou.rightF a != 0) = true := by simpa using hr
  have HB1 := Lib.hid B1
  have HW1 := Lib.hid hw1
  have HBB := Lib.hid hBB
  clear hA AB B1 hw1 hBB hr
  generalize Cou.rightF a = er at *
  go_enter Tryd.func20, Tryd.ntmps20
  go_upto_region 1 with fail
  rw [HW1.out, HBB.out]
  go_wp2_with (go_at_call 35; (with_reducible refine (HRT.out.mono ?_)); rintro e w2 ⟨rfl, hb2⟩; have HB2 := Lib.hid hb2; clear hb2)
  go_ret2
  exact ⟨rfl, Bt HB1.out HB2.out⟩
set_option maxRecDepth 100000 in
set_option maxHeartbeats 1000000 in
theorem Idle_bad (a : Cou.Ac) (vd vc : Value) (hdr : a.drawn < 2 ^ 64) (hr : Cou.rightF a ≠ 0) (w : World) (F : Nat → Prop) (hA : AcAt F w vd vc a) :
    Calls Tryd.prog 21 #[.agg #[vd, vc, .int .u64 a.drawn]] w fun e w' => e = .returned (.tuple #[.slice none 0 0, .int .i64 (Cou.rightF a)]) ∧ Below w.heap.size w w' := by
  obtain ⟨w1, hw1⟩ : ∃ w1 : World, w.alloc (.cells #[vd, vc, .int .u64 a.drawn] 34) = w1 := ⟨_, rfl⟩
  obtain ⟨B, hBB⟩ : ∃ B, w.heap.size = B := ⟨_, rfl⟩
  have AB : Blk w1 B 34 #[vd, vc, .int .u64 a.drawn] := by rw [← hw1, ← hBB]; exact Blk.new _ _ _
  have B1 : Below w.heap.size w w1 := by rw [← hw1]; exact Ba (B0 w) _
  have HRT := Lib.hid (right_any a vd vc hdr w1 F (hA.onB hA.inW B1))
  have x0 := AB.cell 0
  have x1 := AB.cell 1
  have x2 := AB.cell 2
  simp only [List.getElem?_toArray, List.getElem?_cons_zero, List.getElem?_cons_succ] at x0 x1 x2
  have d1 : (Cou.rightF a != 0) = true := by simpa using hr
  have HB1 := Lib.hid B1
  have HW1 := Lib.hid hw1
  have HBB := Lib.hid hBB
  clear hA AB B1 hw1 hBB hr
  generalize Cou.rightF a = er at *
  go_enter Tryd.func21, Tryd.ntmps21
  go_upto_region 1 with fail
  rw [HW1.out, HBB.out]
  go_wp2_with (go_at_call 35; (with_reducible refine (HRT.out.mono ?_)); rintro e w2 ⟨rfl, hb2⟩; have HB2 := Lib.hid hb2; clear hb2)
  go_ret2
  exact ⟨rfl, Bt HB1.out HB2.out⟩
end Go.Proofs.YtnkjhppjjklgfaaDoor
