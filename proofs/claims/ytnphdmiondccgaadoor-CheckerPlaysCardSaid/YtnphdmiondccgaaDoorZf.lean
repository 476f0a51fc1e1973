/- Walk over span: one. -/
import Derived.Test.YtnphdmiondccgaaDoorZe
namespace Go.Proofs.YtnphdmiondccgaaDoor
open Go Go.RowKit
open Pop
def plV (hn hs fn fs : Int) : Value := .agg #[.int .i64 hn, .int .i64 hs, .int .i64 fn, .int .i64 fs]
def oneF (hn hs : Int) (l : List Int) : Bool := decide ((l.length : Int) ≤ hn) && decide (widF l ≤ hs)
set_option maxRecDepth 100000 in
theorem one_any (hn hs fn fs : Int) (F : Nat → Prop) (v : Value) (l : List Int) (w : World) (hF : ∀ b, F b → b < w.heap.size) (h : SlI F w v l) (hsm : Sm l) : Calls Tryd.prog 28 #[plV hn hs fn fs, v] w fun e w' => e = .returned (.bool (oneF hn hs l)) ∧ Below w.heap.size w w' := by
  unfold plV
  obtain ⟨w1, hw1⟩ : ∃ w1 : World, w.alloc (.cells #[.int .i64 hn, .int .i64 hs, .int .i64 fn, .int .i64 fs] 43) = w1 := ⟨_, rfl⟩
  obtain ⟨b, hb⟩ : ∃ b, w.heap.size = b := ⟨_, rfl⟩
  have C1 : Blk w1 b 43 #[.int .i64 hn, .int .i64 hs, .int .i64 fn, .int .i64 fs] := by rw [← hw1, ← hb]; exact Blk.new _ _ _
  have B1 : Below w.heap.size w w1 := by rw [← hw1]; exact Ba (B0 w) _
  have c0 := C1.cell 0
  have c1 := C1.cell 1
  simp only [List.getElem?_toArray, List.getElem?_cons_zero, List.getElem?_cons_succ] at c0 c1
  have hwd := fun q : Cls54 w1 => width_any F v l q.w (h.keep (Agree.below (Bt B1 q.b) hF)) hsm
  obtain ⟨A, c, rfl, hc, hlen, -⟩ := h.open
  obtain ⟨r, hr⟩ : ∃ r, oneF hn hs l = r := ⟨_, rfl⟩
  rw [hr]
  unfold oneF at hr
  obtain ⟨wd, hwd'⟩ : ∃ x, widF l = x := ⟨_, rfl⟩
  rw [hwd'] at hr hwd
  obtain ⟨n, hn'⟩ : ∃ n, l.length = n := ⟨_, rfl⟩
  rw [hn'] at hr hwd hc hlen ⊢
  have k0 : ∀ q : Cls54 w1, q.w.cell? ⟨b, 0, none⟩ = some (.int .i64 hn) := fun q => (Bc q.b C1.lt).trans c0
  have k1 : ∀ q : Cls54 w1, q.w.cell? ⟨b, 1, none⟩ = some (.int .i64 hs) := fun q => (Bc q.b C1.lt).trans c1
  have HL := Lib.hid (fun q : Cls54 w1 => (show Calls Tryd.prog 65 #[.slice A n c] q.w fun e w' => e = .returned (.int .i64 wd) ∧ ∃ r : Cls54 w1, w' = r.w from (hwd q).mono fun e w' ⟨q1, q2⟩ => ⟨q1, Cls54.mk' (Bt q.b q2), rfl⟩))
  have HB := Lib.hid B1
  have HW1 := Lib.hid hw1
  have HBB := Lib.hid hb
  clear hwd hwd' hn' h hF hsm B1 C1 hw1 hb c0 c1
  by_cases hle : (n : Int) ≤ hn
  · have hr' : decide (wd ≤ hs) = r := by simpa [hle] using hr
    clear hr
    go_enter Tryd.func28, Tryd.ntmps28
    go_upto_region 1 with fail
    rw [HW1.out, HBB.out]
    refine wp_region_class54_lit (C := fun w' => ∃ q : Cls54 w1, w' = q.w) (by kernel_rfl) (by kernel_rfl) ⟨Cls54.mk' (B0 w1).drew, rfl⟩ ?_
    repeat (any_goals (first | go_big_quiet_step (first | (go_at_call 65; with_reducible exact HL.out _)) | quiet_step (first | (go_at_call 65; with_reducible exact HL.out _))))
    refine wpQuiet_nil ?_
    rintro _ ⟨q, rfl⟩
    have B2 := Lib.hid (Bt HB.out q.b)
    clear k0 k1
    generalize q.w = w5 at *
    go_wp2_with fail
    go_ret
    exact ⟨by rw [← hr']; rfl, B2.out⟩
  · obtain rfl : r = false := by simpa [hle] using hr.symm
    clear hr
    go_enter Tryd.func28, Tryd.ntmps28
    go_upto_region 1 with fail
    rw [HW1.out, HBB.out]
    refine wp_region_class54_lit (C := fun w' => ∃ q : Cls54 w1, w' = q.w) (by kernel_rfl) (by kernel_rfl) ⟨Cls54.mk' (B0 w1).drew, rfl⟩ ?_
    repeat (any_goals (first | go_big_quiet_step (first | (go_at_call 65; with_reducible exact HL.out _)) | quiet_step (first | (go_at_call 65; with_reducible exact HL.out _))))
    refine wpQuiet_nil ?_
    rintro _ ⟨q, rfl⟩
    have B2 := Lib.hid (Bt HB.out q.b)
    clear k0 k1
    generalize q.w = w5 at *
    go_wp2_with fail
    go_ret
    exact ⟨rfl, B2.out⟩
end Go.Proofs.YtnphdmiondccgaaDoor
