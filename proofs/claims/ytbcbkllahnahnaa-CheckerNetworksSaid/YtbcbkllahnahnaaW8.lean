/- Walks: Divides at the empty partition; the statement's known. -/
import Derived.Test.YtbcbkllahnahnaaW7
import Derived.BigQuiet
import Derived.BigGuardPart
namespace Go.Proofs.Ytbcbkllahnahnaa
open Go Go.RowKit

theorem wp_region_class_lit {P : Program} {C : World → Prop} {id : Nat} {Q : Exit → Act → World → Prop} {a : Act} {w : World} {l : List Oper} (hm : P.follows .mixedOrders = true) (hB : Region.lexB .any l.toArray = true) (hC : C { w with drawn := w.drawn + 1 })
    (h : wpQuiet P l.toArray C (fun a' => ∀ w', C w' → Q .normal a' w') l a) : (Code.region id l.toArray true).wp P Q a w :=
  wp_region_quiet (C := C) hm hB hC (by simpa using h)
/-- The worlds that leave all that was in w1. -/
def Cls (w1 : World) : Type := { x : World // Below w1.heap.size w1 x }
def Cls.w {w1 : World} (q : Cls w1) : World := q.1
theorem Cls.b {w1 : World} (q : Cls w1) : Below w1.heap.size w1 q.w := q.2
def Cls.mk' {w1 w : World} (h : Below w1.heap.size w1 w) : Cls w1 := ⟨w, h⟩
instance (w1 : World) : Nonempty (Cls w1) := ⟨⟨w1, Below.refl _ _⟩⟩

set_option maxRecDepth 2000000 in
set_option maxHeartbeats 4000000 in
theorem divides_none (b : Nat) (w : World) (hb : b < w.heap.size) (hc : w.cell? ⟨b, 0, none⟩ = some (.int .i64 0)) :
    Calls Try.prog 9 #[.agg #[.slice none 0 0, .slice none 0 0, .slice none 0 0, .int .i64 0, .slice (some ⟨b, 0, none⟩) 1 1]] w fun e w' => e = .returned (.bool true) ∧ Below w.heap.size w w' := by
  have hw : ∀ W, w.heap.size < W.heap.size → Below w.heap.size w W → Calls Try.prog 11 #[.int .i64 0, .int .i64 100000, .slice (some ⟨b, 0, none⟩) 1 1] W fun e w' => e = .returned (.bool true) ∧ Below W.heap.size W w' := fun W hs h =>
    within_any 0 100000 _ [0] W (fun x => x = b) (by rintro x rfl; omega) (SlI.one ((Bc h hb).trans hc) rfl)
  have hv : ∀ W, Below w.heap.size w W → Calls Try.prog 18 #[.agg #[.slice none 0 0, .slice none 0 0, .slice none 0 0, .int .i64 0, .slice (some ⟨b, 0, none⟩) 1 1]] W fun e w' => e = .returned (.bool true) ∧ Below W.heap.size W w' := fun W h =>
    valid_none b W (Nat.lt_of_lt_of_le hb h.size) ((Bc h hb).trans hc)
  have HW := Lib.hid hw
  have HV := Lib.hid hv
  clear hw hv
  go_enter Try.func9, Try.ntmps9
  go_wp2_with fail
  obtain ⟨w1, hw1⟩ : ∃ w1 : World, w.alloc (.cells #[.slice none 0 0, .slice none 0 0, .slice none 0 0, .int .i64 0, .slice (some ⟨b, 0, none⟩) 1 1] 44) = w1 := ⟨_, rfl⟩
  have c0 : w1.cell? ⟨w.heap.size, 0, none⟩ = some (.slice none 0 0) := by rw [← hw1]; simp [go_sem]
  have c1 : w1.cell? ⟨w.heap.size, 1, none⟩ = some (.slice none 0 0) := by rw [← hw1]; simp [go_sem]
  have c2 : w1.cell? ⟨w.heap.size, 2, none⟩ = some (.slice none 0 0) := by rw [← hw1]; simp [go_sem]
  have c3 : w1.cell? ⟨w.heap.size, 3, none⟩ = some (.int .i64 0) := by rw [← hw1]; simp [go_sem]
  have c4 : w1.cell? ⟨w.heap.size, 4, none⟩ = some (.slice (some ⟨b, 0, none⟩) 1 1) := by rw [← hw1]; simp [go_sem]
  have cb : w1.cell? ⟨b, 0, none⟩ = some (.int .i64 0) := by rw [← hw1, World.cell?_alloc_past _ _ _ hb]; exact hc
  have s1 : w.heap.size < w1.heap.size := by rw [← hw1]; simp
  have B1 : Below w.heap.size w w1 := by rw [← hw1]; exact Ba (B0 w) _
  rw [hw1]
  clear hw1
  have sb : b < w1.heap.size := by omega
  have k0 : ∀ q : Cls w1, q.w.cell? ⟨w.heap.size, 0, none⟩ = some (.slice none 0 0) := fun q => (Bc q.b s1).trans c0
  have k1 : ∀ q : Cls w1, q.w.cell? ⟨w.heap.size, 1, none⟩ = some (.slice none 0 0) := fun q => (Bc q.b s1).trans c1
  have k2 : ∀ q : Cls w1, q.w.cell? ⟨w.heap.size, 2, none⟩ = some (.slice none 0 0) := fun q => (Bc q.b s1).trans c2
  have k3 : ∀ q : Cls w1, q.w.cell? ⟨w.heap.size, 3, none⟩ = some (.int .i64 0) := fun q => (Bc q.b s1).trans c3
  have k4 : ∀ q : Cls w1, q.w.cell? ⟨w.heap.size, 4, none⟩ = some (.slice (some ⟨b, 0, none⟩) 1 1) := fun q => (Bc q.b s1).trans c4
  have kb : ∀ q : Cls w1, q.w.cell? ⟨b, 0, none⟩ = some (.int .i64 0) := fun q => (Bc q.b sb).trans cb
  have hcall : ∀ q : Cls w1, Calls Try.prog 11 #[.int .i64 0, .int .i64 100000, .slice (some ⟨b, 0, none⟩) 1 1] q.w fun e w' => e = .returned (.bool true) ∧ ∃ r : Cls w1, w' = r.w := fun q =>
    (HW.out q.w (Nat.lt_of_lt_of_le s1 q.b.size) (Bt B1 q.b)).mono fun e w' ⟨q1, q2⟩ => ⟨q1, Cls.mk' (Bt q.b q2), rfl⟩
  have B1H := Lib.hid B1
  have HCL := Lib.hid hcall
  clear s1 hb B1 c0 c1 c2 c3 c4 cb sb hcall
  refine wp_region_class_lit (C := fun w' => ∃ q : Cls w1, w' = q.w) (by kernel_rfl) (by kernel_rfl) ⟨Cls.mk' (B0 w1).drew, rfl⟩ ?_
  repeat (any_goals (first | go_big_quiet_step ((go_at_call 11; exact HCL.out _)) | quiet_step ((go_at_call 11; exact HCL.out _))))
  refine wpQuiet_nil ?_
  rintro _ ⟨q, rfl⟩
  have c0 := k0 q
  have c1 := k1 q
  have c2 := k2 q
  have c3 := k3 q
  have c4 := k4 q
  have B2 := Lib.hid (Bt B1H.out q.b)
  clear k0 k1 k2 k3 k4 kb
  generalize q.w = w5 at *
  go_wp2_with fail
  refine wp_loop_rounds 1 ?_
  rw [rounds_succ]
  go_wp2_with fail
  refine wp_loop_rounds 1 ?_
  rw [rounds_succ]
  go_wp2_with (go_at_call 18; refine (HV.out _ B2.out).mono ?_; rintro e w6 ⟨rfl, hb6⟩)
  go_ret
  exact ⟨rfl, Bt B2.out hb6⟩
end Go.Proofs.Ytbcbkllahnahnaa
