/- Walks over checker: holds, Plays$1. -/
import Derived.Test.YtnphdmiondccgaaDoorZo
namespace Go.Proofs.YtnphdmiondccgaaDoor
open Go Go.RowKit Go.Shelf
open Pop
/-- What holds answers. -/
def holdsF (notes span : Int) (l : List Int) : Bool := decide ((l.length : Int) ≤ notes) && (decide (l.length = 0) || decide (widF l ≤ span))
theorem holds_one {notes span : Int} (h : 0 ≤ span) (l : List Int) : holdsF notes span l = oneF notes span l := by
  unfold holdsF oneF
  by_cases e : l.length = 0
  · have hl : l = [] := by simpa using e
    subst hl
    have : widF [] = 0 := rfl
    rw [this]
    simp [h]
  · simp [e]
set_option maxRecDepth 100000 in
set_option maxHeartbeats 1000000 in
theorem holds_any (notes span : Int) (F : Nat → Prop) (v : Value) (l : List Int) (w : World) (hF : ∀ b, F b → b < w.heap.size) (h : SlI F w v l) (hs : Sm l) : Calls Tryd.prog 33 #[v, .int .i64 notes, .int .i64 span] w fun e w' => e = .returned (.bool (holdsF notes span l)) ∧ Below w.heap.size w w' := by
  have g1 := hs.getD (l.length - 1)
  have g2 := hs.getD 0
  obtain ⟨A, c, rfl, hc, hlen, hi⟩ := h.open
  obtain ⟨r, hr⟩ : ∃ r, holdsF notes span l = r := ⟨_, rfl⟩
  rw [hr]
  unfold holdsF at hr
  obtain ⟨wd, hwd⟩ : ∃ x, widF l = x := ⟨_, rfl⟩
  have hwd' := hwd
  unfold widF at hwd'
  rw [hwd] at hr
  by_cases hle : (l.length : Int) ≤ notes
  · by_cases h0 : l.length = 0
    · obtain rfl : r = true := by rw [← hr]; simp [h0] at hle ⊢; exact hle
      clear hr hwd hwd' hi g1 g2
      rw [h0] at hc hlen ⊢
      have hle0 : (0 : Int) ≤ notes := by omega
      clear h h0 hs hle
      go_enter Tryd.func33, Tryd.ntmps33
      go_upto_region 1 with fail
      refine wp_region_class54_lit (C := fun w' => ∃ q : Cls54 w, w' = q.w) (by kernel_rfl) (by kernel_rfl) ⟨Cls54.mk' (B0 w).drew, rfl⟩ ?_
      repeat (any_goals (first | go_big_quiet_step (fail) | quiet_step (fail)))
      refine wpQuiet_nil ?_
      rintro _ ⟨q, rfl⟩
      have B2 := Lib.hid q.b
      generalize q.w = w5 at *
      go_wp2_with fail
      go_ret
      exact ⟨rfl, B2.out⟩
    · have hr' : decide (wd ≤ span) = r := by rw [← hr]; simp [hle, h0]
      obtain ⟨n, hn⟩ : ∃ n, l.length = n + 1 := ⟨l.length - 1, by omega⟩
      obtain ⟨ad, rfl, hFa, hc0⟩ := hi 0 (by omega)
      obtain ⟨ad', he, _, hcn⟩ := hi n (by omega)
      cases he
      obtain ⟨x, hx⟩ : ∃ x, l.getD (l.length - 1) 0 = x := ⟨_, rfl⟩
      obtain ⟨y, hy⟩ : ∃ y, l.getD 0 0 = y := ⟨_, rfl⟩
      have ex : l[n]'(by omega) = x := by rw [← hx, show l.length - 1 = n by omega, List.getD_eq_getElem?_getD, List.getElem?_eq_getElem (by omega)]; rfl
      have ey : l[0]'(by omega) = y := by rw [← hy, List.getD_eq_getElem?_getD, List.getElem?_eq_getElem (by omega)]; rfl
      rw [ex] at hcn
      rw [ey] at hc0
      have hz : w.cell? ad = some (.int .i64 y) := by simpa [Addr.add] using hc0
      rw [hx] at g1 hwd'
      rw [hy] at g2 hwd'
      rw [hn] at hlen hc hle ⊢
      obtain ⟨m, hm⟩ : ∃ m, n + 1 = m := ⟨_, rfl⟩
      rw [hm] at hlen hc hle ⊢
      have e1 : IntKind.i64.wrap ((m : Int) - 1) = n := by rw [IntWalk.i64_in _ (by omega)]; omega
      have e2 : IntKind.i64.wrap (x - y) = wd := by rw [IntWalk.i64_in _ (by omega)]; omega
      have e3 : (n : Int) < m := by omega
      have e4 : n < m := by omega
      have e5 : (0 : Int) < m := by omega
      have e6 : 0 < m := by omega
      have e7 : ¬ (m : Int) = 0 := by omega
      have e8 : ¬ m = 0 := by omega
      have hab := hF _ hFa
      have k0 : ∀ q : Cls54 w, q.w.cell? ad = some (.int .i64 y) := fun q => (q.b.cell (p := ad) hab).trans hz
      have k1 : ∀ q : Cls54 w, q.w.cell? (ad.add n) = some (.int .i64 x) := fun q => (q.b.cell (p := ad.add n) (by rw [block_of_add]; exact hab)).trans hcn
      clear hn hm hi hwd hwd' hx hy ex ey hs h h0 hr hc0 hcn hz
      go_enter Tryd.func33, Tryd.ntmps33
      go_upto_region 1 with fail
      refine wp_region_class54_lit (C := fun w' => ∃ q : Cls54 w, w' = q.w) (by kernel_rfl) (by kernel_rfl) ⟨Cls54.mk' (B0 w).drew, rfl⟩ ?_
      repeat (any_goals (first | go_big_quiet_step (fail) | quiet_step (fail)))
      refine wpQuiet_nil ?_
      rintro _ ⟨q, rfl⟩
      have B2 := Lib.hid q.b
      clear k0 k1
      generalize q.w = w5 at *
      go_wp2_with fail
      go_ret
      refine ⟨?_, B2.out⟩
      rw [← hr']
      show Ending.returned (.bool ((m : Int) == 0 || decide (wd ≤ span))) = _
      rw [show ((m : Int) == 0) = false by simpa using e7, Bool.false_or]
  · obtain rfl : r = false := by rw [← hr]; simp [hle]
    obtain ⟨n, hn⟩ : ∃ n, l.length = n := ⟨_, rfl⟩
    rw [hn] at hle ⊢
    clear hr hwd hwd' hi g1 g2 h hs hn hc hlen
    go_enter Tryd.func33, Tryd.ntmps33
    go_upto_region 1 with fail
    refine wp_region_class54_lit (C := fun w' => ∃ q : Cls54 w, w' = q.w) (by kernel_rfl) (by kernel_rfl) ⟨Cls54.mk' (B0 w).drew, rfl⟩ ?_
    repeat (any_goals (first | go_big_quiet_step (fail) | quiet_step (fail)))
    refine wpQuiet_nil ?_
    rintro _ ⟨q, rfl⟩
    have B2 := Lib.hid q.b
    generalize q.w = w5 at *
    go_wp2_with fail
    go_ret
    exact ⟨rfl, B2.out⟩
set_option maxRecDepth 100000 in
theorem plays1_any (hn hs : Int) (B : Nat) (F : Nat → Prop) (v : Value) (l : List Int) (w : World) (hF : ∀ b, F b → b < w.heap.size) (h : SlI F w v l) (hsm : Sm l) (c0 : w.cell? ⟨B, 0, none⟩ = some (.int .i64 hn)) (c1 : w.cell? ⟨B, 1, none⟩ = some (.int .i64 hs)) :
    Calls Tryd.prog 34 #[v, .pointer (some ⟨B, 0, none⟩)] w fun e w' => e = .returned (.bool (holdsF hn hs l)) ∧ Below w.heap.size w w' := by
  have HH := Lib.hid (holds_any hn hs F v l w hF h hsm)
  obtain ⟨A, c, rfl, -, -, -⟩ := h.open
  clear h hsm hF
  go_enter Tryd.func34, Tryd.ntmps34
  go_wp2_with (go_at_call 33; (with_reducible refine (HH.out.mono ?_)); rintro e w2 ⟨rfl, hb2⟩; have B2 := Lib.hid hb2; clear hb2 c0 c1)
  go_ret
  exact ⟨rfl, B2.out⟩
end Go.Proofs.YtnphdmiondccgaaDoor
