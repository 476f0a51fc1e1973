/- Walks over span: width, one. -/
import Derived.Test.YtnphdmiondccgaaDoorZd
namespace Go.Proofs.YtnphdmiondccgaaDoor
open Go Go.RowKit
open Pop
/-- The last less the first; 0 of none. -/
def widF (l : List Int) : Int := l.getD (l.length - 1) 0 - l.getD 0 0
def Sm (l : List Int) : Prop := ∀ x ∈ l, 0 ≤ x ∧ x ≤ 127
theorem Sm.getD {l : List Int} (h : Sm l) (i : Nat) : 0 ≤ l.getD i 0 ∧ l.getD i 0 ≤ 127 := by
  rw [List.getD_eq_getElem?_getD]
  cases e : l[i]? with
  | none => simp
  | some x => exact h x (List.mem_of_getElem? e)
theorem Sm.wid {l : List Int} (h : Sm l) : -127 ≤ widF l ∧ widF l ≤ 127 := by
  have h1 := h.getD (l.length - 1)
  have h2 := h.getD 0
  unfold widF
  omega
set_option maxRecDepth 100000 in
theorem width_any (F : Nat → Prop) (v : Value) (l : List Int) (w : World) (h : SlI F w v l) (hs : Sm l) : Calls Tryd.prog 65 #[v] w fun e w' => e = .returned (.int .i64 (widF l)) ∧ Below w.heap.size w w' := by
  have g1 := hs.getD (l.length - 1)
  have g2 := hs.getD 0
  obtain ⟨A, c, rfl, hc, hlen, hi⟩ := h.open
  obtain ⟨wd, hwd⟩ : ∃ x, widF l = x := ⟨_, rfl⟩
  have hwd' := hwd
  unfold widF at hwd'
  rw [hwd]
  by_cases h0 : l.length = 0
  · have hl : l = [] := by simpa using h0
    subst hl
    obtain rfl : wd = 0 := by rw [← hwd]; rfl
    clear hwd hwd' hi
    simp only [List.length_nil]
    go_enter Tryd.func65, Tryd.ntmps65
    go_wp2_with fail
    go_ret
    exact ⟨rfl, B0 _⟩
  · obtain ⟨n, hn⟩ : ∃ n, l.length = n + 1 := ⟨l.length - 1, by omega⟩
    obtain ⟨ad, rfl, hF, hc0⟩ := hi 0 (by omega)
    obtain ⟨ad', he, _, hcn⟩ := hi n (by omega)
    cases he
    obtain ⟨x, hx⟩ : ∃ x, l.getD (l.length - 1) 0 = x := ⟨_, rfl⟩
    obtain ⟨y, hy⟩ : ∃ y, l.getD 0 0 = y := ⟨_, rfl⟩
    have ex : l[n]'(by omega) = x := by rw [← hx, show l.length - 1 = n by omega, List.getD_eq_getElem?_getD, List.getElem?_eq_getElem (by omega)]; rfl
    have ey : l[0]'(by omega) = y := by rw [← hy, List.getD_eq_getElem?_getD, List.getElem?_eq_getElem (by omega)]; rfl
    rw [ex] at hcn
    rw [ey] at hc0
    have hz : w.cell? ad = some (.int .i64 y) := by simpa [Addr.add] using hc0
    rw [hx] at g1 hwd'
    rw [hy] at g2 hwd'
    rw [hn] at hlen hc ⊢
    obtain ⟨m, hm⟩ : ∃ m, n + 1 = m := ⟨_, rfl⟩
    rw [hm] at hlen hc ⊢
    have e1 : IntKind.i64.wrap ((m : Int) - 1) = n := by rw [IntWalk.i64_in _ (by omega)]; omega
    have e2 : IntKind.i64.wrap (x - y) = wd := by rw [IntWalk.i64_in _ (by omega)]; omega
    have e3 : (n : Int) < m := by omega
    have e4 : n < m := by omega
    have e5 : (0 : Int) < m := by omega
    have e6 : 0 < m := by omega
    have e7 : ¬ (m : Int) = 0 := by omega
    have e8 : ¬ m = 0 := by omega
    clear hn hm hi hwd hwd' hx hy ex ey hs h h0
    go_enter Tryd.func65, Tryd.ntmps65
    go_upto_region 3 with fail
    go_region
    all_goals
      go_wp2_with fail
      go_ret
      exact ⟨rfl, (B0 _).drew⟩
end Go.Proofs.YtnphdmiondccgaaDoor
